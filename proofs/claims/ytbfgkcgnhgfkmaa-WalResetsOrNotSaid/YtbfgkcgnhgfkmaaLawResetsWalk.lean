/-
  The walk of WalResetsOrNot: it returns true.
-/
import Derived.Test.YtbfgkcgnhgfkmaaWlT
import Derived.Test.YtbfgkcgnhgfkmaaDkCrash
namespace Go.Proofs.Ytbfgkcgnhgfkmaa.Wl
open Go Go.RowKit Go.Proofs.Ytbfgkcgnhgfkmaa.Slc Go.Proofs.Ytbfgkcgnhgfkmaa.Hs
open Go.Proofs.Ytbfgkcgnhgfkmaa.Dk (Fr ptr bstr bstr_size bstr_list bstr_back same_any i64ok small_any NewP St new_rep new_any)
set_option linter.unusedVariables false
set_option linter.unusedSimpArgs false

theorem NewL.fuse {B : Nat} {w w' : World} {d l : Nat} {s : St} {g : Lg} (h : NewL B w w' d l s g) (n : Int) (hn : i64ok n) :
    Calls Try.prog 30 #[.pointer (some ⟨d, 0, none⟩), .int .i64 n] w' fun e w2 => e = .returned (.tuple #[]) ∧ NewL B w w2 d l (s.fuse n) g :=
  h.onP fun F R hr => Dk.fuse_any w' d s F R n hr hn.1 hn.2
theorem eq_data (a b : B) : ((bstr a).toList == (bstr b).toList) = decide (a = b) := by
  rw [ByteArray.toList_eq, ByteArray.toList_eq, bstr_list, bstr_list]
  by_cases q : a = b
  · rw [q]; simp
  · rw [decide_eq_false q]; simpa using q

set_option maxHeartbeats 4000000 in
set_option maxRecDepth 10000 in
theorem law_resets (v0 : Value) (sy : List B) (DA : ByteArray) (fuse keep bts : Int) (w : World) (hz : DA.size ≤ 140737488355328) (hfu : i64ok fuse) (hkp : i64ok keep) (hbt : i64ok bts) (hR : Rq w v0 sy) (hl : sy.length ≤ 9223372036854775807) (hx : ∀ x ∈ sy, x.length ≤ 9223372036854775807) :
    Calls Try.prog 18 #[v0, .string DA, .int .i64 fuse, .int .i64 keep, .int .i64 bts] w fun e w' => e = .returned (.bool true) ∧ Below w.heap.size w w' := by
  obtain ⟨da, rfl⟩ : ∃ b, DA = bstr b := ⟨_, (bstr_back DA).symm⟩
  rw [bstr_size] at hz
  have hds : (bstr da).size = da.length := bstr_size da
  have hsh := wshort_any w v0 sy hR hl hx
  have HAW := Lib.hid (fun W => wawake_any W)
  obtain ⟨ad, c, rfl⟩ := hR.form
  have HA := Lib.hid hR
  by_cases hs : shortS sy = true ∧ da.length ≤ 200
  · rw [hs.1] at hsh
    have t0 : decide ((da.length : Int) > 200) = false := by rw [decide_eq_false_iff_not]; omega
    obtain ⟨hll, hxl⟩ := shortS_len hs.1
    have HX := Lib.hid hxl
    have hdl := hs.2
    have hF := fun W => small_any fuse 6 W hfu.1 hfu.2 (by omega) (by omega)
    have hK := fun W => small_any keep 4 W hkp.1 hkp.2 (by omega) (by omega)
    have hBt := fun W => small_any bts 220 W hbt.1 hbt.2 (by omega) (by omega)
    obtain ⟨N, hN⟩ : ∃ N : Nat, (N : Int) = fuse % 6 := ⟨(fuse % 6).toNat, by omega⟩
    have hN6 : N < 6 := by omega
    rw [← hN] at hF
    have hkb : i64ok (keep % 4) := ⟨by omega, by omega⟩
    have hbb : i64ok (bts % 220) := ⟨by omega, by omega⟩
    generalize keep % 4 = K at *
    generalize bts % 220 = Bt at *
    have HF := Lib.hid hF
    have HK := Lib.hid hK
    have HBt := Lib.hid hBt
    have HKB := Lib.hid hkb
    have HBB := Lib.hid hbb
    have HN := Lib.hid (new_rep w 20000 (by omega))
    rw [new_one 20000 (by omega)] at HN
    have h10 := new_any 20000 w
    have HJ := Lib.hid (fun k => joinB_len 200 (sy.take k) 0 fun x hx => hxl x (List.mem_of_mem_take hx))
    have HED := Lib.hid (fun x => eq_data x da)
    clear hR hl hx hs hxl hK hBt hkb hbb hF hN
    generalize hDS : bstr da = DS at *
    have HDS := Bx.mk hDS
    clear hDS
    go_enter Try.func18, Try.ntmps18
    go_wp2_with fail
    go_at_call 46
    refine hsh.mono ?_
    rintro e w' ⟨rfl, rfl⟩
    clear hsh
    go_wp2_with fail
    go_at_call 20
    refine h10.mono ?_
    rintro e w0 ⟨rfl, hw0⟩
    rw [← hw0] at HN
    clear h10 hw0
    have HN : Hid (NewP w.heap.size w w0 w.heap.size (one 20000 [] [])) := HN
    generalize hd : w.heap.size = d at *
    have HD := Lib.hid hd
    clear hd
    go_wp2_with fail
    go_at_call 50
    refine (NewP.open_ok HN.out lg [] 0 (by decide) (by simp [one]) (by rw [one_read]; simp) (one_open 20000 [] (fun x h => by simp at h) (by simp))).mono ?_
    rintro e w1 ⟨v, l, rfl, hv, h1⟩
    obtain ⟨va, vc, hvf, -⟩ := hv.rd.form
    subst hvf
    have HN1 : Hid (NewL d w w1 d l (one 20000 [] (frames 0 (sy.take 0))) (gat 0 0 0 sy)) := Lib.hid (by simpa [gat, joinB, frames] using h1)
    clear hv h1
    go_wp2_with fail
    go_loopw [15] (fun i wr => ∃ k : Nat, k ≤ sy.length ∧ i = .int .i64 (k : Int) ∧ NewL d w wr d l (one 20000 [] (frames 0 (sy.take k))) (gat 0 0 k sy)) (fun i _ => sy.length - (intOf i).toNat)
    case atStart => exact ⟨0, Nat.zero_le _, rfl, HN1.out⟩
    case round =>
      obtain ⟨k, hk, rfl, hnl⟩ := hrel
      have HNL := Lib.hid hnl
      have hbel := hnl.bel
      clear hnl
      by_cases hlt : k < sy.length
      · obtain ⟨b, o, c', hvf, -, -, hcell⟩ := ((HA.out.below (by rw [HD.out]; exact hbel)).rd (by omega)).cells Dk.encS_ok (by omega)
        simp only [Value.slice.injEq, true_and] at hvf
        obtain ⟨rfl, rfl⟩ := hvf
        have hcl := hcell wr (fun _ _ => rfl) k hlt 0 _ (by omega) rfl
        simp only [Nat.mul_one, Nat.add_zero] at hcl
        have hxk := HX.out _ (List.getElem_mem hlt)
        have hj1 := HJ.out (k + 1)
        rw [List.length_take] at hj1
        have hj0 := HJ.out k
        rw [List.length_take] at hj0
        have hap := HNL.out.append sy[k] (show lg.length ≤ 900 by decide) (by unfold gat; simp only; omega) (by unfold gat; simp only; omega) (by unfold one; simp only; rw [List.length_map, frames_len, List.length_take]; omega) (by omega)
        rw [gat_append 20000 [] sy 0 0 k hlt (by omega) (by omega) (by simp only [List.length_nil]; omega)] at hap
        have HAP := Lib.hid hap
        clear hcell hbel hap hxk hj1 hj0
        generalize bstr sy[k] = X at *
        go_wp2_with fail
        go_at_call 51
        refine HAP.out.mono ?_
        rintro e w2 ⟨rfl, h2⟩
        have H2 := Lib.hid h2
        clear h2
        go_wp2_with fail
        go_roundw
        case rel => exact ⟨k + 1, by omega, by go_num, H2.out⟩
        case measure => simp [intOf]; omega
      · obtain rfl : k = sy.length := by omega
        clear hbel
        have hsy := HNL.out.sync
        rw [List.take_length] at hsy
        obtain ⟨Z, hZ⟩ : ∃ Z, Z = 0 + (joinB 0 (sy.take sy.length)).length := ⟨_, rfl⟩
        have hls := one_lsync 20000 [] sy 0 (0 + sy.length) Z
        have hge : gat 0 0 sy.length sy = ⟨lg, 0 + sy.length, Z, false⟩ := by unfold gat; rw [hZ]
        rw [hge, hls] at hsy
        have hZl : Z ≤ 4160 := by have := HJ.out sy.length; rw [List.length_take] at this; omega
        obtain ⟨X, hX⟩ : ∃ X, X = (⟨lg, 0 + sy.length, Z, false⟩ : Lg).reset ((one 20000 (joinB 0 sy) []).fuse (N : Int)) da := ⟨_, rfl⟩
        obtain ⟨Y, hY⟩ : ∃ Y, Y = X.2.1.append X.1 [122] := ⟨_, rfl⟩
        have hout := resets_plain sy da (0 + sy.length) Z N K Bt hN6 hll HX.out hdl (by omega) (by omega) X Y hX hY
        have HSY : Hid (Calls Try.prog 52 #[.pointer (some ⟨l, 0, none⟩)] wr fun e w2 => e = .returned (.int .i64 0) ∧ NewL d w w2 d l (one 20000 (joinB 0 sy) []) ⟨lg, 0 + sy.length, Z, false⟩) := Lib.hid hsy
        have HOUT := Lib.hid hout
        have HXX := Bx.mk hX
        have HYY := Bx.mk hY
        clear hsy hls hge hZ hout hX hY
        go_wp2_with fail
        go_at_call 52
        refine HSY.out.mono ?_
        rintro e w2 ⟨rfl, h2⟩
        have hfz := h2.fuse (N : Int) ⟨by omega, by omega⟩
        have HFZ := Lib.hid hfz
        clear h2 hfz
        go_wp2_with fail
        go_at_call 23
        refine (HF.out _).mono ?_
        rintro e w' ⟨rfl, rfl⟩
        go_wp2_with fail
        go_at_call 30
        refine HFZ.out.mono ?_
        rintro e w3 ⟨rfl, h3⟩
        have hrs := h3.reset da (show lg.length ≤ 900 by decide) (by rw [one_fuse]; simp) (by omega)
        rw [← HXX.out, HDS.out] at hrs
        have HRS := Lib.hid hrs
        clear h3 hrs
        go_wp2_with fail
        go_at_call 53
        refine HRS.out.mono ?_
        rintro e w4 ⟨rfl, h4⟩
        have hap := h4.append [122] (by rw [HOUT.out.g1]; decide) (by have := HOUT.out.g2; omega) (by have := HOUT.out.g3; omega) (by have := HOUT.out.x1; omega) (by simp)
        rw [← HYY.out] at hap
        have HAP := Lib.hid hap
        clear h4 hap
        go_wp2_with fail
        go_at_call 51
        refine HAP.out.mono ?_
        rintro e w5 ⟨rfl, h5⟩
        have hcra := h5.toP.crash K Bt (by have := HOUT.out.y1; omega) HKB.out HBB.out
        have HCR := Lib.hid hcra
        clear h5 hcra
        go_wp2_with fail
        go_at_call 23
        refine (HK.out _).mono ?_
        rintro e w' ⟨rfl, rfl⟩
        go_wp2_with fail
        go_at_call 23
        refine (HBt.out _).mono ?_
        rintro e w' ⟨rfl, rfl⟩
        go_wp2_with fail
        go_at_call 24
        refine HCR.out.mono ?_
        rintro e w6 ⟨rfl, h6⟩
        obtain ⟨s', r, sz, hop, hcase⟩ := HOUT.out.opn
        have hrl := read_le _ lg h6.ok
        rw [HOUT.out.z2] at hrl
        have hopn := NewP.open_ok h6 lg r sz (by decide) (by rw [HOUT.out.z1]; simp) (by omega) hop
        have HOPN := Lib.hid hopn
        clear h6 hrl hopn hop
        rcases hcase with ⟨hn3, hr⟩ | ⟨hn3, hr⟩
        · have hx0 : X.2.2 = 25 := by rcases HOUT.out.res with ⟨_, q, _⟩ | ⟨q, _⟩; exact q; omega
          have hy0 : Y.2.2 = 28 := by rcases HOUT.out.res with ⟨_, _, q⟩ | ⟨q, _⟩; exact q; omega
          have hn4 : (N : Int) ≤ 3 := by omega
          rw [hx0, hy0]
          have t5 : decide ((N : Int) > 3) = false := by rw [decide_eq_false_iff_not]; omega
          clear hx0 hy0 hn3 hN6
          go_wp2_with fail
          go_at_call 50
          refine HOPN.out.mono ?_
          rintro e w7 ⟨v7, l7, rfl, hv7, h7⟩
          have HB7 := Lib.hid h7.bel
          have HZ7 := Lib.hid h7.size
          have hra := HA.out.below (by rw [HD.out]; exact h7.bel)
          rcases hr with hr | hr
          · subst hr
            obtain ⟨a7, c7, hf7, -⟩ := hv7.rd.form
            have hsm := same_rq w7 v7 _ r r (.inr hv7.rd) hra (by omega) (by omega)
            rw [decide_eq_true rfl] at hsm
            subst hf7
            have HSM := Lib.hid hsm
            clear hv7 h7 hra hsm
            go_wp2_with fail
            go_at_call 32
            refine HSM.out.mono ?_
            rintro e w8 ⟨rfl, hb8⟩
            have HB8 := Lib.hid (HB7.out.trans (hb8.mono HZ7.out))
            have HZ8 := Lib.hid (Nat.le_trans HZ7.out hb8.size)
            clear hb8
            go_wp2_with fail
            go_at_call 43
            refine (HAW.out _).mono ?_
            rintro e w9 ⟨rfl, hb9⟩
            have HB9 := Lib.hid (HB8.out.trans (hb9.mono HZ8.out))
            clear hb9
            go_wp2
            go_ret
            exact ⟨rfl, by rw [HD.out]; exact HB9.out⟩
          · subst hr
            obtain ⟨b7, o7, c7, hf7, -, hbl7, hcell⟩ := hv7.rd.cells Dk.encS_ok (by simp)
            have hsm := same_rq w7 v7 _ [da] sy (.inr hv7.rd) hra (by simp) (by omega)
            have hc0 := hcell w7 (fun _ _ => rfl) 0 (by simp) 0 _ (by omega) rfl
            simp only [List.getElem_cons_zero, Nat.mul_one, Nat.add_zero, Nat.zero_mul] at hc0
            rw [HDS.out] at hc0
            subst hf7
            obtain ⟨qb, hqb⟩ : ∃ q, q = decide ([da] = sy) := ⟨_, rfl⟩
            rw [← hqb] at hsm
            have HSM := Lib.hid hsm
            have heq : (DS.toList == DS.toList) = true := by simp
            clear hv7 h7 hra hsm hcell hqb
            cases qb with
            | true =>
              clear hc0 heq
              go_wp2_with fail
              go_at_call 32
              refine HSM.out.mono ?_
              rintro e w8 ⟨rfl, hb8⟩
              have HB8 := Lib.hid (HB7.out.trans (hb8.mono HZ7.out))
              have HZ8 := Lib.hid (Nat.le_trans HZ7.out hb8.size)
              clear hb8
              go_wp2_with fail
              go_at_call 43
              refine (HAW.out _).mono ?_
              rintro e w9 ⟨rfl, hb9⟩
              have HB9 := Lib.hid (HB8.out.trans (hb9.mono HZ8.out))
              clear hb9
              go_wp2
              go_ret
              exact ⟨rfl, by rw [HD.out]; exact HB9.out⟩
            | false =>
              go_wp2_with fail
              go_at_call 32
              refine HSM.out.mono ?_
              rintro e w8 ⟨rfl, hb8⟩
              have HB8 := Lib.hid (HB7.out.trans (hb8.mono HZ7.out))
              have HZ8 := Lib.hid (Nat.le_trans HZ7.out hb8.size)
              have hc8 : w8.cell? ⟨b7, o7, none⟩ = some (.string DS) := (hb8.cell (p := ⟨b7, o7, none⟩) hbl7).trans hc0
              clear hb8 hc0
              go_wp2_with fail
              go_at_call 43
              refine (HAW.out _).mono ?_
              rintro e w9 ⟨rfl, hb9⟩
              have HB9 := Lib.hid (HB8.out.trans (hb9.mono HZ8.out))
              clear hb9
              go_wp2
              go_ret
              exact ⟨rfl, by rw [HD.out]; exact HB9.out⟩
        · have hx0 : X.2.2 = 0 := by rcases HOUT.out.res with ⟨q, _, _⟩ | ⟨_, q⟩; omega; exact q
          have t5 : decide ((N : Int) > 3) = true := by rw [decide_eq_true_eq]; omega
          have hn4 : 3 < (N : Int) := by omega
          rw [hx0]
          generalize Y.2.2 = ye at *
          have h12 : ∃ r', r = da :: r' ∧ r'.length ≤ 1 := by rcases hr with q | q; exact ⟨[], q, by simp⟩; exact ⟨_, q, by simp⟩
          obtain ⟨r', hr', hrl'⟩ := h12
          clear hx0 hn3 hN6 hr
          go_wp2_with fail
          go_at_call 50
          refine HOPN.out.mono ?_
          rintro e w7 ⟨v7, l7, rfl, hv7, h7⟩
          have HB7 := Lib.hid h7.bel
          have HZ7 := Lib.hid h7.size
          obtain ⟨b7, o7, c7, hf7, -, hbl7, hcell⟩ := hv7.rd.cells Dk.encS_ok (by rw [hr']; simp)
          have hc0 := hcell w7 (fun _ _ => rfl) 0 (by rw [hr']; simp) 0 _ (by omega) rfl
          have hd0 : r[0]'(by rw [hr']; simp) = da := by subst hr'; rfl
          rw [hd0] at hc0
          simp only [Nat.mul_one, Nat.add_zero, Nat.zero_mul] at hc0
          rw [HDS.out] at hc0
          have heq : (DS.toList == DS.toList) = true := by simp
          obtain ⟨m, hm⟩ : ∃ m, m = r.length := ⟨_, rfl⟩
          have hm1 : 1 ≤ m := by rw [hm, hr']; simp
          have hm2 : m ≤ 2 := by rw [hm, hr']; simp; omega
          rw [← hm] at hf7
          subst hf7
          clear hv7 h7 hcell hd0 hm hr' hrl'
          go_wp2_with fail
          go_at_call 43
          refine (HAW.out _).mono ?_
          rintro e w9 ⟨rfl, hb9⟩
          have HB9 := Lib.hid (HB7.out.trans (hb9.mono HZ7.out))
          clear hb9
          go_wp2
          go_ret
          exact ⟨rfl, by rw [HD.out]; exact HB9.out⟩
  · cases hs1 : shortS sy with
    | false =>
      rw [hs1] at hsh
      clear hR hl hx hs
      generalize bstr da = DS at *
      go_enter Try.func18, Try.ntmps18
      go_wp2_with fail
      go_at_call 46
      refine hsh.mono ?_
      rintro e w' ⟨rfl, rfl⟩
      go_wp2_with fail
      go_at_call 43
      refine (HAW.out _).mono ?_
      rintro e w' ⟨rfl, hb⟩
      go_wp2
      go_ret
      exact ⟨rfl, hb⟩
    | true =>
      rw [hs1] at hsh
      have t0 : decide ((da.length : Int) > 200) = true := by rw [decide_eq_true_eq]; have : ¬ da.length ≤ 200 := fun q => hs ⟨hs1, q⟩; omega
      clear hR hl hx hs
      generalize bstr da = DS at *
      go_enter Try.func18, Try.ntmps18
      go_wp2_with fail
      go_at_call 46
      refine hsh.mono ?_
      rintro e w' ⟨rfl, rfl⟩
      go_wp2_with fail
      go_at_call 43
      refine (HAW.out _).mono ?_
      rintro e w' ⟨rfl, hb⟩
      go_wp2
      go_ret
      exact ⟨rfl, hb⟩
end Go.Proofs.Ytbfgkcgnhgfkmaa.Wl
