/-
  The walk of WalRecovers: it returns true.
-/
import Derived.Test.YtbfgkcgnhgfkmaaWlR
import Derived.Test.YtbfgkcgnhgfkmaaDkCrash
namespace Go.Proofs.Ytbfgkcgnhgfkmaa.Wl
open Go Go.RowKit Go.Proofs.Ytbfgkcgnhgfkmaa.Slc Go.Proofs.Ytbfgkcgnhgfkmaa.Hs
open Go.Proofs.Ytbfgkcgnhgfkmaa.Dk (Fr ptr bstr bstr_size bstr_list bstr_back same_any i64ok small_any NewP St new_rep new_any)
set_option linter.unusedVariables false
set_option linter.unusedSimpArgs false

set_option maxHeartbeats 4000000 in
set_option maxRecDepth 10000 in
theorem law_recov (v0 : Value) (sy : List B) (v1 : Value) (la : List B) (keep bts : Int) (w : World) (hkp : i64ok keep) (hbt : i64ok bts) (hR : Rq w v0 sy) (hl : sy.length ≤ 9223372036854775807) (hx : ∀ x ∈ sy, x.length ≤ 9223372036854775807) (hR2 : Rq w v1 la) (hl2 : la.length ≤ 9223372036854775807) (hx2 : ∀ x ∈ la, x.length ≤ 9223372036854775807) :
    Calls Try.prog 16 #[v0, v1, .int .i64 keep, .int .i64 bts] w fun e w' => e = .returned (.bool true) ∧ Below w.heap.size w w' := by
  have hsh := wshort_any w v0 sy hR hl hx
  have hsh2 := wshort_any w v1 la hR2 hl2 hx2
  have HAW := Lib.hid (fun W => wawake_any W)
  obtain ⟨ad, c, rfl⟩ := hR.form
  obtain ⟨ad2, c2, rfl⟩ := hR2.form
  have HA := Lib.hid hR
  have HA2 := Lib.hid hR2
  by_cases hs : shortS sy = true ∧ shortS la = true
  · rw [hs.1] at hsh
    rw [hs.2] at hsh2
    obtain ⟨hll, hxl⟩ := shortS_len hs.1
    obtain ⟨hll2, hxl2⟩ := shortS_len hs.2
    have HX := Lib.hid hxl
    have HX2 := Lib.hid hxl2
    have hK := fun W => small_any keep ((la.length : Int) + 2) W hkp.1 hkp.2 (by omega) (by omega)
    have hBt := fun W => small_any bts 220 W hbt.1 hbt.2 (by omega) (by omega)
    have hkb : i64ok (keep % ((la.length : Int) + 2)) := by
      have h1 := Int.emod_nonneg keep (show (la.length : Int) + 2 ≠ 0 by omega)
      have h2 := Int.emod_lt_of_pos keep (show (0 : Int) < (la.length : Int) + 2 by omega)
      exact ⟨by omega, by omega⟩
    have hbb : i64ok (bts % 220) := ⟨by omega, by omega⟩
    generalize keep % ((la.length : Int) + 2) = K at *
    generalize bts % 220 = Bt at *
    have HK := Lib.hid hK
    have HBt := Lib.hid hBt
    have HKB := Lib.hid hkb
    have HBB := Lib.hid hbb
    have HN := Lib.hid (new_rep w 20000 (by omega))
    rw [new_one 20000 (by omega)] at HN
    have h10 := new_any 20000 w
    have HJ := Lib.hid (fun k => joinB_len 200 (sy.take k) 0 fun x hx => hxl x (List.mem_of_mem_take hx))
    have HJ2 := Lib.hid (fun k => joinB_len 200 (la.take k) sy.length fun x hx => hxl2 x (List.mem_of_mem_take hx))
    clear hR hl hx hR2 hl2 hx2 hs hxl hxl2 hK hBt hkb hbb
    go_enter Try.func16, Try.ntmps16
    go_wp2_with fail
    go_at_call 46
    refine hsh.mono ?_
    rintro e w' ⟨rfl, rfl⟩
    go_wp2_with fail
    go_at_call 46
    refine hsh2.mono ?_
    rintro e w' ⟨rfl, rfl⟩
    clear hsh hsh2
    go_wp2_with fail
    go_at_call 20
    refine h10.mono ?_
    rintro e w0 ⟨rfl, hw0⟩
    rw [← hw0] at HN
    clear h10 hw0
    have HN : Hid (NewP w.heap.size w w0 w.heap.size (one 20000 [] [])) := HN
    generalize hd : w.heap.size = d at *
    have HD := Lib.hid hd
    clear hd
    go_wp2_with fail
    go_at_call 50
    refine (NewP.open_ok HN.out lg [] 0 (by decide) (by simp [one]) (by rw [one_read]; simp) (one_open 20000 [] (fun x h => by simp at h) (by simp))).mono ?_
    rintro e w1 ⟨v, l, rfl, hv, h1⟩
    obtain ⟨va, vc, hvf, -⟩ := hv.rd.form
    subst hvf
    have HN1 : Hid (NewL d w w1 d l (one 20000 [] (frames 0 (sy.take 0))) (gat 0 0 0 sy)) := Lib.hid (by simpa [gat, joinB, frames] using h1)
    clear hv h1
    go_wp2_with fail
    go_loopw [13] (fun i wr => ∃ k : Nat, k ≤ sy.length ∧ i = .int .i64 (k : Int) ∧ NewL d w wr d l (one 20000 [] (frames 0 (sy.take k))) (gat 0 0 k sy)) (fun i _ => sy.length - (intOf i).toNat)
    case atStart => exact ⟨0, Nat.zero_le _, rfl, HN1.out⟩
    case round =>
      obtain ⟨k, hk, rfl, hnl⟩ := hrel
      have HNL := Lib.hid hnl
      have hbel := hnl.bel
      clear hnl
      by_cases hlt : k < sy.length
      · obtain ⟨b, o, c', hvf, -, -, hcell⟩ := ((HA.out.below (by rw [HD.out]; exact hbel)).rd (by omega)).cells Dk.encS_ok (by omega)
        simp only [Value.slice.injEq, true_and] at hvf
        obtain ⟨rfl, rfl⟩ := hvf
        have hcl := hcell wr (fun _ _ => rfl) k hlt 0 _ (by omega) rfl
        simp only [Nat.mul_one, Nat.add_zero] at hcl
        have hxk := HX.out _ (List.getElem_mem hlt)
        have hj1 := HJ.out (k + 1)
        rw [List.length_take] at hj1
        have hj0 := HJ.out k
        rw [List.length_take] at hj0
        have hap := HNL.out.append sy[k] (show lg.length ≤ 900 by decide) (by unfold gat; simp only; omega) (by unfold gat; simp only; omega) (by unfold one; simp only; rw [List.length_map, frames_len, List.length_take]; omega) (by omega)
        rw [gat_append 20000 [] sy 0 0 k hlt (by omega) (by omega) (by simp only [List.length_nil]; omega)] at hap
        have HAP := Lib.hid hap
        clear hcell hbel hap hxk hj1 hj0
        generalize bstr sy[k] = X at *
        go_wp2_with fail
        go_at_call 51
        refine HAP.out.mono ?_
        rintro e w2 ⟨rfl, h2⟩
        have H2 := Lib.hid h2
        clear h2
        go_wp2_with fail
        go_roundw
        case rel => exact ⟨k + 1, by omega, by go_num, H2.out⟩
        case measure => simp [intOf]; omega
      · obtain rfl : k = sy.length := by omega
        clear hbel
        have hsy := HNL.out.sync
        rw [List.take_length] at hsy
        obtain ⟨Z, hZ⟩ : ∃ Z, Z = 0 + (joinB 0 (sy.take sy.length)).length := ⟨_, rfl⟩
        have hls := one_lsync 20000 [] sy 0 (0 + sy.length) Z
        have hge : gat 0 0 sy.length sy = ⟨lg, 0 + sy.length, Z, false⟩ := by unfold gat; rw [hZ]
        rw [hge, hls] at hsy
        have hge2 : (⟨lg, 0 + sy.length, Z, false⟩ : Lg) = gat sy.length Z 0 la := by unfold gat; simp [joinB]
        have hZl : Z ≤ 4160 := by have := HJ.out sy.length; rw [List.length_take] at this; omega
        rw [hge2] at hsy
        have HSY : Hid (Calls Try.prog 52 #[.pointer (some ⟨l, 0, none⟩)] wr fun e w2 => e = .returned (.int .i64 0) ∧ NewL d w w2 d l (one 20000 (joinB 0 sy) (frames sy.length (la.take 0))) (gat sy.length Z 0 la)) := Lib.hid hsy
        have hCl : (joinB 0 sy).length ≤ 4160 := by have := HJ.out sy.length; rw [List.take_length] at this; omega
        clear hsy hls hge hge2 hZ
        go_wp2_with fail
        go_at_call 52
        refine HSY.out.mono ?_
        rintro e w2 ⟨rfl, h2⟩
        have H2 := Lib.hid h2
        clear h2
        go_wp2_with fail
        go_loopw [14] (fun i wr => ∃ k : Nat, k ≤ la.length ∧ i = .int .i64 (k : Int) ∧ NewL d w wr d l (one 20000 (joinB 0 sy) (frames sy.length (la.take k))) (gat sy.length Z k la)) (fun i _ => la.length - (intOf i).toNat)
        case atStart => exact ⟨0, Nat.zero_le _, rfl, H2.out⟩
        case round =>
          obtain ⟨k, hk, rfl, hnl⟩ := hrel
          have HNL := Lib.hid hnl
          have hbel := hnl.bel
          clear hnl
          by_cases hlt : k < la.length
          · obtain ⟨b, o, c', hvf, -, -, hcell⟩ := ((HA2.out.below (by rw [HD.out]; exact hbel)).rd (by omega)).cells Dk.encS_ok (by omega)
            simp only [Value.slice.injEq, true_and] at hvf
            obtain ⟨rfl, rfl⟩ := hvf
            have hcl := hcell wr (fun _ _ => rfl) k hlt 0 _ (by omega) rfl
            simp only [Nat.mul_one, Nat.add_zero] at hcl
            have hxk := HX2.out _ (List.getElem_mem hlt)
            have hj1 := HJ2.out (k + 1)
            rw [List.length_take] at hj1
            have hj0 := HJ2.out k
            rw [List.length_take] at hj0
            have hap := HNL.out.append la[k] (show lg.length ≤ 900 by decide) (by unfold gat; simp only; omega) (by unfold gat; simp only; omega) (by unfold one; simp only; rw [List.length_map, frames_len, List.length_take]; omega) (by omega)
            rw [gat_append 20000 (joinB 0 sy) la sy.length Z k hlt (by omega) (by omega) (by omega)] at hap
            have HAP := Lib.hid hap
            clear hcell hbel hap hxk hj1 hj0
            generalize bstr la[k] = X at *
            go_wp2_with fail
            go_at_call 51
            refine HAP.out.mono ?_
            rintro e w2 ⟨rfl, h2⟩
            have H2 := Lib.hid h2
            clear h2
            go_wp2_with fail
            go_roundw
            case rel => exact ⟨k + 1, by omega, by go_num, H2.out⟩
            case measure => simp [intOf]; omega
          · obtain rfl : k = la.length := by omega
            clear hbel
            obtain ⟨j, b, x, hj, hxl, hb, hbx, hcr⟩ := crash_cut 20000 sy la K Bt (fun y hy => by have := HX2.out y hy; omega)
            have hcra := HNL.out.toP.crash K Bt (by unfold one; simp only; rw [List.length_map, frames_len, List.length_take]; omega) HKB.out HBB.out
            rw [List.take_length, hcr] at hcra
            obtain ⟨RR, hRR⟩ : ∃ R, R = sy ++ la.take j := ⟨_, rfl⟩
            rw [← hRR] at hcra
            have hRl : RR.length ≤ 40 := by rw [hRR, List.length_append, List.length_take]; omega
            have hRx : ∀ y ∈ RR, y.length ≤ 200 := by
              intro y hy
              rw [hRR, List.mem_append] at hy
              exact hy.elim (HX.out y) fun q => HX2.out y (List.mem_of_mem_take q)
            have hRj := joinB_len 200 RR 0 hRx
            have hb2 : b ≤ 208 := by
              rcases hbx with q | ⟨q, rfl⟩
              · omega
              · have := HX2.out _ (List.getElem_mem q); rw [frameB_len] at hb; omega
            obtain ⟨s', ho⟩ := open_cut 20000 RR x (sy.length + j) b (fun y hy => by have := hRx y hy; omega) (by omega) hb hxl (by omega)
            have hcl : (joinB 0 RR ++ (frameB (sy.length + j) x).take b).length ≤ 1000000 := by rw [List.length_append, List.length_take]; omega
            generalize joinB 0 RR ++ (frameB (sy.length + j) x).take b = CC at *
            have HCR := Lib.hid hcra
            have HOP := Bx.mk ho
            have hp1 : RR.take sy.length = sy := by rw [hRR]; exact List.take_left
            have hp2 : (sy ++ la).take RR.length = RR := by
              rw [hRR, List.length_append, List.length_take, Nat.min_eq_left hj, List.take_append, List.take_of_length_le (by omega), Nat.add_sub_cancel_left]
            have HP1 := Bx.mk hp1
            have HP2 := Bx.mk hp2
            have HRL := Lib.hid (show sy.length ≤ RR.length by rw [hRR, List.length_append]; omega)
            have HRL2 := Lib.hid (show RR.length ≤ (sy ++ la).length by rw [hRR, List.length_append, List.length_append, List.length_take]; omega)
            generalize (joinB 0 RR).length = SZ at *
            clear hcra hbx hRR hRx hRj hb2 hb hxl hcr hj ho hp1 hp2
            go_wp2_with fail
            go_at_call 23
            refine (HK.out _).mono ?_
            rintro e w' ⟨rfl, rfl⟩
            go_wp2_with fail
            go_at_call 23
            refine (HBt.out _).mono ?_
            rintro e w' ⟨rfl, rfl⟩
            go_wp2_with fail
            go_at_call 24
            refine HCR.out.mono ?_
            rintro e w5 ⟨rfl, h5⟩
            have H5 := Lib.hid h5
            clear h5
            go_wp2_with fail
            go_at_call 50
            refine (NewP.open_ok H5.out lg RR SZ (by decide) (by simp [one]) (by rw [one_read]; omega) HOP.out).mono ?_
            rintro e w6 ⟨v6, l6, rfl, hv6, h6⟩
            obtain ⟨a6, c6, hf6, -⟩ := hv6.rd.form
            have HV6 := Lib.hid hv6.rd
            have HB6 := Lib.hid h6.bel
            have HZ6 := Lib.hid h6.size
            have hw7 := heap_alloc_new w6 (.cells #[] 9)
            have hsrc1 := ((HA.out.below (by rw [HD.out]; exact h6.bel)).below ((Below.refl _ _).alloc (Nat.le_refl _) (.cells #[] 9))).src
            have HSR2 := Lib.hid (fun (W : World) (hb : Below w6.heap.size w6 W) => ((HA2.out.below (by rw [HD.out]; exact h6.bel)).below hb).src)
            obtain ⟨i0, hi0, hz0, hz1, hz2'⟩ := info_parts info_strs
            subst hf6
            clear hv6 h6
            go_wp2_with (at_builtin; refine wpList_append_fresh rfl _ _ _ rfl w6.heap.size 9 i0 _ 1 16 und_strs hi0 hz0 hz1 hz2' rfl (by decide) w6.heap.size rfl hw7 (Nat.le_refl _) (by simp) _ sy.length (sy.flatMap Dk.encS) rfl hsrc1 (by unfold maxLen; omega) (by omega) ?_)
            intro v8 w8 hown8 hb8 _
            have hb8' : Below w6.heap.size w6 w8 := ((Below.refl _ _).alloc (Nat.le_refl _) _).trans (hb8.mono (by simp))
            have hsrc2 := HSR2.out w8 hb8'
            have ho8 : Own w8 w6.heap.size 9 1 Dk.encS v8 sy := hown8
            obtain ⟨a8, c8, hf8, -⟩ := ho8.rd.form
            subst hf8
            have HB8 := Lib.hid hb8'
            have HO8 := Lib.hid ho8
            clear hw7 hsrc1 hb8
            go_wp2_with (at_builtin; refine wpList_append_any rfl _ _ _ rfl w6.heap.size 9 i0 _ 1 16 und_strs hi0 hz0 hz1 hz2' rfl (by decide) _ sy.length (sy.flatMap Dk.encS) rfl ho8 _ la.length (la.flatMap Dk.encS) rfl hsrc2 (by unfold maxLen; omega) (by omega) hb8'.size ?_)
            intro v9 w9 hap
            have ho9 : Own w9 w6.heap.size 9 1 Dk.encS v9 (sy ++ la) := Own.apd (l := sy) (m := la) HO8.out rfl rfl rfl rfl hap
            have HB9 := Lib.hid (HB8.out.trans ((Fr.grown (F := fun k => w6.heap.size ≤ k) hap.grown fun k hk _ => (World.ownsRow.lt HO8.out k hk).1).toBelow HB8.out.size fun k hk => hk))
            obtain ⟨a9, c9, hf9, -⟩ := ho9.rd.form
            have hll9 : (sy ++ la).length ≤ 40 := by rw [List.length_append]; omega
            have HO9 := Lib.hid ho9.rd
            generalize sy ++ la = AL at *
            subst hf9
            have hpf1 := prefix_yes w9 _ _ RR sy (.inr (HV6.out.below HB9.out)) ((HA.out.below (by rw [HD.out]; exact HB6.out)).below HB9.out) HRL.out HP1.out (by omega)
            have HPF1 := Lib.hid hpf1
            have HPF2 := Lib.hid (fun (W : World) (hb : Below w9.heap.size w9 W) => prefix_yes W _ _ AL RR (.inr (HO9.out.below hb)) (.inr ((HV6.out.below HB9.out).below hb)) HRL2.out HP2.out (by omega))
            clear ho9 hap ho8 hown8 hsrc2 hb8' hpf1
            go_wp2_with fail
            go_at_call 56
            refine HPF1.out.mono ?_
            rintro e w10 ⟨rfl, hb10⟩
            have hp2 := HPF2.out w10 hb10
            have HPG := Lib.hid hp2
            have HB10 := Lib.hid (HB9.out.trans (hb10.mono HB9.out.size))
            clear hb10 hp2
            go_wp2_with fail
            go_at_call 56
            refine HPG.out.mono ?_
            rintro e w11 ⟨rfl, hb11⟩
            have HB11 := Lib.hid (HB10.out.trans (hb11.mono HB10.out.size))
            clear hb11
            go_wp2_with fail
            go_at_call 43
            refine (HAW.out _).mono ?_
            rintro e w12 ⟨rfl, hb12⟩
            have HB12 := Lib.hid (HB6.out.trans ((HB11.out.trans (hb12.mono HB11.out.size)).mono HZ6.out))
            clear hb12
            go_wp2
            go_ret
            exact ⟨rfl, by rw [HD.out]; exact HB12.out⟩
  · cases hs1 : shortS sy with
    | false =>
      rw [hs1] at hsh
      clear hR hl hx hs hR2 hl2 hx2 hsh2
      go_enter Try.func16, Try.ntmps16
      go_wp2_with fail
      go_at_call 46
      refine hsh.mono ?_
      rintro e w' ⟨rfl, rfl⟩
      go_wp2_with fail
      go_at_call 43
      refine (HAW.out _).mono ?_
      rintro e w' ⟨rfl, hb⟩
      go_wp2
      go_ret
      exact ⟨rfl, hb⟩
    | true =>
      rw [hs1] at hsh
      have hs2 : shortS la = false := by cases q : shortS la with | false => rfl | true => exact absurd ⟨hs1, q⟩ hs
      rw [hs2] at hsh2
      clear hR hl hx hs hR2 hl2 hx2
      go_enter Try.func16, Try.ntmps16
      go_wp2_with fail
      go_at_call 46
      refine hsh.mono ?_
      rintro e w' ⟨rfl, rfl⟩
      go_wp2_with fail
      go_at_call 46
      refine hsh2.mono ?_
      rintro e w' ⟨rfl, rfl⟩
      go_wp2_with fail
      go_at_call 43
      refine (HAW.out _).mono ?_
      rintro e w' ⟨rfl, hb⟩
      go_wp2
      go_ret
      exact ⟨rfl, hb⟩
end Go.Proofs.Ytbfgkcgnhgfkmaa.Wl
