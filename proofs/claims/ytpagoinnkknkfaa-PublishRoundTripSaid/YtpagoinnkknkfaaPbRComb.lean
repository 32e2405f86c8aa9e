/-
  The reference's Combine.
-/
import Derived.Test.YtpagoinnkknkfaaPbRDiff
namespace Go.Proofs.Ytpagoinnkknkfaa.Pb
open Go Go.RowKit Go.Proofs.Ytpagoinnkknkfaa.Slc
set_option linter.unusedVariables false
set_option linter.unusedSimpArgs false
attribute [local go_sem] Oper.semAt_some

theorem filt_snoc (l : List Et) (k : Nat) (hk : k < l.length) (f : En → Bool) : (ens (l.take (k + 1))).filter f = (ens (l.take k)).filter f ++ (if f (l[k]).e then [(l[k]).e] else []) := by
  have h : ens (l.take (k + 1)) = ens (l.take k) ++ [(l[k]).e] := by rw [ens, List.take_succ_eq_append_getElem hk, List.map_append]; rfl
  rw [h, List.filter_append]; simp only [List.filter_cons, List.filter_nil]
set_option maxRecDepth 100000 in
set_option maxHeartbeats 4000000 in
theorem rcomb_any (w : World) (vb vd : Value) (base delta : List Et) (ho : EL w vb base) (hw : EL w vd delta) (hlo : base.length ≤ 10000) (hln : delta.length ≤ 10000) :
    Calls Try.prog 31 #[vb, vd] w fun e w' => ∃ v' l', e = .returned (.tuple #[v', .int .i64 (combE (ens base) (ens delta)).2]) ∧ EL w' v' l' ∧ ens l' = (combE (ens base) (ens delta)).1 ∧ Below w.heap.size w w' := by
  obtain ⟨i0, hi0, hz0, hz1, hz2⟩ := info_parts info_entry
  obtain ⟨M, hM⟩ : ∃ M, M = combE (ens base) (ens delta) := ⟨_, rfl⟩
  rw [← hM]
  have HM := Bx.mk (show M = if dupE (ens base) || dupE (ens delta) then ([], 10) else if (ens base).any (fun e => decide (e.r = 8)) then ([], 7) else (sortE ((ens base).filter (fun e => (findE (ens delta) e).isNone) ++ (ens delta).filter (fun e => decide (e.r ≠ 8))), 0) from hM)
  clear hM
  obtain ⟨oa, oc, rfl, -⟩ := ho.rd.form
  obtain ⟨na, nc, rfl, -⟩ := hw.rd.form
  have HO := Bx.mk ho
  have HN := Bx.mk hw
  have HCO := Bx.mk ho.cells.2
  have HCN := Bx.mk hw.cells.2
  have hd1 := rdouble_any w _ base ho (by omega)
  have HD2 := Bx.mk (show ∀ W, Below w.heap.size w W → Calls Try.prog 52 #[.slice na delta.length nc] W fun e w' => e = .returned (.bool (dupE (ens delta))) ∧ Below W.heap.size W w' from fun W hW => rdouble_any W _ delta (hw.below hW) (by omega))
  clear ho hw
  generalize dupE (ens base) = D1 at *
  generalize dupE (ens delta) = D2 at *
  cases D1 with
  | true =>
    have HMM := Bx.mk (show M = ([], 10) by rw [HM.out]; simp)
    go_enter Try.func31, Try.ntmps31
    go_wp2_with fail
    refine hd1.mono ?_
    rintro e w1 ⟨rfl, hb1⟩
    clear hd1
    go_wp2_with fail
    go_ret2
    exact ⟨.slice none 0 0, [], by rw [show M = _ from HMM.out]; rfl, EL.nil _, by rw [show M = _ from HMM.out]; rfl, hb1⟩
  | false =>
  go_enter Try.func31, Try.ntmps31
  go_wp2_with fail
  refine hd1.mono ?_
  rintro e w1 ⟨rfl, hb1⟩
  clear hd1
  have hd2 := HD2.out w1 hb1
  have HB1 := Bx.mk hb1
  clear hb1
  cases D2 with
  | true =>
    have HMM := Bx.mk (show M = ([], 10) by rw [HM.out]; simp)
    go_wp2_with fail
    refine hd2.mono ?_
    rintro e w2 ⟨rfl, hb2⟩
    have HB2 := Bx.mk (HB1.out.trans (hb2.mono HB1.out.size))
    clear hd2 hb2
    go_wp2_with fail
    go_ret2
    exact ⟨.slice none 0 0, [], by rw [show M = _ from HMM.out]; rfl, EL.nil _, by rw [show M = _ from HMM.out]; rfl, HB2.out⟩
  | false =>
  go_wp2_with fail
  refine hd2.mono ?_
  rintro e w2 ⟨rfl, hb2⟩
  have HB2 := Bx.mk (HB1.out.trans (hb2.mono HB1.out.size))
  have HM2 := Bx.mk (show M = if (ens base).any (fun e => decide (e.r = 8)) then ([], 7) else (sortE ((ens base).filter (fun e => (findE (ens delta) e).isNone) ++ (ens delta).filter (fun e => decide (e.r ≠ 8))), 0) by rw [HM.out]; simp)
  clear hd2 hb2 HM HB1 HD2
  go_wp2_with fail
  go_loopw [6, 7] (fun ov i wr => ∃ (k : Nat) (out : List Et), k ≤ base.length ∧ i = .int .i64 k ∧ out.length ≤ k ∧ GE w w.heap.size wr ov out ∧ Bx (ens out = (ens (base.take k)).filter (fun e => (findE (ens delta) e).isNone) ∧ ∀ e ∈ ens (base.take k), e.r ≠ 8)) (fun _ i _ => base.length - (intOf i).toNat)
  case atStart => exact ⟨0, [], by omega, rfl, by simp, ⟨EO.nil _ _, HB2.out, Nat.le_refl _⟩, ⟨by simp [ens], fun e he => by simp [ens] at he⟩⟩
  case round =>
    obtain ⟨k, out, hk, rfl, hlen, hG, hF⟩ := hrel
    obtain ⟨av, cv, rfl, -⟩ := hG.form
    have HGE := Bx.mk hG
    have HLEN := Bx.mk hlen
    have hBw : Below w.heap.size w wr := hG.bel
    have HBW := Bx.mk hBw
    by_cases hlt : k < base.length
    · obtain ⟨b, o, rfl, hbl, c0, c1, c2, c3, c4⟩ := HCO.out wr hBw k hlt
      have HFT := Bx.mk (filt_snoc base k hlt (fun e => (findE (ens delta) e).isNone))
      have HR8 := Bx.mk (show (base[k]).e.r ≠ 8 → ∀ e ∈ ens (base.take (k + 1)), e.r ≠ 8 from fun h e he => by
        rw [ens, List.take_succ_eq_append_getElem hlt, List.map_append, List.mem_append] at he
        rcases he with he | he
        · exact hF.out.2 e he
        · simp only [List.map_cons, List.map_nil, List.mem_singleton] at he; subst he; exact h)
      have HA8 := Bx.mk (show (base[k]).e.r = 8 → (ens base).any (fun e => decide (e.r = 8)) = true from fun h => by
        rw [List.any_eq_true]; exact ⟨(base[k]).e, List.mem_map_of_mem (List.getElem_mem hlt), by simpa using h⟩)
      obtain ⟨z, hz⟩ : ∃ z, z = base[k] := ⟨_, rfl⟩
      rw [← hz] at c0 c1 c2 c3 c4 HFT HR8 HA8
      have hmem : z ∈ base := by rw [hz]; exact List.getElem_mem hlt
      have HCK := Bx.mk (show ∀ W, Below wr.heap.size wr W → W.cell? ⟨b, o + k * 5, none⟩ = some (.int .i64 z.e.s) ∧ W.cell? ⟨b, o + k * 5 + 1, none⟩ = some (.int .i64 z.e.t) ∧ W.cell? ⟨b, o + k * 5 + 2, none⟩ = some (.int .i64 z.e.r) ∧ W.cell? ⟨b, o + k * 5 + 3, none⟩ = some (.int .i64 z.e.v) ∧ W.cell? ⟨b, o + k * 5 + 4, none⟩ = some z.u.val from fun W hW => by
        have hbw : b < wr.heap.size := Nat.lt_of_lt_of_le hbl HBW.out.size
        exact ⟨(hW.cell (p := ⟨b, o + k * 5, none⟩) hbw).trans c0, (hW.cell (p := ⟨b, o + k * 5 + 1, none⟩) hbw).trans c1, (hW.cell (p := ⟨b, o + k * 5 + 2, none⟩) hbw).trans c2, (hW.cell (p := ⟨b, o + k * 5 + 3, none⟩) hbw).trans c3, (hW.cell (p := ⟨b, o + k * 5 + 4, none⟩) hbw).trans c4⟩)
      have HZ := Bx.mk (HO.out.at_ z hmem)
      have hc1 := rfind_any wr _ delta z (HN.out.below hBw) (HZ.out.below hBw) (by omega)
      have HID := Bx.mk (show (idxI delta z.e = -1 ∧ (findE (ens delta) z.e).isNone = true) ∨ ∃ (j : Nat), idxI delta z.e = (j : Nat) ∧ (findE (ens delta) z.e).isNone = false by
        rcases idx_cases delta z.e with ⟨q1, q2⟩ | ⟨j, hj, q1, q2⟩
        · exact .inl ⟨q1, by rw [q2]; rfl⟩
        · exact .inr ⟨j, q1, by rw [q2]; rfl⟩)
      unfold entV at hc1
      obtain ⟨⟨ua, un, uc⟩, hu⟩ : ∃ u : Sl, z.u = u := ⟨_, rfl⟩
      have HZC := Bx.mk (show encE z = [.int .i64 z.e.s, .int .i64 z.e.t, .int .i64 z.e.r, .int .i64 z.e.v, .slice ua un uc] by unfold encE; rw [hu]; rfl)
      rw [hu] at hc1 HCK c4
      simp only [Sl.val] at hc1 HCK c4
      clear hz hmem hu hG hlen hbl hBw
      generalize (findE (ens delta) z.e).isNone = NB at *
      obtain ⟨wo, hwo⟩ : ∃ wo, wo = wr := ⟨_, rfl⟩
      subst hwo
      obtain ⟨q1, hq1⟩ : ∃ q1, q1 = idxI delta z.e := ⟨_, rfl⟩
      rw [← hq1] at hc1 HID
      clear hq1
      generalize z.e.s = S1 at *
      generalize z.e.t = T1 at *
      generalize z.e.r = R1 at *
      generalize z.e.v = V1 at *
      by_cases h8 : R1 = 8
      · subst h8
        have HMM := Bx.mk (show M = ([], 7) by rw [HM2.out, if_pos (HA8.out rfl)])
        clear HFT HR8 HA8 HID hF
        go_wp2_with fail
        go_ret2
        exact ⟨.slice none 0 0, [], by rw [show M = _ from HMM.out]; rfl, EL.nil _, by rw [show M = _ from HMM.out]; rfl, HBW.out⟩
      · have t8 : (R1 == 8) = false := by simpa using h8
        have HR9 := Bx.mk (HR8.out h8)
        clear h8 HR8 HA8
        rcases HID.out with ⟨hq, hnb⟩ | ⟨j, hq, hnb⟩
        · subst hq
          have HNX := Bx.mk (show ens (out ++ [z]) = (ens (base.take (k + 1))).filter (fun e => (findE (ens delta) e).isNone) by rw [HFT.out, hnb, ← hF.out.1]; simp [ens])
          clear HFT hnb hF
          go_wp2_with fail
          refine hc1.mono ?_
          rintro e wc ⟨rfl, hb4⟩
          have HB4 := Bx.mk hb4
          clear hc1 hb4 c0 c1 c2 c3 c4
          obtain ⟨c0, c1, c2, c3, c4⟩ := HCK.out wc HB4.out
          have hba : Below wc.heap.size wc (wc.alloc (.cells #[.int .i64 S1, .int .i64 T1, .int .i64 R1, .int .i64 V1, .slice ua un uc] 44)) := (Below.refl _ _).alloc (Nat.le_refl _) _
          have HG5 := Bx.mk ((HGE.out.below HB4.out).below hba)
          have HZI := Bx.mk (EtAt.other HG5.out HZ.out fun k hk => hk)
          have hsrc : SrcV (wc.alloc (.cells #[.int .i64 S1, .int .i64 T1, .int .i64 R1, .int .i64 V1, .slice ua un uc] 44)) 5 (.slice (some ⟨wc.heap.size, 0, none⟩) 1 1) 1 ([z].flatMap encE) := src_new encE_ok (by rw [heap_alloc_new, HZC.out])
          have hsz := HG5.out.sz
          have hm1 : out.length + 1 ≤ maxLen := by have := HLEN.out; unfold maxLen; omega
          have hm2 : (out.length + 1) * 56 ≤ 140737488355328 := by have := HLEN.out; omega
          have HOWN := Bx.mk HG5.out.eo.own
          have HEI := Bx.mk (show ∀ y ∈ [z], EtIn (wc.alloc (.cells #[.int .i64 S1, .int .i64 T1, .int .i64 R1, .int .i64 V1, .slice ua un uc] 44)) (fun k => (Value.slice av out.length cv).ownBlock ≠ some k) y from fun y hy => by
            rw [List.mem_singleton] at hy; subst hy; exact HZI.out)
          clear hba
          go_wp2_with (refine wpList_append_any rfl _ _ _ rfl w.heap.size 44 i0 _ 5 56 und_entries hi0 hz0 hz1 hz2 rfl (by decide) _ out.length (out.flatMap encE) rfl HOWN.out _ 1 ([z].flatMap encE) rfl hsrc hm1 hm2 hsz ?_)
          intro v9 w9 hapd
          have HG9 := Bx.mk (HG5.out.apd (m := [z]) HEI.out rfl rfl rfl rfl hapd)
          clear hapd hsrc hsz HOWN hm1 hm2 c0 c1 c2 c3 c4
          go_wp2
          go_roundw
          case rel => exact ⟨k + 1, out ++ [z], by omega, by go_num, by have := HLEN.out; simp; omega, HG9.out, ⟨HNX.out, HR9.out⟩⟩
          case measure => simp [intOf]; omega
        · subst hq
          have tn : decide ((j : Int) < 0) = false := by simp
          have HNX := Bx.mk (show ens out = (ens (base.take (k + 1))).filter (fun e => (findE (ens delta) e).isNone) by rw [HFT.out, hnb, ← hF.out.1]; simp)
          clear HFT hnb hF
          go_wp2_with fail
          refine hc1.mono ?_
          rintro e wc ⟨rfl, hb4⟩
          have HB4 := Bx.mk hb4
          clear hc1 hb4 c0 c1 c2 c3 c4
          go_wp2
          go_roundw
          case rel => exact ⟨k + 1, out, by omega, by go_num, by have := HLEN.out; omega, HGE.out.below HB4.out, ⟨HNX.out, HR9.out⟩⟩
          case measure => simp [intOf]; omega
    · obtain rfl : k = base.length := by omega
      have HD1 := Bx.mk (show ens out = (ens base).filter (fun e => (findE (ens delta) e).isNone) by rw [hF.out.1, List.take_length])
      have HM3 := Bx.mk (show M = (sortE (ens out ++ (ens delta).filter (fun e => decide (e.r ≠ 8))), 0) by
        rw [HM2.out, if_neg, HD1.out]
        rw [Bool.not_eq_true, List.any_eq_false]
        intro e he
        have := hF.out.2 e (by rw [List.take_length]; exact he)
        simpa using this)
      clear hF hG hBw hlt HM2
      obtain ⟨out1, hout1⟩ : ∃ out1, out1 = ens out := ⟨_, rfl⟩
      rw [← hout1] at HM3
      have HO1 := Bx.mk hout1
      clear hout1
      go_wp2_with fail
      go_loopw [6, 8] (fun ov i wr => ∃ (k : Nat) (out2 : List Et), k ≤ delta.length ∧ i = .int .i64 k ∧ out2.length ≤ base.length + k ∧ GE w w.heap.size wr ov out2 ∧ Bx (ens out2 = out1 ++ (ens (delta.take k)).filter (fun e => decide (e.r ≠ 8)))) (fun _ i _ => delta.length - (intOf i).toNat)
      case atStart => exact ⟨0, out, by omega, rfl, by have := HLEN.out; omega, HGE.out, ⟨by rw [HO1.out]; simp [ens]⟩⟩
      case round =>
        obtain ⟨k, out, hk, rfl, hlen, hG, hF⟩ := hrel
        obtain ⟨av, cv, rfl, -⟩ := hG.form
        have HGE := Bx.mk hG
        have HLEN := Bx.mk hlen
        have hBw : Below w.heap.size w wr := hG.bel
        have HBW := Bx.mk hBw
        by_cases hlt : k < delta.length
        · obtain ⟨b, o, rfl, hbl, c0, c1, c2, c3, c4⟩ := HCN.out wr hBw k hlt
          have HFT := Bx.mk (filt_snoc delta k hlt (fun e => decide (e.r ≠ 8)))
          obtain ⟨z, hz⟩ : ∃ z, z = delta[k] := ⟨_, rfl⟩
          rw [← hz] at c0 c1 c2 c3 c4 HFT
          have hmem : z ∈ delta := by rw [hz]; exact List.getElem_mem hlt
          have HCK := Bx.mk (show ∀ W, Below wr.heap.size wr W → W.cell? ⟨b, o + k * 5, none⟩ = some (.int .i64 z.e.s) ∧ W.cell? ⟨b, o + k * 5 + 1, none⟩ = some (.int .i64 z.e.t) ∧ W.cell? ⟨b, o + k * 5 + 2, none⟩ = some (.int .i64 z.e.r) ∧ W.cell? ⟨b, o + k * 5 + 3, none⟩ = some (.int .i64 z.e.v) ∧ W.cell? ⟨b, o + k * 5 + 4, none⟩ = some z.u.val from fun W hW => by
            have hbw : b < wr.heap.size := Nat.lt_of_lt_of_le hbl HBW.out.size
            exact ⟨(hW.cell (p := ⟨b, o + k * 5, none⟩) hbw).trans c0, (hW.cell (p := ⟨b, o + k * 5 + 1, none⟩) hbw).trans c1, (hW.cell (p := ⟨b, o + k * 5 + 2, none⟩) hbw).trans c2, (hW.cell (p := ⟨b, o + k * 5 + 3, none⟩) hbw).trans c3, (hW.cell (p := ⟨b, o + k * 5 + 4, none⟩) hbw).trans c4⟩)
          have HZ := Bx.mk (HN.out.at_ z hmem)
          obtain ⟨⟨ua, un, uc⟩, hu⟩ : ∃ u : Sl, z.u = u := ⟨_, rfl⟩
          have HZC := Bx.mk (show encE z = [.int .i64 z.e.s, .int .i64 z.e.t, .int .i64 z.e.r, .int .i64 z.e.v, .slice ua un uc] by unfold encE; rw [hu]; rfl)
          rw [hu] at HCK c4
          simp only [Sl.val] at HCK c4
          clear hz hmem hu hG hlen hbl hBw
          obtain ⟨wo, hwo⟩ : ∃ wo, wo = wr := ⟨_, rfl⟩
          subst hwo
          generalize z.e.s = S1 at *
          generalize z.e.t = T1 at *
          generalize z.e.r = R1 at *
          generalize z.e.v = V1 at *
          by_cases h8 : R1 = 8
          · have t8 : (R1 != 8) = false := by simp [h8]
            have HNX := Bx.mk (show ens out = out1 ++ (ens (delta.take (k + 1))).filter (fun e => decide (e.r ≠ 8)) by rw [HFT.out, hF.out]; simp [h8])
            clear HFT hF h8
            go_wp2_with fail
            go_roundw
            case rel => exact ⟨k + 1, out, by omega, by go_num, by have := HLEN.out; omega, HGE.out, HNX⟩
            case measure => simp [intOf]; omega
          · have t8 : (R1 != 8) = true := by simpa using h8
            have HNX := Bx.mk (show ens (out ++ [z]) = out1 ++ (ens (delta.take (k + 1))).filter (fun e => decide (e.r ≠ 8)) by rw [HFT.out, ← List.append_assoc, ← hF.out]; simp [ens, h8])
            have HB4 := Bx.mk (Below.refl wo.heap.size wo)
            clear HFT hF h8
            clear c0 c1 c2 c3 c4
            obtain ⟨c0, c1, c2, c3, c4⟩ := HCK.out wo HB4.out
            have hba : Below wo.heap.size wo (wo.alloc (.cells #[.int .i64 S1, .int .i64 T1, .int .i64 R1, .int .i64 V1, .slice ua un uc] 44)) := (Below.refl _ _).alloc (Nat.le_refl _) _
            have HG5 := Bx.mk ((HGE.out.below HB4.out).below hba)
            have HZI := Bx.mk (EtAt.other HG5.out HZ.out fun k hk => hk)
            have hsrc : SrcV (wo.alloc (.cells #[.int .i64 S1, .int .i64 T1, .int .i64 R1, .int .i64 V1, .slice ua un uc] 44)) 5 (.slice (some ⟨wo.heap.size, 0, none⟩) 1 1) 1 ([z].flatMap encE) := src_new encE_ok (by rw [heap_alloc_new, HZC.out])
            have hsz := HG5.out.sz
            have hm1 : out.length + 1 ≤ maxLen := by have := HLEN.out; unfold maxLen; omega
            have hm2 : (out.length + 1) * 56 ≤ 140737488355328 := by have := HLEN.out; omega
            have HOWN := Bx.mk HG5.out.eo.own
            have HEI := Bx.mk (show ∀ y ∈ [z], EtIn (wo.alloc (.cells #[.int .i64 S1, .int .i64 T1, .int .i64 R1, .int .i64 V1, .slice ua un uc] 44)) (fun k => (Value.slice av out.length cv).ownBlock ≠ some k) y from fun y hy => by
              rw [List.mem_singleton] at hy; subst hy; exact HZI.out)
            clear hba
            go_wp2_with (refine wpList_append_any rfl _ _ _ rfl w.heap.size 44 i0 _ 5 56 und_entries hi0 hz0 hz1 hz2 rfl (by decide) _ out.length (out.flatMap encE) rfl HOWN.out _ 1 ([z].flatMap encE) rfl hsrc hm1 hm2 hsz ?_)
            intro v9 w9 hapd
            have HG9 := Bx.mk (HG5.out.apd (m := [z]) HEI.out rfl rfl rfl rfl hapd)
            clear hapd hsrc hsz HOWN hm1 hm2 c0 c1 c2 c3 c4
            go_wp2
            go_roundw
            case rel => exact ⟨k + 1, out ++ [z], by omega, by go_num, by have := HLEN.out; simp; omega, HG9.out, HNX⟩
            case measure => simp [intOf]; omega
        · obtain rfl : k = delta.length := by omega
          have HMM := Bx.mk (show M = (sortE (ens out), 0) by rw [HM3.out, hF.out, List.take_length])
          have hs := rsort_any wr _ out hG.eo.el (by omega)
          clear hF hG hBw HM3
          go_wp2_with fail
          refine hs.mono ?_
          rintro e w2 ⟨v2, l2, rfl, -, hel, hens, hb2⟩
          have HB3 := Bx.mk (HBW.out.trans (hb2.mono HBW.out.size))
          have HEL2 := Bx.mk hel
          have HE3 := Bx.mk hens
          obtain ⟨ra, rc, rfl, -⟩ := hel.rd.form
          clear hs hens hb2 hel
          go_wp2
          go_ret2
          exact ⟨_, l2, by rw [show M = _ from HMM.out]; rfl, HEL2.out, by rw [show M = _ from HMM.out]; exact HE3.out, HB3.out⟩
end Go.Proofs.Ytpagoinnkknkfaa.Pb
