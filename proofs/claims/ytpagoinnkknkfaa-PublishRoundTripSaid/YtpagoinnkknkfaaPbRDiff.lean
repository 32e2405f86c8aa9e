/-
  The reference's Difference and Combine.
-/
import Derived.Test.YtpagoinnkknkfaaPbRSort
import Derived.Test.YtpagoinnkknkfaaPbComb
namespace Go.Proofs.Ytpagoinnkknkfaa.Pb
open Go Go.RowKit Go.Proofs.Ytpagoinnkknkfaa.Slc
set_option linter.unusedVariables false
set_option linter.unusedSimpArgs false
attribute [local go_sem] Oper.semAt_some

theorem idx_cases (l : List Et) (e : En) : (idxI l e = -1 ∧ findE (ens l) e = none) ∨ ∃ (j : Nat) (hj : j < l.length), idxI l e = (j : Nat) ∧ findE (ens l) e = some (l[j]).e := by
  cases q : findE (ens l) e with
  | none =>
    refine .inl ⟨idx_none l e fun j hj => ?_, rfl⟩
    exact find_none.1 q _ (List.mem_map_of_mem (List.getElem_mem hj))
  | some x =>
    right
    have hlen : (ens l).length = l.length := by simp [ens]
    unfold findE at q
    rw [List.find?_eq_some_iff_getElem] at q
    obtain ⟨h1, j, hj, h2, h3⟩ := q
    have hj' : j < l.length := by rw [← hlen]; exact hj
    have hx : (l[j]).e = x := by simpa [ens] using h2
    refine ⟨j, hj', idx_at l e j hj' (fun i hi => ?_) (by rw [hx]; exact h1), by rw [hx]⟩
    have := h3 i hi
    simpa [ens] using this
theorem idx_first (l : List Et) (k : Nat) (hk : k < l.length) : idxI l (l[k]).e = (k : Nat) ↔ findE (ens (l.take k)) (l[k]).e = none := by
  rw [find_none]
  constructor
  · intro h x hx
    obtain ⟨y, hy, rfl⟩ := List.mem_map.1 hx
    obtain ⟨j, hj, rfl⟩ := List.mem_iff_getElem.1 hy
    rw [List.length_take] at hj
    rw [List.getElem_take]
    rcases idx_cases l (l[k]).e with ⟨h1, -⟩ | ⟨j', hj', h1, h2⟩
    · rw [h1] at h; omega
    · rw [h1] at h
      obtain rfl : j' = k := by omega
      unfold findE at h2
      rw [List.find?_eq_some_iff_getElem] at h2
      obtain ⟨-, i, hi, h3, h4⟩ := h2
      cases q : about (l[j]).e (l[j']).e with
      | false => rfl
      | true =>
        exfalso
        have hij : i ≤ j := by
          apply Nat.le_of_not_lt; intro hlt
          have := h4 j hlt
          simp only [ens, List.getElem_map] at this
          rw [q] at this; cases this
        have hlt : i < l.length := by omega
        have := idx_at l (l[j']).e i hlt (fun m hm => by have := h4 m hm; simpa [ens] using this) (by
          have h5 : (l[i]).e = (l[j']).e := by simpa [ens] using h3
          rw [h5]; exact about_refl _)
        rw [h1] at this; omega
  · intro h
    refine idx_at l _ k hk (fun j hj => ?_) (about_refl _)
    refine h _ (List.mem_map.2 ⟨l[j], ?_, rfl⟩)
    rw [List.mem_iff_getElem]
    exact ⟨j, by rw [List.length_take]; omega, by rw [List.getElem_take]⟩
theorem first_take (l : List Et) (k : Nat) (hk : k < l.length) : firstE (ens (l.take (k + 1))) = firstE (ens (l.take k)) ++ (if idxI l (l[k]).e = (k : Nat) then [(l[k]).e] else []) := by
  have h : ens (l.take (k + 1)) = ens (l.take k) ++ [(l[k]).e] := by rw [ens, List.take_succ_eq_append_getElem hk, List.map_append]; rfl
  rw [h]
  unfold firstE
  rw [firstA_snoc, List.nil_append]
  congr 1
  by_cases q : findE (ens (l.take k)) (l[k]).e = none
  · rw [q, if_pos ((idx_first l k hk).2 q)]; rfl
  · rw [if_neg (fun hh => q ((idx_first l k hk).1 hh)), if_pos (by cases r : findE (ens (l.take k)) (l[k]).e with | none => exact absurd r q | some x => rfl)]
/-- the facts of the last loop's region -/
def RdF (W : World) (ov lv : Value) (k b o : Nat) (S tm : Int) (uv : Value) : Nat → Value → World → Prop
  | 0, x, _ => x = ov
  | 1, x, _ => x = lv
  | 2, x, _ => x = .int .i64 k
  | 3, x, _ => x = .pointer (some ⟨b, o + k * 5, none⟩)
  | 4, x, _ => x = .pointer (some ⟨b, o + k * 5, none⟩)
  | 5, x, _ => x = .int .i64 S
  | 6, x, _ => x = .int .i64 tm
  | 7, x, _ => x = lv
  | 8, x, _ => x = .int .i64 k
  | 9, x, _ => x = .pointer (some ⟨b, o + k * 5, none⟩)
  | 10, x, _ => x = .pointer (some ⟨b, o + k * 5 + 4, none⟩)
  | 11, x, _ => x = .agg #[uv]
  | 12, x, _ => x = .agg #[.int .i64 S, .int .i64 tm, .int .i64 8, .int .i64 (-1), uv]
  | 13, x, w => ∃ bz : Nat, x = .slice (some ⟨bz, 0, none⟩) 1 1 ∧ W.heap.size ≤ bz ∧ w.heap[bz]? = some (.cells #[.int .i64 S, .int .i64 tm, .int .i64 8, .int .i64 (-1), uv] 44 (0, 0))
  | _, _, _ => True
theorem RdF.stable (W : World) (ov lv : Value) (k b o : Nat) (S tm : Int) (uv : Value) (i : Nat) (x : Value) (w w' : World) (h : RdF W ov lv k b o S tm uv i x w) (hb : Below w.heap.size w w') : RdF W ov lv k b o S tm uv i x w' := by
  match i with
  | 0 | 1 | 2 | 3 | 4 | 5 | 6 | 7 | 8 | 9 | 10 | 11 | 12 => exact h
  | 13 => obtain ⟨bz, h1, h2, h3⟩ := h; exact ⟨bz, h1, h2, (hb.block bz (lt_of_block h3)).trans h3⟩
  | _ + 14 => exact trivial
set_option maxRecDepth 100000 in
set_option maxHeartbeats 4000000 in
theorem rdiff_any (w : World) (vo vn : Value) (old now : List Et) (tm : Int) (ho : EL w vo old) (hw : EL w vn now) (hlo : old.length ≤ 10000) (hln : now.length ≤ 10000) :
    Calls Try.prog 29 #[vo, vn, .int .i64 tm] w fun e w' => ∃ v' l', e = .returned v' ∧ EL w' v' l' ∧ ens l' = diffE (ens old) (ens now) tm ∧ Below w.heap.size w w' := by
  obtain ⟨i0, hi0, hz0, hz1, hz2⟩ := info_parts info_entry
  obtain ⟨R, hR⟩ : ∃ R, R = diffE (ens old) (ens now) tm := ⟨_, rfl⟩
  rw [← hR]
  have HR := Bx.mk hR
  clear hR
  obtain ⟨oa, oc, rfl, -⟩ := ho.rd.form
  obtain ⟨na, nc, rfl, -⟩ := hw.rd.form
  have HO := Bx.mk ho
  have HN := Bx.mk hw
  have HCO := Bx.mk ho.cells.2
  have HCN := Bx.mk hw.cells.2
  clear ho hw
  go_enter Try.func29, Try.ntmps29
  go_wp2_with fail
  go_loopw [7, 8] (fun ov i wr => ∃ (k : Nat) (out : List Et), k ≤ now.length ∧ i = .int .i64 k ∧ out.length ≤ k ∧ GE w w.heap.size wr ov out ∧ Bx (ens out = (firstE (ens (now.take k))).filter (chg (ens old)))) (fun _ i _ => now.length - (intOf i).toNat)
  case atStart => exact ⟨0, [], by omega, rfl, by simp, GE.nil _ _ (Nat.le_refl _), ⟨by simp [ens, firstE, firstA]⟩⟩
  case round =>
    obtain ⟨k, out, hk, rfl, hlen, hG, hF⟩ := hrel
    obtain ⟨av, cv, rfl, -⟩ := hG.form
    have HGE := Bx.mk hG
    have HLEN := Bx.mk hlen
    have hBw : Below w.heap.size w wr := hG.bel
    have HBW := Bx.mk hBw
    by_cases hlt : k < now.length
    · obtain ⟨b, o, rfl, hbl, c0, c1, c2, c3, c4⟩ := HCN.out wr hBw k hlt
      have HFT := Bx.mk (show ens out ++ (if idxI now (now[k]).e = (k : Nat) then (if chg (ens old) (now[k]).e then [(now[k]).e] else []) else []) = (firstE (ens (now.take (k + 1)))).filter (chg (ens old)) by
        rw [first_take now k hlt, List.filter_append, ← hF.out]
        congr 1
        split
        · simp only [List.filter_cons, List.filter_nil]
        · rfl)
      obtain ⟨z, hz⟩ : ∃ z, z = now[k] := ⟨_, rfl⟩
      rw [← hz] at c0 c1 c2 c3 c4 HFT
      have hmem : z ∈ now := by rw [hz]; exact List.getElem_mem hlt
      have HCK := Bx.mk (show ∀ W, Below wr.heap.size wr W → W.cell? ⟨b, o + k * 5, none⟩ = some (.int .i64 z.e.s) ∧ W.cell? ⟨b, o + k * 5 + 1, none⟩ = some (.int .i64 z.e.t) ∧ W.cell? ⟨b, o + k * 5 + 2, none⟩ = some (.int .i64 z.e.r) ∧ W.cell? ⟨b, o + k * 5 + 3, none⟩ = some (.int .i64 z.e.v) ∧ W.cell? ⟨b, o + k * 5 + 4, none⟩ = some z.u.val from fun W hW => by
        have hbw : b < wr.heap.size := Nat.lt_of_lt_of_le hbl HBW.out.size
        exact ⟨(hW.cell (p := ⟨b, o + k * 5, none⟩) hbw).trans c0, (hW.cell (p := ⟨b, o + k * 5 + 1, none⟩) hbw).trans c1, (hW.cell (p := ⟨b, o + k * 5 + 2, none⟩) hbw).trans c2, (hW.cell (p := ⟨b, o + k * 5 + 3, none⟩) hbw).trans c3, (hW.cell (p := ⟨b, o + k * 5 + 4, none⟩) hbw).trans c4⟩)
      have HZ := Bx.mk (HN.out.at_ z hmem)
      have hc1 := rfind_any wr _ now z (HN.out.below hBw) (HZ.out.below hBw) (by omega)
      have HC2 := Bx.mk (show ∀ W, Below wr.heap.size wr W → Calls Try.prog 51 #[.slice oa old.length oc, entV z] W fun e w' => e = .returned (.int .i64 (idxI old z.e)) ∧ Below W.heap.size W w' from fun W hW => rfind_any W _ old z ((HO.out.below hBw).below hW) ((HZ.out.below hBw).below hW) (by omega))
      have HID := Bx.mk (idx_cases old z.e)
      have HEN := Bx.mk (show ∀ u, encE ⟨z.e, u⟩ = [.int .i64 z.e.s, .int .i64 z.e.t, .int .i64 z.e.r, .int .i64 z.e.v, u.val] from fun _ => rfl)
      have HCG := Bx.mk (show chg (ens old) z.e = (match findE (ens old) z.e with | none => true | some o => (decide (o.t ≠ z.e.t) || decide (o.r ≠ z.e.r) || decide (o.v ≠ z.e.v))) from rfl)
      unfold entV at hc1 HC2
      obtain ⟨⟨ua, un, uc⟩, hu⟩ : ∃ u : Sl, z.u = u := ⟨_, rfl⟩
      have HZC := Bx.mk (show encE z = [.int .i64 z.e.s, .int .i64 z.e.t, .int .i64 z.e.r, .int .i64 z.e.v, .slice ua un uc] by unfold encE; rw [hu]; rfl)
      rw [hu] at hc1 HC2 HCK c4
      simp only [Sl.val] at hc1 HC2 HCK c4
      clear hz hmem hu hG hF hlen hbl hBw HEN
      generalize chg (ens old) z.e = CG at *
      obtain ⟨wo, hwo⟩ : ∃ wo, wo = wr := ⟨_, rfl⟩
      subst hwo
      obtain ⟨q1, hq1⟩ : ∃ q1, q1 = idxI now z.e := ⟨_, rfl⟩
      rw [← hq1] at hc1 HFT
      clear hq1
      obtain ⟨q2, hq2⟩ : ∃ q2, q2 = idxI old z.e := ⟨_, rfl⟩
      rw [← hq2] at HC2 HID
      clear hq2
      generalize findE (ens old) z.e = FE at *
      generalize z.e.s = S1 at *
      generalize z.e.t = T1 at *
      generalize z.e.r = R1 at *
      generalize z.e.v = V1 at *
      by_cases h1 : q1 = (k : Int)
      · have t1 : (q1 != (k : Int)) = false := by simp [h1]
        have HFA := Bx.mk (show (firstE (ens (now.take (k + 1)))).filter (chg (ens old)) = ens out ++ (if CG then [z.e] else []) by rw [← HFT.out, if_pos h1])
        clear h1 HFT
        go_wp2_with fail
        go_at_call 51
        refine hc1.mono ?_
        rintro e w2 ⟨rfl, hb2⟩
        obtain ⟨c0, c1, c2, c3, c4⟩ := HCK.out w2 hb2
        have hc2 := HC2.out w2 hb2
        have HB2 := Bx.mk hb2
        clear hc1 hb2
        go_wp2_with fail
        go_at_call 51
        refine hc2.mono ?_
        rintro e w3 ⟨rfl, hb3⟩
        go_upto_region 7 with fail
        have HB3 := Bx.mk (HB2.out.trans (hb3.mono HB2.out.size))
        clear hc2 hb3 c0 c1 c2 c3 c4
        obtain ⟨c0, c1, c2, c3, c4⟩ := HCK.out w3 HB3.out
        rcases HID.out with ⟨hq, hfe⟩ | ⟨j, hj, hq, hfe⟩
        · subst hq
          have HE := Bx.mk (show CG = true by rw [HCG.out, hfe])
          clear hfe
          go_cut [71] from 31 to 71 (fun s wc => Below w3.heap.size w3 wc ∧ s = .bool CG)
          case first =>
            go_wp2
            go_quiet (fail)
            go_wp2
            go_meet
            exact ⟨drewN_below (Below.refl _ _) _, by rw [HE.out]⟩
          case rest =>
          obtain ⟨hb4, rfl⟩ := hcut
          have HB4 := Bx.mk (HB3.out.trans (hb4.mono HB3.out.size))
          clear hb4
          cases CG with
          | false =>
            have HNX := Bx.mk (show ens out = (firstE (ens (now.take (k + 1)))).filter (chg (ens old)) by rw [HFA.out]; simp)
            clear HFA
            go_wp2_with fail
            go_roundw
            case rel => exact ⟨k + 1, out, by omega, by go_num, by have := HLEN.out; omega, HGE.out.below HB4.out, HNX⟩
            case measure => simp [intOf]; omega
          | true =>
            have HNX := Bx.mk (show ens (out ++ [z]) = (firstE (ens (now.take (k + 1)))).filter (chg (ens old)) by rw [HFA.out]; simp [ens])
            clear HFA
            obtain ⟨c0, c1, c2, c3, c4⟩ := HCK.out wc HB4.out
            have hba : Below wc.heap.size wc (wc.alloc (.cells #[.int .i64 S1, .int .i64 T1, .int .i64 R1, .int .i64 V1, .slice ua un uc] 44)) := (Below.refl _ _).alloc (Nat.le_refl _) _
            have HG5 := Bx.mk ((HGE.out.below HB4.out).below hba)
            have HZI := Bx.mk (EtAt.other HG5.out HZ.out fun k hk => hk)
            have hsrc : SrcV (wc.alloc (.cells #[.int .i64 S1, .int .i64 T1, .int .i64 R1, .int .i64 V1, .slice ua un uc] 44)) 5 (.slice (some ⟨wc.heap.size, 0, none⟩) 1 1) 1 ([z].flatMap encE) := src_new encE_ok (by rw [heap_alloc_new, HZC.out])
            have hsz := HG5.out.sz
            have hm1 : out.length + 1 ≤ maxLen := by have := HLEN.out; unfold maxLen; omega
            have hm2 : (out.length + 1) * 56 ≤ 140737488355328 := by have := HLEN.out; omega
            have HOWN := Bx.mk HG5.out.eo.own
            have HEI := Bx.mk (show ∀ y ∈ [z], EtIn (wc.alloc (.cells #[.int .i64 S1, .int .i64 T1, .int .i64 R1, .int .i64 V1, .slice ua un uc] 44)) (fun k => (Value.slice av out.length cv).ownBlock ≠ some k) y from fun y hy => by
              rw [List.mem_singleton] at hy; subst hy; exact HZI.out)
            clear hba
            go_wp2_with (refine wpList_append_any rfl _ _ _ rfl w.heap.size 44 i0 _ 5 56 und_entries hi0 hz0 hz1 hz2 rfl (by decide) _ out.length (out.flatMap encE) rfl HOWN.out _ 1 ([z].flatMap encE) rfl hsrc hm1 hm2 hsz ?_)
            intro v9 w9 hapd
            have HG9 := Bx.mk (HG5.out.apd (m := [z]) HEI.out rfl rfl rfl rfl hapd)
            clear hapd hsrc hsz HOWN hm1 hm2 c0 c1 c2 c3 c4
            go_wp2
            go_roundw
            case rel => exact ⟨k + 1, out ++ [z], by omega, by go_num, by have := HLEN.out; simp; omega, HG9.out, HNX⟩
            case measure => simp [intOf]; omega
        · subst hq
          obtain ⟨b2, o2, rfl, -, d0, d1, d2, d3, d4⟩ := HCO.out w3 (HBW.out.trans (HB3.out.mono HBW.out.size)) j hj
          have HEC := Bx.mk (show CG = (decide ((old[j]).e.t ≠ T1) || decide ((old[j]).e.r ≠ R1) || decide ((old[j]).e.v ≠ V1)) by rw [HCG.out, hfe])
          generalize (old[j]).e.t = T2 at *
          generalize (old[j]).e.r = R2 at *
          generalize (old[j]).e.v = V2 at *
          clear hfe d0 d4 c0 c4
          have tn : decide ((j : Int) < 0) = false := by simp
          go_cut [71] from 31 to 71 (fun s wc => Below w3.heap.size w3 wc ∧ s = .bool CG)
          case first =>
            by_cases ht : T2 = T1
            · have tt : (T2 != T1) = false := by simp [ht]
              by_cases hr : R2 = R1
              · have tr : (R2 != R1) = false := by simp [hr]
                obtain ⟨qv, hqv⟩ : ∃ qv, (V2 != V1) = qv := ⟨_, rfl⟩
                have HE := Bx.mk (show CG = qv by rw [HEC.out, decide_eq_false (by simpa using ht), decide_eq_false (by simpa using hr), ← hqv]; simp only [Bool.false_or, bne]; rw [Bool.eq_iff_iff]; simp)
                clear ht hr HEC
                go_wp2
                go_quiet (fail)
                go_wp2
                go_meet
                exact ⟨drewN_below (Below.refl _ _) _, by rw [HE.out]⟩
              · have tr : (R2 != R1) = true := by simpa using hr
                have HE := Bx.mk (show CG = true by rw [HEC.out, decide_eq_true hr]; simp)
                clear ht hr HEC
                go_wp2
                go_quiet (fail)
                go_wp2
                go_meet
                exact ⟨drewN_below (Below.refl _ _) _, by rw [HE.out]⟩
            · have tt : (T2 != T1) = true := by simpa using ht
              have HE := Bx.mk (show CG = true by rw [HEC.out, decide_eq_true ht]; simp)
              clear ht HEC
              go_wp2
              go_quiet (fail)
              go_wp2
              go_meet
              exact ⟨drewN_below (Below.refl _ _) _, by rw [HE.out]⟩
          case rest =>
          clear d1 d2 d3 tn
          obtain ⟨hb4, rfl⟩ := hcut
          have HB4 := Bx.mk (HB3.out.trans (hb4.mono HB3.out.size))
          clear hb4
          cases CG with
          | false =>
            have HNX := Bx.mk (show ens out = (firstE (ens (now.take (k + 1)))).filter (chg (ens old)) by rw [HFA.out]; simp)
            clear HFA
            go_wp2_with fail
            go_roundw
            case rel => exact ⟨k + 1, out, by omega, by go_num, by have := HLEN.out; omega, HGE.out.below HB4.out, HNX⟩
            case measure => simp [intOf]; omega
          | true =>
            have HNX := Bx.mk (show ens (out ++ [z]) = (firstE (ens (now.take (k + 1)))).filter (chg (ens old)) by rw [HFA.out]; simp [ens])
            clear HFA
            obtain ⟨c0, c1, c2, c3, c4⟩ := HCK.out wc HB4.out
            have hba : Below wc.heap.size wc (wc.alloc (.cells #[.int .i64 S1, .int .i64 T1, .int .i64 R1, .int .i64 V1, .slice ua un uc] 44)) := (Below.refl _ _).alloc (Nat.le_refl _) _
            have HG5 := Bx.mk ((HGE.out.below HB4.out).below hba)
            have HZI := Bx.mk (EtAt.other HG5.out HZ.out fun k hk => hk)
            have hsrc : SrcV (wc.alloc (.cells #[.int .i64 S1, .int .i64 T1, .int .i64 R1, .int .i64 V1, .slice ua un uc] 44)) 5 (.slice (some ⟨wc.heap.size, 0, none⟩) 1 1) 1 ([z].flatMap encE) := src_new encE_ok (by rw [heap_alloc_new, HZC.out])
            have hsz := HG5.out.sz
            have hm1 : out.length + 1 ≤ maxLen := by have := HLEN.out; unfold maxLen; omega
            have hm2 : (out.length + 1) * 56 ≤ 140737488355328 := by have := HLEN.out; omega
            have HOWN := Bx.mk HG5.out.eo.own
            have HEI := Bx.mk (show ∀ y ∈ [z], EtIn (wc.alloc (.cells #[.int .i64 S1, .int .i64 T1, .int .i64 R1, .int .i64 V1, .slice ua un uc] 44)) (fun k => (Value.slice av out.length cv).ownBlock ≠ some k) y from fun y hy => by
              rw [List.mem_singleton] at hy; subst hy; exact HZI.out)
            clear hba
            go_wp2_with (refine wpList_append_any rfl _ _ _ rfl w.heap.size 44 i0 _ 5 56 und_entries hi0 hz0 hz1 hz2 rfl (by decide) _ out.length (out.flatMap encE) rfl HOWN.out _ 1 ([z].flatMap encE) rfl hsrc hm1 hm2 hsz ?_)
            intro v9 w9 hapd
            have HG9 := Bx.mk (HG5.out.apd (m := [z]) HEI.out rfl rfl rfl rfl hapd)
            clear hapd hsrc hsz HOWN hm1 hm2 c0 c1 c2 c3 c4
            go_wp2
            go_roundw
            case rel => exact ⟨k + 1, out ++ [z], by omega, by go_num, by have := HLEN.out; simp; omega, HG9.out, HNX⟩
            case measure => simp [intOf]; omega
      · have t1 : (q1 != (k : Int)) = true := by simpa using h1
        have HNX := Bx.mk (show ens out = (firstE (ens (now.take (k + 1)))).filter (chg (ens old)) by rw [← HFT.out, if_neg h1, List.append_nil])
        clear h1 HFT
        go_wp2_with (go_at_call 51; refine hc1.mono ?_; rintro e w2 ⟨rfl, hb2⟩)
        have HB2 := Bx.mk hb2
        clear hc1 hb2
        go_wp2
        go_roundw
        case rel => exact ⟨k + 1, out, by omega, by go_num, by have := HLEN.out; omega, HGE.out.below HB2.out, HNX⟩
        case measure => simp [intOf]; omega
    · obtain rfl : k = now.length := by omega
      have HD1 := Bx.mk (show ens out = (firstE (ens now)).filter (chg (ens old)) by rw [hF.out, List.take_length])
      clear hF hG hBw hlt
      obtain ⟨wo, hwo⟩ : ∃ wo, wo = wr := ⟨_, rfl⟩
      subst hwo
      obtain ⟨out1, hout1⟩ : ∃ out1, out1 = out := ⟨_, rfl⟩
      have HO1 := Bx.mk hout1
      clear hout1
      go_wp2_with fail
      go_loopw [7, 10] (fun ov i wr => ∃ (k : Nat) (out2 : List Et), k ≤ old.length ∧ i = .int .i64 k ∧ out2.length ≤ now.length + k ∧ GE w w.heap.size wr ov out2 ∧ Bx (ens out2 = (firstE (ens now)).filter (chg (ens old)) ++ ((firstE (ens (old.take k))).filter (fun e => (findE (ens now) e).isNone)).map (gone tm))) (fun _ i _ => old.length - (intOf i).toNat)
      case atStart => exact ⟨0, out, by omega, rfl, by have := HLEN.out; omega, HGE.out, ⟨by rw [HD1.out]; simp [ens, firstE, firstA]⟩⟩
      case round =>
        obtain ⟨k, out, hk, rfl, hlen, hG, hF⟩ := hrel
        obtain ⟨av, cv, rfl, -⟩ := hG.form
        have HGE := Bx.mk hG
        have HLEN := Bx.mk hlen
        have hBw : Below w.heap.size w wr := hG.bel
        have HBW := Bx.mk hBw
        by_cases hlt : k < old.length
        · obtain ⟨b, o, rfl, hbl, c0, c1, c2, c3, c4⟩ := HCO.out wr hBw k hlt
          have HFT := Bx.mk (show ens out ++ (if idxI old (old[k]).e = (k : Nat) then (if (findE (ens now) (old[k]).e).isNone then [gone tm (old[k]).e] else []) else []) = (firstE (ens now)).filter (chg (ens old)) ++ ((firstE (ens (old.take (k + 1)))).filter (fun e => (findE (ens now) e).isNone)).map (gone tm) by
            rw [first_take old k hlt, List.filter_append, List.map_append, ← List.append_assoc, ← hF.out]
            congr 1
            split
            · simp only [List.filter_cons, List.filter_nil]
              split <;> rfl
            · rfl)
          obtain ⟨z, hz⟩ : ∃ z, z = old[k] := ⟨_, rfl⟩
          rw [← hz] at c0 c1 c2 c3 c4 HFT
          have hmem : z ∈ old := by rw [hz]; exact List.getElem_mem hlt
          have HCK := Bx.mk (show ∀ W, Below wr.heap.size wr W → W.cell? ⟨b, o + k * 5, none⟩ = some (.int .i64 z.e.s) ∧ W.cell? ⟨b, o + k * 5 + 1, none⟩ = some (.int .i64 z.e.t) ∧ W.cell? ⟨b, o + k * 5 + 2, none⟩ = some (.int .i64 z.e.r) ∧ W.cell? ⟨b, o + k * 5 + 3, none⟩ = some (.int .i64 z.e.v) ∧ W.cell? ⟨b, o + k * 5 + 4, none⟩ = some z.u.val from fun W hW => by
            have hbw : b < wr.heap.size := Nat.lt_of_lt_of_le hbl HBW.out.size
            exact ⟨(hW.cell (p := ⟨b, o + k * 5, none⟩) hbw).trans c0, (hW.cell (p := ⟨b, o + k * 5 + 1, none⟩) hbw).trans c1, (hW.cell (p := ⟨b, o + k * 5 + 2, none⟩) hbw).trans c2, (hW.cell (p := ⟨b, o + k * 5 + 3, none⟩) hbw).trans c3, (hW.cell (p := ⟨b, o + k * 5 + 4, none⟩) hbw).trans c4⟩)
          have HZ := Bx.mk (HO.out.at_ z hmem)
          have hc1 := rfind_any wr _ old z (HO.out.below hBw) (HZ.out.below hBw) (by omega)
          have HC2 := Bx.mk (show ∀ W, Below wr.heap.size wr W → Calls Try.prog 51 #[.slice na now.length nc, entV z] W fun e w' => e = .returned (.int .i64 (idxI now z.e)) ∧ Below W.heap.size W w' from fun W hW => rfind_any W _ now z ((HN.out.below hBw).below hW) ((HZ.out.below hBw).below hW) (by omega))
          have HID := Bx.mk (show (idxI now z.e = -1 ∧ (findE (ens now) z.e).isNone = true) ∨ ∃ (j : Nat), idxI now z.e = (j : Nat) ∧ (findE (ens now) z.e).isNone = false by
            rcases idx_cases now z.e with ⟨q1, q2⟩ | ⟨j, hj, q1, q2⟩
            · exact .inl ⟨q1, by rw [q2]; rfl⟩
            · exact .inr ⟨j, q1, by rw [q2]; rfl⟩)
          unfold entV at hc1 HC2
          obtain ⟨⟨ua, un, uc⟩, hu⟩ : ∃ u : Sl, z.u = u := ⟨_, rfl⟩
          have HGC := Bx.mk (show encE ⟨gone tm z.e, ⟨ua, un, uc⟩⟩ = [.int .i64 z.e.s, .int .i64 tm, .int .i64 8, .int .i64 (-1), .slice ua un uc] from rfl)
          have HGI := Bx.mk (show EtAt w ⟨gone tm z.e, ⟨ua, un, uc⟩⟩ from ⟨by have := HZ.out.1; rw [hu] at this; exact this, HZ.out.2⟩)
          rw [hu] at hc1 HC2 HCK c4
          simp only [Sl.val] at hc1 HC2 HCK c4
          clear hz hmem hu hG hF hlen hbl hBw HZ
          generalize (findE (ens now) z.e).isNone = NB at *
          generalize gone tm z.e = GZ at *
          obtain ⟨wo, hwo⟩ : ∃ wo, wo = wr := ⟨_, rfl⟩
          subst hwo
          obtain ⟨q1, hq1⟩ : ∃ q1, q1 = idxI old z.e := ⟨_, rfl⟩
          rw [← hq1] at hc1 HFT
          clear hq1
          obtain ⟨q2, hq2⟩ : ∃ q2, q2 = idxI now z.e := ⟨_, rfl⟩
          rw [← hq2] at HC2 HID
          clear hq2
          generalize z.e.s = S1 at *
          generalize z.e.t = T1 at *
          generalize z.e.r = R1 at *
          generalize z.e.v = V1 at *
          by_cases h1 : q1 = (k : Int)
          · have t1 : (q1 == (k : Int)) = true := by simp [h1]
            have HFA := Bx.mk (show (firstE (ens now)).filter (chg (ens old)) ++ ((firstE (ens (old.take (k + 1)))).filter (fun e => (findE (ens now) e).isNone)).map (gone tm) = ens out ++ (if NB then [GZ] else []) by rw [← HFT.out, if_pos h1])
            clear h1 HFT
            rcases HID.out with ⟨hq, hnb⟩ | ⟨j, hq, hnb⟩
            · subst hq
              have HNX := Bx.mk (show ens (out ++ [⟨GZ, ⟨ua, un, uc⟩⟩]) = (firstE (ens now)).filter (chg (ens old)) ++ ((firstE (ens (old.take (k + 1)))).filter (fun e => (findE (ens now) e).isNone)).map (gone tm) by rw [HFA.out, hnb]; simp [ens])
              clear HFA hnb
              go_wp2_with fail
              go_at_call 51
              refine hc1.mono ?_
              rintro e w2 ⟨rfl, hb2⟩
              obtain ⟨c0, c1, c2, c3, c4⟩ := HCK.out w2 hb2
              have hc2 := HC2.out w2 hb2
              clear hc1
              go_wp2_with fail
              go_at_call 51
              refine hc2.mono ?_
              rintro e w3 ⟨rfl, hb3⟩
              have HB3 := Bx.mk (hb2.trans (hb3.mono hb2.size))
              clear hc2 hb2 hb3
              clear c0 c1 c2 c3 c4
              go_wp2
              refine wp_region_facts 14 (RdF wo (.slice av out.length cv) (.slice (some ⟨b, o, none⟩) old.length oc) k b o S1 tm (.slice ua un uc)) (by kernel_rfl) (by kernel_rfl) (by rfl) (RdF.stable _ _ _ _ _ _ _ _ _) ?_ ?_
              · intro i oo hi ho x w7 hb hd
                have hc : i = 0 ∨ i = 1 ∨ i = 2 ∨ i = 3 ∨ i = 4 ∨ i = 5 ∨ i = 6 ∨ i = 7 ∨ i = 8 ∨ i = 9 ∨ i = 10 ∨ i = 11 ∨ i = 12 ∨ i = 13 := by omega
                simp only [List.take_succ_cons, List.take_zero, putFrom]
                obtain ⟨m0, m1, m2, m3, m4⟩ := HCK.out w7 (HB3.out.trans (hb.mono HB3.out.size))
                have hz7 : wo.heap.size ≤ w7.heap.size := Nat.le_trans HB3.out.size hb.size
                rcases hc with rfl | rfl | rfl | rfl | rfl | rfl | rfl | rfl | rfl | rfl | rfl | rfl | rfl | rfl
                all_goals
                  simp only [List.getElem?_cons_succ, List.getElem?_cons_zero, Option.some.injEq] at ho
                  subst ho
                  simp [Needs, Region.binds, RdF] at hd
                rotate_right 1
                · go_wp2_with fail
                  exact ⟨rfl, rfl, ⟨w7.heap.size, rfl, hz7, heap_alloc_new _ _⟩, (Below.refl _ _).alloc (Nat.le_refl _) _⟩
                all_goals
                  go_wp2_with fail
                  exact ⟨rfl, rfl, rfl, Below.refl _ _⟩
              · intro x w7 hb hf
                have f0 := hf 0 (by omega)
                have f13 := hf 13 (by omega)
                simp only [RdF] at f0 f13
                clear hf
                obtain ⟨bz, f13, hbz0, hbz1⟩ := f13
                simp only [List.take_succ_cons, List.take_zero, List.drop_succ_cons, List.drop_zero, putFrom, Nat.zero_add, Nat.reduceAdd, f0, f13]
                have HG7 := Bx.mk (HGE.out.below (HB3.out.trans (hb.mono HB3.out.size)))
                have hsrc : SrcV w7 5 (.slice (some ⟨bz, 0, none⟩) 1 1) 1 ([(⟨GZ, ⟨ua, un, uc⟩⟩ : Et)].flatMap encE) := src_new encE_ok (by rw [hbz1, HGC.out])
                have hbzz := HG7.out.sz
                have hm1 : out.length + 1 ≤ maxLen := by have := HLEN.out; unfold maxLen; omega
                have hm2 : (out.length + 1) * 56 ≤ 140737488355328 := by have := HLEN.out; omega
                have HOWN := Bx.mk HG7.out.eo.own
                have HEI := Bx.mk (show ∀ y ∈ [(⟨GZ, ⟨ua, un, uc⟩⟩ : Et)], EtIn w7 (fun k => (Value.slice av out.length cv).ownBlock ≠ some k) y from fun y hy => by
                  rw [List.mem_singleton] at hy; subst hy
                  exact EtAt.other HG7.out HGI.out fun k hk => hk)
                clear f0 f13 hbz0 hbz1 hb
                generalize x 1 = x1, x 2 = x2, x 3 = x3, x 4 = x4, x 5 = x5, x 6 = x6, x 7 = x7, x 8 = x8, x 9 = x9, x 10 = x10, x 11 = x11, x 12 = x12
                simp only [Act.put, List.setIfInBounds_toArray, List.set_cons_succ, List.set_cons_zero]
                go_wp2_with (refine wpList_append_any rfl _ _ _ rfl w.heap.size 44 i0 _ 5 56 und_entries hi0 hz0 hz1 hz2 rfl (by decide) _ out.length (out.flatMap encE) rfl HOWN.out _ 1 ([(⟨GZ, ⟨ua, un, uc⟩⟩ : Et)].flatMap encE) rfl hsrc hm1 hm2 hbzz ?_)
                intro v9 w9 hapd
                have HG2 := Bx.mk (HG7.out.apd (m := [(⟨GZ, ⟨ua, un, uc⟩⟩ : Et)]) HEI.out rfl rfl rfl rfl hapd)
                clear hapd hsrc hbzz HOWN hm1 hm2
                go_wp2
                go_roundw
                case rel => exact ⟨k + 1, out ++ [(⟨GZ, ⟨ua, un, uc⟩⟩ : Et)], by omega, by go_num, by have := HLEN.out; simp; omega, HG2.out, HNX⟩
                case measure => simp [intOf]; omega
            · subst hq
              have tn : decide ((j : Int) < 0) = false := by simp
              have HNX := Bx.mk (show ens out = (firstE (ens now)).filter (chg (ens old)) ++ ((firstE (ens (old.take (k + 1)))).filter (fun e => (findE (ens now) e).isNone)).map (gone tm) by rw [HFA.out, hnb]; simp)
              clear HFA hnb
              go_wp2_with fail
              go_at_call 51
              refine hc1.mono ?_
              rintro e w2 ⟨rfl, hb2⟩
              obtain ⟨c0, c1, c2, c3, c4⟩ := HCK.out w2 hb2
              have hc2 := HC2.out w2 hb2
              clear hc1
              go_wp2_with fail
              go_at_call 51
              refine hc2.mono ?_
              rintro e w3 ⟨rfl, hb3⟩
              have HB3 := Bx.mk (hb2.trans (hb3.mono hb2.size))
              clear hc2 hb2 hb3
              go_wp2
              go_roundw
              case rel => exact ⟨k + 1, out, by omega, by go_num, by have := HLEN.out; omega, HGE.out.below HB3.out, HNX⟩
              case measure => simp [intOf]; omega
          · have t1 : (q1 == (k : Int)) = false := by simpa using h1
            have HNX := Bx.mk (show ens out = (firstE (ens now)).filter (chg (ens old)) ++ ((firstE (ens (old.take (k + 1)))).filter (fun e => (findE (ens now) e).isNone)).map (gone tm) by rw [← HFT.out, if_neg h1, List.append_nil])
            clear h1 HFT
            go_wp2_with (go_at_call 51; refine hc1.mono ?_; rintro e w2 ⟨rfl, hb2⟩)
            have HB2 := Bx.mk hb2
            clear hc1 hb2
            go_wp2
            go_roundw
            case rel => exact ⟨k + 1, out, by omega, by go_num, by have := HLEN.out; omega, HGE.out.below HB2.out, HNX⟩
            case measure => simp [intOf]; omega
        · obtain rfl : k = old.length := by omega
          have HFIN := Bx.mk (show R = sortE (ens out) by rw [HR.out, hF.out, List.take_length]; rfl)
          have HEL := Bx.mk hG.eo.el
          have hs := rsort_any wr _ out hG.eo.el (by omega)
          clear hF hG hBw
          go_wp2_with fail
          refine hs.mono ?_
          rintro e w2 ⟨v2, l2, rfl, -, hel, hens, hb2⟩
          have HFF := Bx.mk (show ens l2 = R by rw [hens, HFIN.out])
          have HB2 := Bx.mk (HBW.out.trans (hb2.mono HBW.out.size))
          have HEL2 := Bx.mk hel
          obtain ⟨ra, rc, rfl, -⟩ := hel.rd.form
          clear hs hens hb2 hel
          go_wp2
          go_ret
          exact ⟨_, l2, rfl, HEL2.out, HFF.out, HB2.out⟩
end Go.Proofs.Ytpagoinnkknkfaa.Pb
