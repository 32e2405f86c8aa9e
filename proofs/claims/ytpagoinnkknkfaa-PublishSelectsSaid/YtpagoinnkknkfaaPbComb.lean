/-
  Difference. (Written by wip/gen/gen_pbd.py.)
-/
/-
  Combine, Merge. (Written by wip/gen/gen_pbk.py.)
-/
import Derived.Test.YtpagoinnkknkfaaPbSmall
namespace Go.Proofs.Ytpagoinnkknkfaa.Pb
open Go Go.RowKit Go.Proofs.Ytpagoinnkknkfaa.Slc
set_option linter.unusedVariables false
set_option linter.unusedSimpArgs false

theorem chg_T (old : List Et) (e : En) : chg (ens old) e = (match findT old e with | none => true | some o => otherE o.e e) := by
  unfold chg; rw [← findT_e]; cases findT old e <;> rfl
theorem gone_T (now : List Et) (e : En) : (findE (ens now) e).isNone = !(findT now e).isSome := by
  rw [← findT_e]; cases findT now e <;> rfl
/-- the box of an entry, at p -/
def BoxAt (w : World) (p : Nat) (x : Et) : Prop := w.heap[p]? = some (encBox x)
theorem BoxAt.cells {w : World} {p : Nat} {x : Et} (h : BoxAt w p x) : w.cell? ⟨p, 0, none⟩ = some (.int .i64 x.e.s) ∧ w.cell? ⟨p, 1, none⟩ = some (.int .i64 x.e.t) ∧ w.cell? ⟨p, 2, none⟩ = some (.int .i64 x.e.r) ∧ w.cell? ⟨p, 3, none⟩ = some (.int .i64 x.e.v) ∧ w.cell? ⟨p, 4, none⟩ = some x.u.val := by
  unfold BoxAt encBox at h
  exact ⟨cell_of_row _ _ 0 _ _ _ h, cell_of_row _ _ 1 _ _ _ h, cell_of_row _ _ 2 _ _ _ h, cell_of_row _ _ 3 _ _ _ h, cell_of_row _ _ 4 _ _ _ h⟩
theorem two_slices {w : World} {a b : Sl} {x : Nat} {l m : List Et} (h : w.heap[x]? = some (.cells #[a.val, b.val] 40 (0, 0))) (h1 : EL w a.val l) (h2 : EL w b.val m) : LL w (.slice (some ⟨x, 0, none⟩) 2 2) [l, m] := by
  refine ⟨[a, b], .inr ⟨x, 0, 2, rfl, lt_of_block h, Nat.le_refl _, fun j u hj => ?_⟩, rfl, fun i hi => ?_⟩
  · have := cell_of_row _ _ j _ _ _ h
    rw [Nat.zero_add, this]
    simpa [encV1] using hj
  · match i, hi with
    | 0, _ => exact h1
    | 1, _ => exact h2

set_option maxRecDepth 10000 in
set_option maxHeartbeats 8000000 in
theorem pdiff_len (w : World) (vo vn : Value) (old now : List Et) (tm : Int) (ho : EL w vo old) (hw : EL w vn now) (hlo : old.length ≤ 1000000) (hln : now.length ≤ 1000000) (hsum : (diffE (ens old) (ens now) tm).length < 20) :
    Calls Try.prog 28 #[vo, vn, .int .i64 tm] w fun e w' => ∃ v' l', e = .returned v' ∧ EO w' w.heap.size v' l' ∧ ens l' = diffE (ens old) (ens now) tm ∧ Below w.heap.size w w' := by
  obtain ⟨i0, hi0, hz0, hz1, hz2⟩ := info_parts info_entry
  have HSUM := Bx.mk hsum
  clear hsum
  have hf0 := pfirst_any w vo old ho hlo
  have HN := Bx.mk hw
  clear ho hw
  go_enter Try.func28, Try.ntmps28
  go_wp2_with fail
  go_at_call 48
  refine hf0.mono ?_
  rintro e wa ⟨va, l0, rfl, -, hl0, he0, hba⟩
  have hf1 := pfirst_any wa vn now (HN.out.below hba) hln
  have HBA := Bx.mk hba
  have HL0a := Bx.mk hl0
  have HE0 := Bx.mk he0
  clear hba hl0 he0 hf0 HN
  go_wp2_with fail
  go_at_call 48
  refine hf1.mono ?_
  rintro e W1 ⟨vb, l1, rfl, -, hl1, he1, hbb⟩
  have HL0 := Bx.mk (HL0a.out.below hbb)
  have HL1 := Bx.mk hl1
  have HE1 := Bx.mk he1
  have HB1 := Bx.mk (HBA.out.trans (hbb.mono HBA.out.size))
  have hc0 : l0.length ≤ old.length := by
    have h1 := congrArg List.length HE0.out
    have h2 := firstA_le (ens old) []
    simp only [ens, List.length_map] at h1 h2
    unfold firstE at h1; omega
  have hc1 : l1.length ≤ now.length := by
    have h1 := congrArg List.length HE1.out
    have h2 := firstA_le (ens now) []
    simp only [ens, List.length_map] at h1 h2
    unfold firstE at h1; omega
  obtain ⟨a0, k0, hf, -⟩ := HL0.out.rd.form
  obtain ⟨a1, k1, hf', -⟩ := HL1.out.rd.form
  subst hf hf'
  have HC0 := Bx.mk HL0.out.cells.2
  have HC1 := Bx.mk HL1.out.cells.2
  clear hbb hl1 he1 hf1 HL0a HBA
  go_wp2
  go_loopw [7, 23] (fun ov i wr => ∃ (k : Nat) (out : List Et), k ≤ l1.length ∧ i = .int .i64 k ∧ out.length ≤ k ∧ GE W1 W1.heap.size wr ov out ∧ Bx (ens out = (ens (l1.take k)).filter (chg (ens l0)))) (fun _ i _ => l1.length - (intOf i).toNat)
  case atStart => exact ⟨0, [], by omega, rfl, by simp, GE.nil _ _ (Nat.le_refl _), ⟨by simp [ens]⟩⟩
  case round =>
    obtain ⟨k, out, hk, rfl, hlen, hG, hF⟩ := hrel
    obtain ⟨av, cv, rfl, -⟩ := hG.form
    have HGE := Bx.mk hG
    have HLEN := Bx.mk hlen
    have hBw : Below W1.heap.size W1 wr := hG.bel
    clear hG hlen
    by_cases hlt : k < l1.length
    · skip
      obtain ⟨b, o, rfl, hbl, c0, c1, c2, c3, c4⟩ := HC1.out wr hBw k hlt
      obtain ⟨z, hz⟩ : ∃ z, z = l1[k] := ⟨_, rfl⟩
      rw [← hz] at c0 c1 c2 c3 c4
      have hmem : z ∈ l1 := by rw [hz]; exact List.getElem_mem hlt
      have htk : ens (l1.take (k + 1)) = ens (l1.take k) ++ [z.e] := by rw [ens, List.take_succ_eq_append_getElem hlt, List.map_append, ← hz]; rfl
      have HTK := Bx.mk htk
      have HBZ := Bx.mk (show Below wr.heap.size wr (wr.alloc (encBox z)) from (Below.refl _ _).alloc (Nat.le_refl _) _)
      have HZB := Bx.mk (show ∀ W', Below (wr.alloc (encBox z)).heap.size (wr.alloc (encBox z)) W' → BoxAt W' wr.heap.size z from fun W' hW => by
        unfold BoxAt; rw [hW.block _ (by simp)]; exact heap_alloc_new _ _)
      have HZW := Bx.mk (show EtAt W1 z from HL1.out.at_ z hmem)
      have HZIN := Bx.mk (EtAt.other HGE.out HZW.out fun k hk => hk)
      have hcall := pfind_any (wr.alloc (encBox z)) _ l0 z (((HL0.out.below hBw).below HBZ.out)) ((HZW.out.below hBw).below HBZ.out) (by omega)
      obtain ⟨ua, un, uc, hu⟩ : ∃ a n c, z.u.val = .slice a n c := ⟨_, _, _, rfl⟩
      have hopt : ∃ q, findT l0 z.e = q := ⟨_, rfl⟩
      obtain ⟨q, hq⟩ := hopt
      rw [hq] at hcall
      have HQ := Bx.mk hq
      clear hq hmem hz htk hbl
      rw [hu] at c4
      have HZC := Bx.mk (show encBox z = .cells #[.int .i64 z.e.s, .int .i64 z.e.t, .int .i64 z.e.r, .int .i64 z.e.v, .slice ua un uc] 44 by unfold encBox; rw [hu])
      have HU := Bx.mk hu
      unfold entV at hcall
      rw [hu] at hcall
      rw [HZC.out] at hcall HBZ HZB
      clear hu
      have HF := Bx.mk (show ∀ bb, chg (ens l0) z.e = bb → (ens (l1.take (k + 1))).filter (chg (ens l0)) = ens out ++ (if bb then [z.e] else []) from fun bb hb => by
        rw [HTK.out, List.filter_append, ← hF.out]; simp only [List.filter_cons, hb, List.filter_nil])
      clear hF HTK
      have HZE := Bx.mk (show (.cells #[.int .i64 z.e.s, .int .i64 z.e.t, .int .i64 z.e.r, .int .i64 z.e.v, .slice ua un uc] 44 (0, 0) : Obj) = .cells (encE z).toArray 44 (0, 0) from by rw [← HZC.out]; rfl)
      cases q with
      | none =>
        have HREL := Bx.mk (show ens (out ++ [z]) = (ens (l1.take (k + 1))).filter (chg (ens l0)) by
          rw [HF.out true (by rw [chg_T, HQ.out])]; simp [ens])
        have HEV := HZE
        simp only [optV] at hcall
        have hsl : True := trivial
        clear HF
        go_wp2_with fail
        go_at_call 49
        refine hcall.mono ?_
        rintro e w2 ⟨rfl, hb2⟩
        obtain ⟨d0, d1, d2, d3, d4⟩ := (HZB.out w2 hb2).cells
        have hw2 := HBZ.out.trans (hb2.mono (by simp))
        have hpz : wr.heap.size < w2.heap.size := World.block_lt_of_cell? w2 _ d0
        have HGE2 := Bx.mk ((HGE.out.below hw2).below ((Below.refl _ _).alloc (Nat.le_refl _) (.cells #[.int .i64 0, .int .i64 0, .int .i64 0, .int .i64 0, .slice none 0 0] 44)))
        have HZ2 := Bx.mk ((HZIN.out.below hw2).below ((Below.refl _ _).alloc (Nat.le_refl _) (.cells #[.int .i64 0, .int .i64 0, .int .i64 0, .int .i64 0, .slice none 0 0] 44)))
        clear hb2 hw2 hcall
        rw [HU.out] at d4
        have HNEW := HZ2
        clear HZE HZC HZB HBZ
        generalize z.e.s = S1 at *
        generalize z.e.t = T1 at *
        generalize z.e.r = R1 at *
        generalize z.e.v = V1 at *
        have HBA := Bx.mk (show Below (w2.alloc (.cells #[.int .i64 0, .int .i64 0, .int .i64 0, .int .i64 0, .slice none 0 0] 44)).heap.size (w2.alloc (.cells #[.int .i64 0, .int .i64 0, .int .i64 0, .int .i64 0, .slice none 0 0] 44)) ((w2.alloc (.cells #[.int .i64 0, .int .i64 0, .int .i64 0, .int .i64 0, .slice none 0 0] 44)).alloc (.cells #[.int .i64 S1, .int .i64 T1, .int .i64 R1, .int .i64 V1, .slice ua un uc] 44)) from (Below.refl _ _).alloc (Nat.le_refl _) _)
        have hown := (HGE2.out.below HBA.out).eo.own
        have hsrc : SrcV ((w2.alloc (.cells #[.int .i64 0, .int .i64 0, .int .i64 0, .int .i64 0, .slice none 0 0] 44)).alloc (.cells #[.int .i64 S1, .int .i64 T1, .int .i64 R1, .int .i64 V1, .slice ua un uc] 44)) 5 (.slice (some ⟨(w2.alloc (.cells #[.int .i64 0, .int .i64 0, .int .i64 0, .int .i64 0, .slice none 0 0] 44)).heap.size, 0, none⟩) 1 1) 1 ([z].flatMap encE) := src_new encE_ok (by rw [heap_alloc_new, HEV.out])
        simp only [World.size_alloc] at hsrc
        have hbz := (HGE2.out.below HBA.out).sz
        have hm1 : out.length + 1 ≤ maxLen := by have := HLEN.out; unfold maxLen; omega
        have hm2 : (out.length + 1) * 56 ≤ 140737488355328 := by have := HLEN.out; omega
        have HOWN := Bx.mk hown
        clear hown
        go_wp2_with (refine wpList_append_any rfl _ _ _ rfl W1.heap.size 44 i0 _ 5 56 und_entries hi0 hz0 hz1 hz2 rfl (by decide) _ out.length (out.flatMap encE) rfl HOWN.out _ 1 ([z].flatMap encE) rfl hsrc hm1 hm2 hbz ?_)
        intro v2 w3 hapd
        have HG2 := Bx.mk ((HGE2.out.below HBA.out).apd (m := [z]) (fun y hy => by rw [List.mem_singleton] at hy; subst hy; exact HNEW.out.below HBA.out) rfl rfl rfl rfl hapd)
        clear hapd hsrc hbz HOWN hm1 hm2
        go_wp2
        go_roundw
        case rel => exact ⟨k + 1, out ++ [z], by omega, by go_num, by have := HLEN.out; simp; omega, HG2.out, ⟨HREL.out⟩⟩
        case measure => simp [intOf]; omega
      | some oo =>
        simp only [optV, entV] at hcall
        obtain ⟨oa, on, oc, hou⟩ : ∃ a n c, oo.u.val = .slice a n c := ⟨_, _, _, rfl⟩
        rw [hou] at hcall
        clear hou
        by_cases ht : oo.e.t = z.e.t
        · have y0 : (oo.e.t != z.e.t) = false := by simp [ht]
          by_cases hr : oo.e.r = z.e.r
          · have y1 : (oo.e.r != z.e.r) = false := by simp [hr]
            by_cases hv : oo.e.v = z.e.v
            · have y2 : (oo.e.v != z.e.v) = false := by simp [hv]
              have HREL := Bx.mk (show ens out = (ens (l1.take (k + 1))).filter (chg (ens l0)) by
                rw [HF.out false (by rw [chg_T, HQ.out]; simp [otherE, ht, hr, hv])]; simp [ens])
              clear ht hr hv
              clear HF
              go_wp2_with fail
              go_at_call 49
              refine hcall.mono ?_
              rintro e w2 ⟨rfl, hb2⟩
              obtain ⟨d0, d1, d2, d3, d4⟩ := (HZB.out w2 hb2).cells
              have hw2 := HBZ.out.trans (hb2.mono (by simp))
              have hpz : wr.heap.size < w2.heap.size := World.block_lt_of_cell? w2 _ d0
              have HGE2 := Bx.mk ((HGE.out.below hw2).below ((Below.refl _ _).alloc (Nat.le_refl _) (.cells #[.int .i64 oo.e.s, .int .i64 oo.e.t, .int .i64 oo.e.r, .int .i64 oo.e.v, .slice oa on oc] 44)))
              have HZ2 := Bx.mk ((HZIN.out.below hw2).below ((Below.refl _ _).alloc (Nat.le_refl _) (.cells #[.int .i64 oo.e.s, .int .i64 oo.e.t, .int .i64 oo.e.r, .int .i64 oo.e.v, .slice oa on oc] 44)))
              clear hb2 hw2 hcall
              rw [HU.out] at d4
              have HNEW := HZ2
              have HEV := HZE
              clear HZC HZB HBZ HZE
              generalize oo.e.s = S2 at *
              generalize oo.e.t = T2 at *
              generalize oo.e.r = R2 at *
              generalize oo.e.v = V2 at *
              generalize z.e.s = S1 at *
              generalize z.e.t = T1 at *
              generalize z.e.r = R1 at *
              generalize z.e.v = V1 at *
              go_wp2
              go_roundw
              case rel => exact ⟨k + 1, out, by omega, by go_num, by have := HLEN.out; omega, HGE2.out, ⟨HREL.out⟩⟩
              case measure => simp [intOf]; omega
            · have y2 : (oo.e.v != z.e.v) = true := by simpa using hv
              have HREL := Bx.mk (show ens (out ++ [z]) = (ens (l1.take (k + 1))).filter (chg (ens l0)) by
                rw [HF.out true (by rw [chg_T, HQ.out]; simp [otherE, hv])]; simp [ens])
              clear ht hr hv
              clear HF
              go_wp2_with fail
              go_at_call 49
              refine hcall.mono ?_
              rintro e w2 ⟨rfl, hb2⟩
              obtain ⟨d0, d1, d2, d3, d4⟩ := (HZB.out w2 hb2).cells
              have hw2 := HBZ.out.trans (hb2.mono (by simp))
              have hpz : wr.heap.size < w2.heap.size := World.block_lt_of_cell? w2 _ d0
              have HGE2 := Bx.mk ((HGE.out.below hw2).below ((Below.refl _ _).alloc (Nat.le_refl _) (.cells #[.int .i64 oo.e.s, .int .i64 oo.e.t, .int .i64 oo.e.r, .int .i64 oo.e.v, .slice oa on oc] 44)))
              have HZ2 := Bx.mk ((HZIN.out.below hw2).below ((Below.refl _ _).alloc (Nat.le_refl _) (.cells #[.int .i64 oo.e.s, .int .i64 oo.e.t, .int .i64 oo.e.r, .int .i64 oo.e.v, .slice oa on oc] 44)))
              clear hb2 hw2 hcall
              rw [HU.out] at d4
              have HNEW := HZ2
              have HEV := HZE
              clear HZC HZB HBZ HZE
              generalize oo.e.s = S2 at *
              generalize oo.e.t = T2 at *
              generalize oo.e.r = R2 at *
              generalize oo.e.v = V2 at *
              generalize z.e.s = S1 at *
              generalize z.e.t = T1 at *
              generalize z.e.r = R1 at *
              generalize z.e.v = V1 at *
              have HBA := Bx.mk (show Below (w2.alloc (.cells #[.int .i64 S2, .int .i64 T2, .int .i64 R2, .int .i64 V2, .slice oa on oc] 44)).heap.size (w2.alloc (.cells #[.int .i64 S2, .int .i64 T2, .int .i64 R2, .int .i64 V2, .slice oa on oc] 44)) ((w2.alloc (.cells #[.int .i64 S2, .int .i64 T2, .int .i64 R2, .int .i64 V2, .slice oa on oc] 44)).alloc (.cells #[.int .i64 S1, .int .i64 T1, .int .i64 R1, .int .i64 V1, .slice ua un uc] 44)) from (Below.refl _ _).alloc (Nat.le_refl _) _)
              have hown := (HGE2.out.below HBA.out).eo.own
              have hsrc : SrcV ((w2.alloc (.cells #[.int .i64 S2, .int .i64 T2, .int .i64 R2, .int .i64 V2, .slice oa on oc] 44)).alloc (.cells #[.int .i64 S1, .int .i64 T1, .int .i64 R1, .int .i64 V1, .slice ua un uc] 44)) 5 (.slice (some ⟨(w2.alloc (.cells #[.int .i64 S2, .int .i64 T2, .int .i64 R2, .int .i64 V2, .slice oa on oc] 44)).heap.size, 0, none⟩) 1 1) 1 ([z].flatMap encE) := src_new encE_ok (by rw [heap_alloc_new, HEV.out])
              simp only [World.size_alloc] at hsrc
              have hbz := (HGE2.out.below HBA.out).sz
              have hm1 : out.length + 1 ≤ maxLen := by have := HLEN.out; unfold maxLen; omega
              have hm2 : (out.length + 1) * 56 ≤ 140737488355328 := by have := HLEN.out; omega
              have HOWN := Bx.mk hown
              clear hown
              go_wp2_with (refine wpList_append_any rfl _ _ _ rfl W1.heap.size 44 i0 _ 5 56 und_entries hi0 hz0 hz1 hz2 rfl (by decide) _ out.length (out.flatMap encE) rfl HOWN.out _ 1 ([z].flatMap encE) rfl hsrc hm1 hm2 hbz ?_)
              intro v2 w3 hapd
              have HG2 := Bx.mk ((HGE2.out.below HBA.out).apd (m := [z]) (fun y hy => by rw [List.mem_singleton] at hy; subst hy; exact HNEW.out.below HBA.out) rfl rfl rfl rfl hapd)
              clear hapd hsrc hbz HOWN hm1 hm2
              go_wp2
              go_roundw
              case rel => exact ⟨k + 1, out ++ [z], by omega, by go_num, by have := HLEN.out; simp; omega, HG2.out, ⟨HREL.out⟩⟩
              case measure => simp [intOf]; omega
          · have y1 : (oo.e.r != z.e.r) = true := by simpa using hr
            have HREL := Bx.mk (show ens (out ++ [z]) = (ens (l1.take (k + 1))).filter (chg (ens l0)) by
              rw [HF.out true (by rw [chg_T, HQ.out]; simp [otherE, hr])]; simp [ens])
            clear ht hr
            clear HF
            go_wp2_with fail
            go_at_call 49
            refine hcall.mono ?_
            rintro e w2 ⟨rfl, hb2⟩
            obtain ⟨d0, d1, d2, d3, d4⟩ := (HZB.out w2 hb2).cells
            have hw2 := HBZ.out.trans (hb2.mono (by simp))
            have hpz : wr.heap.size < w2.heap.size := World.block_lt_of_cell? w2 _ d0
            have HGE2 := Bx.mk ((HGE.out.below hw2).below ((Below.refl _ _).alloc (Nat.le_refl _) (.cells #[.int .i64 oo.e.s, .int .i64 oo.e.t, .int .i64 oo.e.r, .int .i64 oo.e.v, .slice oa on oc] 44)))
            have HZ2 := Bx.mk ((HZIN.out.below hw2).below ((Below.refl _ _).alloc (Nat.le_refl _) (.cells #[.int .i64 oo.e.s, .int .i64 oo.e.t, .int .i64 oo.e.r, .int .i64 oo.e.v, .slice oa on oc] 44)))
            clear hb2 hw2 hcall
            rw [HU.out] at d4
            have HNEW := HZ2
            have HEV := HZE
            clear HZC HZB HBZ HZE
            generalize oo.e.s = S2 at *
            generalize oo.e.t = T2 at *
            generalize oo.e.r = R2 at *
            generalize oo.e.v = V2 at *
            generalize z.e.s = S1 at *
            generalize z.e.t = T1 at *
            generalize z.e.r = R1 at *
            generalize z.e.v = V1 at *
            have HBA := Bx.mk (show Below (w2.alloc (.cells #[.int .i64 S2, .int .i64 T2, .int .i64 R2, .int .i64 V2, .slice oa on oc] 44)).heap.size (w2.alloc (.cells #[.int .i64 S2, .int .i64 T2, .int .i64 R2, .int .i64 V2, .slice oa on oc] 44)) ((w2.alloc (.cells #[.int .i64 S2, .int .i64 T2, .int .i64 R2, .int .i64 V2, .slice oa on oc] 44)).alloc (.cells #[.int .i64 S1, .int .i64 T1, .int .i64 R1, .int .i64 V1, .slice ua un uc] 44)) from (Below.refl _ _).alloc (Nat.le_refl _) _)
            have hown := (HGE2.out.below HBA.out).eo.own
            have hsrc : SrcV ((w2.alloc (.cells #[.int .i64 S2, .int .i64 T2, .int .i64 R2, .int .i64 V2, .slice oa on oc] 44)).alloc (.cells #[.int .i64 S1, .int .i64 T1, .int .i64 R1, .int .i64 V1, .slice ua un uc] 44)) 5 (.slice (some ⟨(w2.alloc (.cells #[.int .i64 S2, .int .i64 T2, .int .i64 R2, .int .i64 V2, .slice oa on oc] 44)).heap.size, 0, none⟩) 1 1) 1 ([z].flatMap encE) := src_new encE_ok (by rw [heap_alloc_new, HEV.out])
            simp only [World.size_alloc] at hsrc
            have hbz := (HGE2.out.below HBA.out).sz
            have hm1 : out.length + 1 ≤ maxLen := by have := HLEN.out; unfold maxLen; omega
            have hm2 : (out.length + 1) * 56 ≤ 140737488355328 := by have := HLEN.out; omega
            have HOWN := Bx.mk hown
            clear hown
            go_wp2_with (refine wpList_append_any rfl _ _ _ rfl W1.heap.size 44 i0 _ 5 56 und_entries hi0 hz0 hz1 hz2 rfl (by decide) _ out.length (out.flatMap encE) rfl HOWN.out _ 1 ([z].flatMap encE) rfl hsrc hm1 hm2 hbz ?_)
            intro v2 w3 hapd
            have HG2 := Bx.mk ((HGE2.out.below HBA.out).apd (m := [z]) (fun y hy => by rw [List.mem_singleton] at hy; subst hy; exact HNEW.out.below HBA.out) rfl rfl rfl rfl hapd)
            clear hapd hsrc hbz HOWN hm1 hm2
            go_wp2
            go_roundw
            case rel => exact ⟨k + 1, out ++ [z], by omega, by go_num, by have := HLEN.out; simp; omega, HG2.out, ⟨HREL.out⟩⟩
            case measure => simp [intOf]; omega
        · have y0 : (oo.e.t != z.e.t) = true := by simpa using ht
          have HREL := Bx.mk (show ens (out ++ [z]) = (ens (l1.take (k + 1))).filter (chg (ens l0)) by
            rw [HF.out true (by rw [chg_T, HQ.out]; simp [otherE, ht])]; simp [ens])
          clear ht
          clear HF
          go_wp2_with fail
          go_at_call 49
          refine hcall.mono ?_
          rintro e w2 ⟨rfl, hb2⟩
          obtain ⟨d0, d1, d2, d3, d4⟩ := (HZB.out w2 hb2).cells
          have hw2 := HBZ.out.trans (hb2.mono (by simp))
          have hpz : wr.heap.size < w2.heap.size := World.block_lt_of_cell? w2 _ d0
          have HGE2 := Bx.mk ((HGE.out.below hw2).below ((Below.refl _ _).alloc (Nat.le_refl _) (.cells #[.int .i64 oo.e.s, .int .i64 oo.e.t, .int .i64 oo.e.r, .int .i64 oo.e.v, .slice oa on oc] 44)))
          have HZ2 := Bx.mk ((HZIN.out.below hw2).below ((Below.refl _ _).alloc (Nat.le_refl _) (.cells #[.int .i64 oo.e.s, .int .i64 oo.e.t, .int .i64 oo.e.r, .int .i64 oo.e.v, .slice oa on oc] 44)))
          clear hb2 hw2 hcall
          rw [HU.out] at d4
          have HNEW := HZ2
          have HEV := HZE
          clear HZC HZB HBZ HZE
          generalize oo.e.s = S2 at *
          generalize oo.e.t = T2 at *
          generalize oo.e.r = R2 at *
          generalize oo.e.v = V2 at *
          generalize z.e.s = S1 at *
          generalize z.e.t = T1 at *
          generalize z.e.r = R1 at *
          generalize z.e.v = V1 at *
          have HBA := Bx.mk (show Below (w2.alloc (.cells #[.int .i64 S2, .int .i64 T2, .int .i64 R2, .int .i64 V2, .slice oa on oc] 44)).heap.size (w2.alloc (.cells #[.int .i64 S2, .int .i64 T2, .int .i64 R2, .int .i64 V2, .slice oa on oc] 44)) ((w2.alloc (.cells #[.int .i64 S2, .int .i64 T2, .int .i64 R2, .int .i64 V2, .slice oa on oc] 44)).alloc (.cells #[.int .i64 S1, .int .i64 T1, .int .i64 R1, .int .i64 V1, .slice ua un uc] 44)) from (Below.refl _ _).alloc (Nat.le_refl _) _)
          have hown := (HGE2.out.below HBA.out).eo.own
          have hsrc : SrcV ((w2.alloc (.cells #[.int .i64 S2, .int .i64 T2, .int .i64 R2, .int .i64 V2, .slice oa on oc] 44)).alloc (.cells #[.int .i64 S1, .int .i64 T1, .int .i64 R1, .int .i64 V1, .slice ua un uc] 44)) 5 (.slice (some ⟨(w2.alloc (.cells #[.int .i64 S2, .int .i64 T2, .int .i64 R2, .int .i64 V2, .slice oa on oc] 44)).heap.size, 0, none⟩) 1 1) 1 ([z].flatMap encE) := src_new encE_ok (by rw [heap_alloc_new, HEV.out])
          simp only [World.size_alloc] at hsrc
          have hbz := (HGE2.out.below HBA.out).sz
          have hm1 : out.length + 1 ≤ maxLen := by have := HLEN.out; unfold maxLen; omega
          have hm2 : (out.length + 1) * 56 ≤ 140737488355328 := by have := HLEN.out; omega
          have HOWN := Bx.mk hown
          clear hown
          go_wp2_with (refine wpList_append_any rfl _ _ _ rfl W1.heap.size 44 i0 _ 5 56 und_entries hi0 hz0 hz1 hz2 rfl (by decide) _ out.length (out.flatMap encE) rfl HOWN.out _ 1 ([z].flatMap encE) rfl hsrc hm1 hm2 hbz ?_)
          intro v2 w3 hapd
          have HG2 := Bx.mk ((HGE2.out.below HBA.out).apd (m := [z]) (fun y hy => by rw [List.mem_singleton] at hy; subst hy; exact HNEW.out.below HBA.out) rfl rfl rfl rfl hapd)
          clear hapd hsrc hbz HOWN hm1 hm2
          go_wp2
          go_roundw
          case rel => exact ⟨k + 1, out ++ [z], by omega, by go_num, by have := HLEN.out; simp; omega, HG2.out, ⟨HREL.out⟩⟩
          case measure => simp [intOf]; omega
    · obtain rfl : k = l1.length := by omega
      obtain ⟨W2, hW2⟩ : ∃ W2, W2 = wr := ⟨_, rfl⟩
      subst hW2
      obtain ⟨ch, hch⟩ : ∃ ch, ch = out := ⟨_, rfl⟩
      subst hch
      have HCH := HGE
      have HCE := Bx.mk (show ens ch = (ens l1).filter (chg (ens l0)) by rw [hF.out, List.take_length])
      have HCL := HLEN
      have HL0b := Bx.mk (HL0.out.below hBw)
      have HL1b := Bx.mk (HL1.out.below hBw)
      have HC0b := Bx.mk HL0b.out.cells.2
      have HB2 := Bx.mk (HB1.out.trans (hBw.mono HB1.out.size))
      clear hF hBw HGE HLEN
      go_wp2
      go_loopw [8, 63] (fun ov i wr => ∃ (k : Nat) (out : List Et), k ≤ l0.length ∧ i = .int .i64 k ∧ out.length ≤ k ∧ GE W2 W2.heap.size wr ov out ∧ Bx (ens out = ((ens (l0.take k)).filter (fun e => (findE (ens l1) e).isNone)).map (gone tm))) (fun _ i _ => l0.length - (intOf i).toNat)
      case atStart => exact ⟨0, [], by omega, rfl, by simp, GE.nil _ _ (Nat.le_refl _), ⟨by simp [ens]⟩⟩
      case round =>
        obtain ⟨k, out, hk, rfl, hlen, hG, hF⟩ := hrel
        obtain ⟨av2, cv2, rfl, -⟩ := hG.form
        have HGE := Bx.mk hG
        have HLEN := Bx.mk hlen
        have hBw : Below W2.heap.size W2 wr := hG.bel
        clear hG hlen
        by_cases hlt : k < l0.length
        · skip
          obtain ⟨b, o, rfl, hbl, c0, c1, c2, c3, c4⟩ := HC0b.out wr hBw k hlt
          obtain ⟨z, hz⟩ : ∃ z, z = l0[k] := ⟨_, rfl⟩
          rw [← hz] at c0 c1 c2 c3 c4
          have hmem : z ∈ l0 := by rw [hz]; exact List.getElem_mem hlt
          have htk : ens (l0.take (k + 1)) = ens (l0.take k) ++ [z.e] := by rw [ens, List.take_succ_eq_append_getElem hlt, List.map_append, ← hz]; rfl
          have HTK := Bx.mk htk
          have HBZ := Bx.mk (show Below wr.heap.size wr (wr.alloc (encBox z)) from (Below.refl _ _).alloc (Nat.le_refl _) _)
          have HZB := Bx.mk (show ∀ W', Below (wr.alloc (encBox z)).heap.size (wr.alloc (encBox z)) W' → BoxAt W' wr.heap.size z from fun W' hW => by
            unfold BoxAt; rw [hW.block _ (by simp)]; exact heap_alloc_new _ _)
          have HZW := Bx.mk (show EtAt W2 z from HL0b.out.at_ z hmem)
          have HZIN := Bx.mk (EtAt.other HGE.out HZW.out fun k hk => hk)
          have hcall := pfind_any (wr.alloc (encBox z)) _ l1 z (((HL1b.out.below hBw).below HBZ.out)) ((HZW.out.below hBw).below HBZ.out) (by omega)
          obtain ⟨ua, un, uc, hu⟩ : ∃ a n c, z.u.val = .slice a n c := ⟨_, _, _, rfl⟩
          have hopt : ∃ q, findT l1 z.e = q := ⟨_, rfl⟩
          obtain ⟨q, hq⟩ := hopt
          rw [hq] at hcall
          have HQ := Bx.mk hq
          clear hq hmem hz htk hbl
          rw [hu] at c4
          have HZC := Bx.mk (show encBox z = .cells #[.int .i64 z.e.s, .int .i64 z.e.t, .int .i64 z.e.r, .int .i64 z.e.v, .slice ua un uc] 44 by unfold encBox; rw [hu])
          have HU := Bx.mk hu
          unfold entV at hcall
          rw [hu] at hcall
          rw [HZC.out] at hcall HBZ HZB
          clear hu
          have HF := Bx.mk (show ∀ bb, (findT l1 z.e).isSome = bb → ((ens (l0.take (k + 1))).filter (fun e => (findE (ens l1) e).isNone)).map (gone tm) = ens out ++ (if bb then [] else [gone tm z.e]) from fun bb hb => by
            rw [HTK.out, List.filter_append, List.map_append, ← hF.out]; simp only [List.filter_cons, gone_T, hb, List.filter_nil]; cases bb <;> rfl)
          clear hF HTK
          have HZE := Bx.mk (show (.cells #[.int .i64 z.e.s, .int .i64 z.e.t, .int .i64 z.e.r, .int .i64 z.e.v, .slice ua un uc] 44 (0, 0) : Obj) = .cells (encE z).toArray 44 (0, 0) from by rw [← HZC.out]; rfl)
          cases q with
          | none =>
            obtain ⟨nw, hnw⟩ : ∃ nw : Et, nw = ⟨gone tm z.e, z.u⟩ := ⟨_, rfl⟩
            have HREL := Bx.mk (show ens (out ++ [nw]) = ((ens (l0.take (k + 1))).filter (fun e => (findE (ens l1) e).isNone)).map (gone tm) by
              rw [HF.out false (by rw [HQ.out]; rfl), hnw]; simp [ens])
            have HEV := Bx.mk (show (.cells #[.int .i64 z.e.s, .int .i64 tm, .int .i64 8, .int .i64 (-1), .slice ua un uc] 44 (0, 0) : Obj) = .cells (encE nw).toArray 44 (0, 0) from by rw [hnw, ← HU.out]; rfl)
            have HNW := Bx.mk hnw
            simp only [optV] at hcall
            clear HF hnw
            go_wp2_with fail
            go_at_call 49
            refine hcall.mono ?_
            rintro e w2 ⟨rfl, hb2⟩
            obtain ⟨d0, d1, d2, d3, d4⟩ := (HZB.out w2 hb2).cells
            have hw2 := HBZ.out.trans (hb2.mono (by simp))
            have hpz : wr.heap.size < w2.heap.size := World.block_lt_of_cell? w2 _ d0
            have HGE2 := Bx.mk ((HGE.out.below hw2).below ((Below.refl _ _).alloc (Nat.le_refl _) (.cells #[.int .i64 0, .int .i64 0, .int .i64 0, .int .i64 0, .slice none 0 0] 44)))
            have HZ2 := Bx.mk ((HZIN.out.below hw2).below ((Below.refl _ _).alloc (Nat.le_refl _) (.cells #[.int .i64 0, .int .i64 0, .int .i64 0, .int .i64 0, .slice none 0 0] 44)))
            clear hb2 hw2 hcall
            rw [HU.out] at d4
            have HNEW := Bx.mk (show EtIn (w2.alloc (.cells #[.int .i64 0, .int .i64 0, .int .i64 0, .int .i64 0, .slice none 0 0] 44)) _ nw from by rw [HNW.out]; exact ⟨HZ2.out.1, HZ2.out.2⟩)
            clear HZE HZC HZB HBZ
            generalize z.e.s = S1 at *
            generalize z.e.t = T1 at *
            generalize z.e.r = R1 at *
            generalize z.e.v = V1 at *
            have HBA := Bx.mk (show Below (w2.alloc (.cells #[.int .i64 0, .int .i64 0, .int .i64 0, .int .i64 0, .slice none 0 0] 44)).heap.size (w2.alloc (.cells #[.int .i64 0, .int .i64 0, .int .i64 0, .int .i64 0, .slice none 0 0] 44)) ((w2.alloc (.cells #[.int .i64 0, .int .i64 0, .int .i64 0, .int .i64 0, .slice none 0 0] 44)).alloc (.cells #[.int .i64 S1, .int .i64 tm, .int .i64 8, .int .i64 (-1), .slice ua un uc] 44)) from (Below.refl _ _).alloc (Nat.le_refl _) _)
            have hown := (HGE2.out.below HBA.out).eo.own
            have hsrc : SrcV ((w2.alloc (.cells #[.int .i64 0, .int .i64 0, .int .i64 0, .int .i64 0, .slice none 0 0] 44)).alloc (.cells #[.int .i64 S1, .int .i64 tm, .int .i64 8, .int .i64 (-1), .slice ua un uc] 44)) 5 (.slice (some ⟨(w2.alloc (.cells #[.int .i64 0, .int .i64 0, .int .i64 0, .int .i64 0, .slice none 0 0] 44)).heap.size, 0, none⟩) 1 1) 1 ([nw].flatMap encE) := src_new encE_ok (by rw [heap_alloc_new, HEV.out])
            simp only [World.size_alloc] at hsrc
            have hbz := (HGE2.out.below HBA.out).sz
            have hm1 : out.length + 1 ≤ maxLen := by have := HLEN.out; unfold maxLen; omega
            have hm2 : (out.length + 1) * 56 ≤ 140737488355328 := by have := HLEN.out; omega
            have HOWN := Bx.mk hown
            clear hown
            go_wp2_with (refine wpList_append_any rfl _ _ _ rfl W2.heap.size 44 i0 _ 5 56 und_entries hi0 hz0 hz1 hz2 rfl (by decide) _ out.length (out.flatMap encE) rfl HOWN.out _ 1 ([nw].flatMap encE) rfl hsrc hm1 hm2 hbz ?_)
            intro v2 w3 hapd
            have HG2 := Bx.mk ((HGE2.out.below HBA.out).apd (m := [nw]) (fun y hy => by rw [List.mem_singleton] at hy; subst hy; exact HNEW.out.below HBA.out) rfl rfl rfl rfl hapd)
            clear hapd hsrc hbz HOWN hm1 hm2
            go_wp2
            go_roundw
            case rel => exact ⟨k + 1, out ++ [nw], by omega, by go_num, by have := HLEN.out; simp; omega, HG2.out, ⟨HREL.out⟩⟩
            case measure => simp [intOf]; omega
          | some oo =>
            simp only [optV, entV] at hcall
            obtain ⟨oa, on, oc, hou⟩ : ∃ a n c, oo.u.val = .slice a n c := ⟨_, _, _, rfl⟩
            rw [hou] at hcall
            clear hou
            have HREL := Bx.mk (show ens out = ((ens (l0.take (k + 1))).filter (fun e => (findE (ens l1) e).isNone)).map (gone tm) by
              rw [HF.out true (by rw [HQ.out]; rfl)]; simp)
            clear HF
            go_wp2_with fail
            go_at_call 49
            refine hcall.mono ?_
            rintro e w2 ⟨rfl, hb2⟩
            obtain ⟨d0, d1, d2, d3, d4⟩ := (HZB.out w2 hb2).cells
            have hw2 := HBZ.out.trans (hb2.mono (by simp))
            have hpz : wr.heap.size < w2.heap.size := World.block_lt_of_cell? w2 _ d0
            have HGE2 := Bx.mk ((HGE.out.below hw2).below ((Below.refl _ _).alloc (Nat.le_refl _) (.cells #[.int .i64 oo.e.s, .int .i64 oo.e.t, .int .i64 oo.e.r, .int .i64 oo.e.v, .slice oa on oc] 44)))
            have HZ2 := Bx.mk ((HZIN.out.below hw2).below ((Below.refl _ _).alloc (Nat.le_refl _) (.cells #[.int .i64 oo.e.s, .int .i64 oo.e.t, .int .i64 oo.e.r, .int .i64 oo.e.v, .slice oa on oc] 44)))
            clear hb2 hw2 hcall
            rw [HU.out] at d4
            clear HZC HZB HBZ HZE
            generalize oo.e.s = S2 at *
            generalize oo.e.t = T2 at *
            generalize oo.e.r = R2 at *
            generalize oo.e.v = V2 at *
            generalize z.e.s = S1 at *
            generalize z.e.t = T1 at *
            generalize z.e.r = R1 at *
            generalize z.e.v = V1 at *
            go_wp2
            go_roundw
            case rel => exact ⟨k + 1, out, by omega, by go_num, by have := HLEN.out; omega, HGE2.out, ⟨HREL.out⟩⟩
            case measure => simp [intOf]; omega
        · obtain rfl : k = l0.length := by omega
          have HRE := Bx.mk (show ens out = ((ens l0).filter (fun e => (findE (ens l1) e).isNone)).map (gone tm) by rw [hF.out, List.take_length])
          have HEL1 := Bx.mk (HCH.out.eo.el.below hBw)
          have HBR := Bx.mk (HB2.out.trans (hBw.mono HB2.out.size))
          have hll : LL (wr.alloc (.cells #[.slice av ch.length cv, .slice av2 out.length cv2] 40)) (.slice (some ⟨wr.heap.size, 0, none⟩) 2 2) [ch, out] :=
            two_slices (a := ⟨av, ch.length, cv⟩) (b := ⟨av2, out.length, cv2⟩) (heap_alloc_new _ _) (HEL1.out.below ((Below.refl _ _).alloc (Nat.le_refl _) _)) (HGE.out.eo.el.below ((Below.refl _ _).alloc (Nat.le_refl _) _))
          have HDE := Bx.mk (show diffE (ens old) (ens now) tm = sortE (ens ch ++ ens out) from by
            rw [diffE]
            have e1 : (firstE (ens now)).filter (chg (ens old)) = ens ch := by
              rw [HCE.out, HE1.out]
              congr 1
              funext e
              rw [HE0.out, chg_first]
            have e2 : ((firstE (ens old)).filter (fun e => (findE (ens now) e).isNone)).map (gone tm) = ens out := by
              rw [HRE.out, HE0.out]
              congr 2
              funext e
              rw [HE1.out, find_first]
            rw [e1, e2])
          have hs := sorted_any _ _ [ch, out] hll (by simp) (by have h1 := HSUM.out; rw [HDE.out, (sort_perm _).length_eq, List.length_append] at h1; simp only [ens, List.length_map] at h1; unfold lens; simp; omega)
          have HBS := Bx.mk (show Below w.heap.size w (wr.alloc (.cells #[.slice av ch.length cv, .slice av2 out.length cv2] 40)) from HBR.out.alloc HBR.out.size _)
          clear hll hF hBw
          go_wp2_with (go_at_call 50; refine hs.mono ?_; rintro e w3 ⟨v3, l3, rfl, heo3, hen3, hb3⟩)
          have HFIN := Bx.mk (show EO w3 w.heap.size v3 l3 ∧ ens l3 = diffE (ens old) (ens now) tm ∧ Below w.heap.size w w3 from by
            refine ⟨heo3.mono HBS.out.size, ?_, HBS.out.trans (hb3.mono HBS.out.size)⟩
            rw [hen3, HDE.out]
            simp [ens])
          clear heo3 hen3 hb3 hs
          go_wp2
          go_ret
          exact ⟨_, l3, rfl, HFIN.out⟩
/-- how many entries a difference has at most -/
theorem diff_len {old now : List En} (t : Int) : (diffE old now t).length ≤ now.length + old.length := by
  unfold diffE
  rw [(sort_perm _).length_eq, List.length_append, List.length_map]
  have h1 := List.length_filter_le (chg old) (firstE now)
  have h2 := List.length_filter_le (fun e => (findE now e).isNone) (firstE old)
  have h3 := firstA_le now []
  have h4 := firstA_le old []
  unfold firstE at h1 h2 ⊢
  omega
theorem pdiff_any (w : World) (vo vn : Value) (old now : List Et) (tm : Int) (ho : EL w vo old) (hw : EL w vn now) (hlo : old.length ≤ 1000000) (hln : now.length ≤ 1000000) (hsum : old.length + now.length < 20) :
    Calls Try.prog 28 #[vo, vn, .int .i64 tm] w fun e w' => ∃ v' l', e = .returned v' ∧ EO w' w.heap.size v' l' ∧ ens l' = diffE (ens old) (ens now) tm ∧ Below w.heap.size w w' :=
  pdiff_len w vo vn old now tm ho hw hlo hln (by have := diff_len (old := ens old) (now := ens now) tm; simp only [ens, List.length_map] at this; simp only [ens]; omega)
end Go.Proofs.Ytpagoinnkknkfaa.Pb

namespace Go.Proofs.Ytpagoinnkknkfaa.Pb
open Go Go.RowKit Go.Proofs.Ytpagoinnkknkfaa.Slc
set_option linter.unusedVariables false
set_option linter.unusedSimpArgs false

set_option maxRecDepth 10000 in
set_option maxHeartbeats 8000000 in
theorem pcomb_len (w : World) (vb vd : Value) (base delta : List Et) (hb0 : EL w vb base) (hd0 : EL w vd delta) (hlo : base.length ≤ 1000000) (hln : delta.length ≤ 1000000) (hsum : (combE (ens base) (ens delta)).1.length < 20) :
    Calls Try.prog 30 #[vb, vd] w fun e w' => ∃ v' l', e = .returned (.tuple #[v', .int .i64 (combE (ens base) (ens delta)).2]) ∧ EO w' w.heap.size v' l' ∧ ens l' = (combE (ens base) (ens delta)).1 ∧ Below w.heap.size w w' := by
  obtain ⟨i0, hi0, hz0, hz1, hz2⟩ := info_parts info_entry
  obtain ⟨LR, ER, hcb⟩ : ∃ L E, combE (ens base) (ens delta) = (L, E) := ⟨_, _, rfl⟩
  rw [hcb] at hsum
  have HSUM := Bx.mk (show LR.length < 20 from hsum)
  clear hsum
  rw [hcb]
  have HCB := Bx.mk hcb
  clear hcb
  have hf0 := pfirst_any w vb base hb0 hlo
  have HLa := Bx.mk hb0
  have HLb := Bx.mk hd0
  obtain ⟨a0, k0, rfl, -⟩ := hb0.rd.form
  obtain ⟨a1, k1, rfl, -⟩ := hd0.rd.form
  clear hb0 hd0
  go_enter Try.func30, Try.ntmps30
  go_wp2_with fail
  go_at_call 48
  refine hf0.mono ?_
  rintro e wa ⟨va, l0, rfl, -, hl0, he0, hba⟩
  obtain ⟨aa, ka, rfl, -⟩ := hl0.rd.form
  have hd0 : dupE (ens base) = decide (l0.length < base.length) := by
    have h1 := congrArg List.length he0
    unfold dupE; rw [← h1]; simp [ens]
  have hf1 := pfirst_any wa _ delta (HLb.out.below hba) hln
  have HBA := Bx.mk hba
  have hlt0 : l0.length ≤ base.length := by
    have h1 := congrArg List.length he0
    have h2 := firstA_le (ens base) []
    simp only [ens, List.length_map] at h1 h2
    unfold firstE at h1; omega
  clear hba hl0 he0 hf0
  cases hdd : dupE (ens base) with
  | true =>
    have HCB2 := Bx.mk (show combE (ens base) (ens delta) = ([], 10) by rw [combE]; simp [hdd])
    rw [HCB.out] at HCB2
    obtain ⟨hr1, hr2⟩ := Prod.mk.inj HCB2.out
    have HR1 := Bx.mk hr1
    have HR2 := Bx.mk hr2
    rw [hdd] at hd0
    have t0 : l0.length < base.length := by simpa using hd0.symm
    have t1 : decide ((l0.length : Int) < (base.length : Int)) = true := by simpa using t0
    clear hr1 hr2 hd0 HCB2 hf1 hdd
    go_wp2
    go_ret2
    exact ⟨_, [], by rw [HR2.out]; rfl, EO.nil _ _, by rw [HR1.out]; rfl, HBA.out⟩
  | false =>
    rw [hdd] at hd0
    have HD0 := Bx.mk hdd
    have t0 : ¬ l0.length < base.length := by simpa using hd0.symm
    have t1 : decide ((l0.length : Int) < (base.length : Int)) = false := by simpa using t0
    clear hd0 hdd
    go_wp2_with fail
    go_at_call 48
    refine hf1.mono ?_
    rintro e W1 ⟨vb1, l1, rfl, -, hl1, he1, hbb⟩
    obtain ⟨ab, kb, rfl, -⟩ := hl1.rd.form
    have hd1 : dupE (ens delta) = decide (l1.length < delta.length) := by
      have h1 := congrArg List.length he1
      unfold dupE; rw [← h1]; simp [ens]
    have HB1 := Bx.mk (HBA.out.trans (hbb.mono HBA.out.size))
    have HL0 := Bx.mk (HLa.out.below HB1.out)
    have HL1 := Bx.mk (HLb.out.below HB1.out)
    have hlt1 : l1.length ≤ delta.length := by
      have h1 := congrArg List.length he1
      have h2 := firstA_le (ens delta) []
      simp only [ens, List.length_map] at h1 h2
      unfold firstE at h1; omega
    clear hbb hl1 he1 hf1 HLa HLb
    cases hdd : dupE (ens delta) with
    | true =>
      have HCB2 := Bx.mk (show combE (ens base) (ens delta) = ([], 10) by rw [combE]; simp [hdd])
      rw [HCB.out] at HCB2
      obtain ⟨hr1, hr2⟩ := Prod.mk.inj HCB2.out
      have HR1 := Bx.mk hr1
      have HR2 := Bx.mk hr2
      rw [hdd] at hd1
      have t2 : l1.length < delta.length := by simpa using hd1.symm
      have t3 : decide ((l1.length : Int) < (delta.length : Int)) = true := by simpa using t2
      clear hr1 hr2 hd1 HCB2 hdd
      go_wp2
      go_ret2
      exact ⟨_, [], by rw [HR2.out]; rfl, EO.nil _ _, by rw [HR1.out]; rfl, HB1.out⟩
    | false =>
      rw [hdd] at hd1
      have HD1 := Bx.mk hdd
      have t2 : ¬ l1.length < delta.length := by simpa using hd1.symm
      have t3 : decide ((l1.length : Int) < (delta.length : Int)) = false := by simpa using t2
      have HC0 := Bx.mk HL0.out.cells.2
      clear hd1 hdd
      go_wp2
      go_loopw [6, 30] (fun ov i wr => ∃ (k : Nat) (out : List Et), k ≤ base.length ∧ i = .int .i64 k ∧ out.length ≤ k ∧ GE W1 W1.heap.size wr ov out ∧ Bx (ens out = (ens (base.take k)).filter (fun e => (findE (ens delta) e).isNone) ∧ ∀ j (hj : j < k) (h : j < base.length), (base[j]).e.r ≠ 8)) (fun _ i _ => base.length - (intOf i).toNat)
      case atStart => exact ⟨0, [], by omega, rfl, by simp, GE.nil _ _ (Nat.le_refl _), ⟨by simp [ens], fun j hj => by omega⟩⟩
      case round =>
        obtain ⟨k, out, hk, rfl, hlen, hG, hF⟩ := hrel
        obtain ⟨av, cv, rfl, -⟩ := hG.form
        have HGE := Bx.mk hG
        have HLEN := Bx.mk hlen
        have hBw : Below W1.heap.size W1 wr := hG.bel
        clear hG hlen
        by_cases hlt : k < base.length
        · skip
          obtain ⟨b, o, rfl, hbl, c0, c1, c2, c3, c4⟩ := HC0.out wr hBw k hlt
          obtain ⟨z, hz⟩ : ∃ z, z = base[k] := ⟨_, rfl⟩
          rw [← hz] at c0 c1 c2 c3 c4
          have hmem : z ∈ base := by rw [hz]; exact List.getElem_mem hlt
          have htk : ens (base.take (k + 1)) = ens (base.take k) ++ [z.e] := by rw [ens, List.take_succ_eq_append_getElem hlt, List.map_append, ← hz]; rfl
          have HTK := Bx.mk htk
          have HBZ := Bx.mk (show Below wr.heap.size wr (wr.alloc (encBox z)) from (Below.refl _ _).alloc (Nat.le_refl _) _)
          have HZB := Bx.mk (show ∀ W', Below (wr.alloc (encBox z)).heap.size (wr.alloc (encBox z)) W' → BoxAt W' wr.heap.size z from fun W' hW => by
            unfold BoxAt; rw [hW.block _ (by simp)]; exact heap_alloc_new _ _)
          have HZW := Bx.mk (show EtAt W1 z from HL0.out.at_ z hmem)
          have HZIN := Bx.mk (EtAt.other HGE.out HZW.out fun k hk => hk)
          have hcall := pfind_any (wr.alloc (encBox z)) _ delta z (((HL1.out.below hBw).below HBZ.out)) ((HZW.out.below hBw).below HBZ.out) (by omega)
          obtain ⟨ua, un, uc, hu⟩ : ∃ a n c, z.u.val = .slice a n c := ⟨_, _, _, rfl⟩
          obtain ⟨q, hq⟩ : ∃ q, findT delta z.e = q := ⟨_, rfl⟩
          rw [hq] at hcall
          have HQ := Bx.mk hq
          clear hq hbl
          rw [hu] at c4
          have HZC := Bx.mk (show encBox z = .cells #[.int .i64 z.e.s, .int .i64 z.e.t, .int .i64 z.e.r, .int .i64 z.e.v, .slice ua un uc] 44 by unfold encBox; rw [hu])
          have HU := Bx.mk hu
          unfold entV at hcall
          rw [hu] at hcall
          rw [HZC.out] at hcall HBZ HZB
          have HZE := Bx.mk (show (.cells #[.int .i64 z.e.s, .int .i64 z.e.t, .int .i64 z.e.r, .int .i64 z.e.v, .slice ua un uc] 44 (0, 0) : Obj) = .cells (encE z).toArray 44 (0, 0) from by rw [← HZC.out]; rfl)
          have HBWW := Bx.mk (HB1.out.trans (hBw.mono HB1.out.size))
          have HRET := Bx.mk (show z.e.r = 8 → combE (ens base) (ens delta) = ([], 7) from fun h => by
            rw [combE, HD0.out, HD1.out]
            simp only [Bool.or_self, Bool.false_eq_true, if_false]
            rw [if_pos (List.any_eq_true.2 ⟨z.e, List.mem_map.2 ⟨z, hmem, rfl⟩, by simpa using h⟩)])
          have HF := Bx.mk (show ∀ bb, (findT delta z.e).isSome = bb → (ens (base.take (k + 1))).filter (fun e => (findE (ens delta) e).isNone) = ens out ++ (if bb then [] else [z.e]) from fun bb hb => by
            rw [HTK.out, List.filter_append, ← hF.out.1]; simp only [List.filter_cons, gone_T, hb, List.filter_nil]; cases bb <;> rfl)
          have HNR := Bx.mk (show z.e.r ≠ 8 → ∀ j (hj : j < k + 1) (h : j < base.length), (base[j]).e.r ≠ 8 from fun h8 j hj h => by
            by_cases e : j = k
            · subst e; rw [← hz]; exact h8
            · exact hF.out.2 j (by omega) h)
          clear hu hmem hz htk hF HTK
          by_cases h8 : z.e.r = 8
          · have hret := HRET.out h8
            have t8 : (z.e.r == 8) = true := by simp [h8]
            have HFIN := Bx.mk (show Below w.heap.size w (wr.alloc (encBox z)) from HBWW.out.alloc HBWW.out.size _)
            rw [HZC.out] at HFIN
            rw [HCB.out] at hret
            obtain ⟨hr1, hr2⟩ := Prod.mk.inj hret
            have HR1 := Bx.mk hr1
            have HR2 := Bx.mk hr2
            clear hcall HF HNR HRET hret hr1 hr2 h8 HZE HZC HZB HBZ
            generalize z.e.s = S1 at *
            generalize z.e.t = T1 at *
            generalize z.e.r = R1 at *
            generalize z.e.v = V1 at *
            go_wp2
            go_ret2
            exact ⟨_, [], by rw [HR2.out]; rfl, EO.nil _ _, by rw [HR1.out]; rfl, HFIN.out⟩
          · have t8 : (z.e.r == 8) = false := by simpa using h8
            have HNR2 := Bx.mk (HNR.out h8)
            clear HNR HRET h8
            cases q with
            | none =>
              have HREL := Bx.mk (show ens (out ++ [z]) = (ens (base.take (k + 1))).filter (fun e => (findE (ens delta) e).isNone) by
                rw [HF.out false (by rw [HQ.out]; rfl)]; simp [ens])
              have HEV := HZE
              simp only [optV] at hcall
              clear HF
              go_wp2_with fail
              go_at_call 49
              refine hcall.mono ?_
              rintro e w2 ⟨rfl, hb2⟩
              obtain ⟨d0, d1, d2, d3, d4⟩ := (HZB.out w2 hb2).cells
              have hw2 := HBZ.out.trans (hb2.mono (by simp))
              have hpz : wr.heap.size < w2.heap.size := World.block_lt_of_cell? w2 _ d0
              have HGE2 := Bx.mk ((HGE.out.below hw2).below ((Below.refl _ _).alloc (Nat.le_refl _) (.cells #[.int .i64 0, .int .i64 0, .int .i64 0, .int .i64 0, .slice none 0 0] 44)))
              have HZ2 := Bx.mk ((HZIN.out.below hw2).below ((Below.refl _ _).alloc (Nat.le_refl _) (.cells #[.int .i64 0, .int .i64 0, .int .i64 0, .int .i64 0, .slice none 0 0] 44)))
              clear hb2 hw2 hcall
              rw [HU.out] at d4
              have HNEW := HZ2
              clear HZE HZC HZB HBZ
              generalize z.e.s = S1 at *
              generalize z.e.t = T1 at *
              generalize z.e.r = R1 at *
              generalize z.e.v = V1 at *
              have HBA := Bx.mk (show Below (w2.alloc (.cells #[.int .i64 0, .int .i64 0, .int .i64 0, .int .i64 0, .slice none 0 0] 44)).heap.size (w2.alloc (.cells #[.int .i64 0, .int .i64 0, .int .i64 0, .int .i64 0, .slice none 0 0] 44)) ((w2.alloc (.cells #[.int .i64 0, .int .i64 0, .int .i64 0, .int .i64 0, .slice none 0 0] 44)).alloc (.cells #[.int .i64 S1, .int .i64 T1, .int .i64 R1, .int .i64 V1, .slice ua un uc] 44)) from (Below.refl _ _).alloc (Nat.le_refl _) _)
              have hown := (HGE2.out.below HBA.out).eo.own
              have hsrc : SrcV ((w2.alloc (.cells #[.int .i64 0, .int .i64 0, .int .i64 0, .int .i64 0, .slice none 0 0] 44)).alloc (.cells #[.int .i64 S1, .int .i64 T1, .int .i64 R1, .int .i64 V1, .slice ua un uc] 44)) 5 (.slice (some ⟨(w2.alloc (.cells #[.int .i64 0, .int .i64 0, .int .i64 0, .int .i64 0, .slice none 0 0] 44)).heap.size, 0, none⟩) 1 1) 1 ([z].flatMap encE) := src_new encE_ok (by rw [heap_alloc_new, HEV.out])
              simp only [World.size_alloc] at hsrc
              have hbz := (HGE2.out.below HBA.out).sz
              have hm1 : out.length + 1 ≤ maxLen := by have := HLEN.out; unfold maxLen; omega
              have hm2 : (out.length + 1) * 56 ≤ 140737488355328 := by have := HLEN.out; omega
              have HOWN := Bx.mk hown
              clear hown
              go_wp2_with (refine wpList_append_any rfl _ _ _ rfl W1.heap.size 44 i0 _ 5 56 und_entries hi0 hz0 hz1 hz2 rfl (by decide) _ out.length (out.flatMap encE) rfl HOWN.out _ 1 ([z].flatMap encE) rfl hsrc hm1 hm2 hbz ?_)
              intro v2 w3 hapd
              have HG2 := Bx.mk ((HGE2.out.below HBA.out).apd (m := [z]) (fun y hy => by rw [List.mem_singleton] at hy; subst hy; exact HNEW.out.below HBA.out) rfl rfl rfl rfl hapd)
              clear hapd hsrc hbz HOWN hm1 hm2
              go_wp2
              go_roundw
              case rel => exact ⟨k + 1, out ++ [z], by omega, by go_num, by have := HLEN.out; simp; omega, HG2.out, ⟨by rw [HREL.out], HNR2.out⟩⟩
              case measure => simp [intOf]; omega
            | some oo =>
              simp only [optV, entV] at hcall
              obtain ⟨oa, on, oc, hou⟩ : ∃ a n c, oo.u.val = .slice a n c := ⟨_, _, _, rfl⟩
              rw [hou] at hcall
              clear hou
              have HREL := Bx.mk (show ens out = (ens (base.take (k + 1))).filter (fun e => (findE (ens delta) e).isNone) by
                rw [HF.out true (by rw [HQ.out]; rfl)]; simp)
              clear HF
              go_wp2_with fail
              go_at_call 49
              refine hcall.mono ?_
              rintro e w2 ⟨rfl, hb2⟩
              obtain ⟨d0, d1, d2, d3, d4⟩ := (HZB.out w2 hb2).cells
              have hw2 := HBZ.out.trans (hb2.mono (by simp))
              have hpz : wr.heap.size < w2.heap.size := World.block_lt_of_cell? w2 _ d0
              have HGE2 := Bx.mk ((HGE.out.below hw2).below ((Below.refl _ _).alloc (Nat.le_refl _) (.cells #[.int .i64 oo.e.s, .int .i64 oo.e.t, .int .i64 oo.e.r, .int .i64 oo.e.v, .slice oa on oc] 44)))
              have HZ2 := Bx.mk ((HZIN.out.below hw2).below ((Below.refl _ _).alloc (Nat.le_refl _) (.cells #[.int .i64 oo.e.s, .int .i64 oo.e.t, .int .i64 oo.e.r, .int .i64 oo.e.v, .slice oa on oc] 44)))
              clear hb2 hw2 hcall
              rw [HU.out] at d4
              clear HZC HZB HBZ HZE
              generalize oo.e.s = S2 at *
              generalize oo.e.t = T2 at *
              generalize oo.e.r = R2 at *
              generalize oo.e.v = V2 at *
              generalize z.e.s = S1 at *
              generalize z.e.t = T1 at *
              generalize z.e.r = R1 at *
              generalize z.e.v = V1 at *
              go_wp2
              go_roundw
              case rel => exact ⟨k + 1, out, by omega, by go_num, by have := HLEN.out; omega, HGE2.out, ⟨by rw [HREL.out], HNR2.out⟩⟩
              case measure => simp [intOf]; omega
        · obtain rfl : k = base.length := by omega
          obtain ⟨W2, hW2⟩ : ∃ W2, W2 = wr := ⟨_, rfl⟩
          subst hW2
          obtain ⟨ch, hch⟩ : ∃ ch, ch = out := ⟨_, rfl⟩
          subst hch
          have HCH := HGE
          have HCE := Bx.mk (show ens ch = (ens base).filter (fun e => (findE (ens delta) e).isNone) by rw [hF.out.1, List.take_length])
          have HNO := Bx.mk (show (ens base).any (fun e => decide (e.r = 8)) = false from by
            rw [List.any_eq_false]
            intro x hx
            rw [List.mem_map] at hx
            obtain ⟨y, hy, rfl⟩ := hx
            obtain ⟨j, hj, rfl⟩ := List.mem_iff_getElem.1 hy
            simpa using hF.out.2 j hj hj)
          have HCL := HLEN
          have HL1b := Bx.mk (HL1.out.below hBw)
          have HC1b := Bx.mk HL1b.out.cells.2
          have HB2 := Bx.mk (HB1.out.trans (hBw.mono HB1.out.size))
          clear hF hBw HGE HLEN
          go_wp2
          go_loopw [7, 52] (fun ov i wr => ∃ (k : Nat) (out : List Et), k ≤ delta.length ∧ i = .int .i64 k ∧ out.length ≤ k ∧ GE W2 W2.heap.size wr ov out ∧ Bx (ens out = (ens (delta.take k)).filter (fun e => decide (e.r ≠ 8)))) (fun _ i _ => delta.length - (intOf i).toNat)
          case atStart => exact ⟨0, [], by omega, rfl, by simp, GE.nil _ _ (Nat.le_refl _), ⟨by simp [ens]⟩⟩
          case round =>
            obtain ⟨k, out, hk, rfl, hlen, hG, hF⟩ := hrel
            obtain ⟨av2, cv2, rfl, -⟩ := hG.form
            have HGE := Bx.mk hG
            have HLEN := Bx.mk hlen
            have hBw : Below W2.heap.size W2 wr := hG.bel
            clear hG hlen
            by_cases hlt : k < delta.length
            · skip
              obtain ⟨b, o, rfl, hbl, c0, c1, c2, c3, c4⟩ := HC1b.out wr hBw k hlt
              obtain ⟨z, hz⟩ : ∃ z, z = delta[k] := ⟨_, rfl⟩
              rw [← hz] at c0 c1 c2 c3 c4
              have hmem : z ∈ delta := by rw [hz]; exact List.getElem_mem hlt
              have htk : ens (delta.take (k + 1)) = ens (delta.take k) ++ [z.e] := by rw [ens, List.take_succ_eq_append_getElem hlt, List.map_append, ← hz]; rfl
              have HZW := Bx.mk (show EtAt W2 z from HL1b.out.at_ z hmem)
              have HZIN := Bx.mk (EtAt.other HGE.out HZW.out fun k hk => hk)
              have HF := Bx.mk (show ∀ bb, decide (z.e.r ≠ 8) = bb → (ens (delta.take (k + 1))).filter (fun e => decide (e.r ≠ 8)) = ens out ++ (if bb then [z.e] else []) from fun bb hb => by
                rw [htk, List.filter_append, ← hF.out]; simp only [List.filter_cons, hb, List.filter_nil])
              obtain ⟨ua, un, uc, hu⟩ : ∃ a n c, z.u.val = .slice a n c := ⟨_, _, _, rfl⟩
              rw [hu] at c4
              have HEV := Bx.mk (show (.cells #[.int .i64 z.e.s, .int .i64 z.e.t, .int .i64 z.e.r, .int .i64 z.e.v, .slice ua un uc] 44 (0, 0) : Obj) = .cells (encE z).toArray 44 (0, 0) from by rw [← hu]; rfl)
              have HBZ := Bx.mk (show Below wr.heap.size wr (wr.alloc (.cells #[.int .i64 z.e.s, .int .i64 z.e.t, .int .i64 z.e.r, .int .i64 z.e.v, .slice ua un uc] 44)) from (Below.refl _ _).alloc (Nat.le_refl _) _)
              have HGE2 := Bx.mk (HGE.out.below HBZ.out)
              have HNEW := Bx.mk (HZIN.out.below HBZ.out)
              clear hu hmem hz htk hF hbl
              by_cases h8 : z.e.r = 8
              · have t8 : (z.e.r != 8) = false := by simp [h8]
                have HREL := Bx.mk (show ens out = (ens (delta.take (k + 1))).filter (fun e => decide (e.r ≠ 8)) by rw [HF.out false (by simp [h8])]; simp)
                clear HF h8
                generalize z.e.s = S1 at *
                generalize z.e.t = T1 at *
                generalize z.e.r = R1 at *
                generalize z.e.v = V1 at *
                go_wp2
                go_roundw
                case rel => exact ⟨k + 1, out, by omega, by go_num, by have := HLEN.out; omega, HGE2.out, ⟨by rw [HREL.out]⟩⟩
                case measure => simp [intOf]; omega
              · have t8 : (z.e.r != 8) = true := by simpa using h8
                have HREL := Bx.mk (show ens (out ++ [z]) = (ens (delta.take (k + 1))).filter (fun e => decide (e.r ≠ 8)) by rw [HF.out true (by simpa using h8)]; simp [ens])
                clear HF h8
                generalize z.e.s = S1 at *
                generalize z.e.t = T1 at *
                generalize z.e.r = R1 at *
                generalize z.e.v = V1 at *
                have HBA := Bx.mk (show Below (wr.alloc (.cells #[.int .i64 S1, .int .i64 T1, .int .i64 R1, .int .i64 V1, .slice ua un uc] 44)).heap.size (wr.alloc (.cells #[.int .i64 S1, .int .i64 T1, .int .i64 R1, .int .i64 V1, .slice ua un uc] 44)) ((wr.alloc (.cells #[.int .i64 S1, .int .i64 T1, .int .i64 R1, .int .i64 V1, .slice ua un uc] 44)).alloc (.cells #[.int .i64 S1, .int .i64 T1, .int .i64 R1, .int .i64 V1, .slice ua un uc] 44)) from (Below.refl _ _).alloc (Nat.le_refl _) _)
                have hown := (HGE2.out.below HBA.out).eo.own
                have hsrc : SrcV ((wr.alloc (.cells #[.int .i64 S1, .int .i64 T1, .int .i64 R1, .int .i64 V1, .slice ua un uc] 44)).alloc (.cells #[.int .i64 S1, .int .i64 T1, .int .i64 R1, .int .i64 V1, .slice ua un uc] 44)) 5 (.slice (some ⟨(wr.alloc (.cells #[.int .i64 S1, .int .i64 T1, .int .i64 R1, .int .i64 V1, .slice ua un uc] 44)).heap.size, 0, none⟩) 1 1) 1 ([z].flatMap encE) := src_new encE_ok (by rw [heap_alloc_new, HEV.out])
                simp only [World.size_alloc] at hsrc
                have hbz := (HGE2.out.below HBA.out).sz
                have hm1 : out.length + 1 ≤ maxLen := by have := HLEN.out; unfold maxLen; omega
                have hm2 : (out.length + 1) * 56 ≤ 140737488355328 := by have := HLEN.out; omega
                have HOWN := Bx.mk hown
                clear hown
                go_wp2_with (refine wpList_append_any rfl _ _ _ rfl W2.heap.size 44 i0 _ 5 56 und_entries hi0 hz0 hz1 hz2 rfl (by decide) _ out.length (out.flatMap encE) rfl HOWN.out _ 1 ([z].flatMap encE) rfl hsrc hm1 hm2 hbz ?_)
                intro v2 w3 hapd
                have HG2 := Bx.mk ((HGE2.out.below HBA.out).apd (m := [z]) (fun y hy => by rw [List.mem_singleton] at hy; subst hy; exact HNEW.out.below HBA.out) rfl rfl rfl rfl hapd)
                clear hapd hsrc hbz HOWN hm1 hm2
                go_wp2
                go_roundw
                case rel => exact ⟨k + 1, out ++ [z], by omega, by go_num, by have := HLEN.out; simp; omega, HG2.out, ⟨by rw [HREL.out]⟩⟩
                case measure => simp [intOf]; omega
            · obtain rfl : k = delta.length := by omega
              have HRE := Bx.mk (show ens out = (ens delta).filter (fun e => decide (e.r ≠ 8)) by rw [hF.out, List.take_length])
              have HEL1 := Bx.mk (HCH.out.eo.el.below hBw)
              have HBR := Bx.mk (HB2.out.trans (hBw.mono HB2.out.size))
              have hll : LL (wr.alloc (.cells #[.slice av ch.length cv, .slice av2 out.length cv2] 40)) (.slice (some ⟨wr.heap.size, 0, none⟩) 2 2) [ch, out] :=
                two_slices (a := ⟨av, ch.length, cv⟩) (b := ⟨av2, out.length, cv2⟩) (heap_alloc_new _ _) (HEL1.out.below ((Below.refl _ _).alloc (Nat.le_refl _) _)) (HGE.out.eo.el.below ((Below.refl _ _).alloc (Nat.le_refl _) _))
              have HBS := Bx.mk (show Below w.heap.size w (wr.alloc (.cells #[.slice av ch.length cv, .slice av2 out.length cv2] 40)) from HBR.out.alloc HBR.out.size _)
              have HRR := Bx.mk (show LR = sortE (ens ch ++ ens out) ∧ ER = 0 from by
                have := HCB.out
                rw [combE, HD0.out, HD1.out, HNO.out] at this
                simp only [Bool.or_self, Bool.false_eq_true, if_false] at this
                obtain ⟨h1, h2⟩ := Prod.mk.inj this
                exact ⟨by rw [HCE.out, HRE.out]; exact h1.symm, h2.symm⟩)
              have hs := sorted_any _ _ [ch, out] hll (by simp) (by have h1 := HSUM.out; rw [HRR.out.1, (sort_perm _).length_eq, List.length_append] at h1; simp only [ens, List.length_map] at h1; unfold lens; simp; omega)
              clear hll hF hBw
              go_wp2_with (go_at_call 50; refine hs.mono ?_; rintro e w3 ⟨v3, l3, rfl, heo3, hen3, hb3⟩)
              have HFIN := Bx.mk (show EO w3 w.heap.size v3 l3 ∧ ens l3 = LR ∧ Below w.heap.size w w3 from by
                refine ⟨heo3.mono HBS.out.size, ?_, HBS.out.trans (hb3.mono HBS.out.size)⟩
                rw [hen3, HRR.out.1]
                simp [ens])
              clear heo3 hen3 hb3 hs
              go_wp2
              go_ret2
              exact ⟨_, l3, by rw [HRR.out.2]; rfl, HFIN.out.1, HFIN.out.2.1, HFIN.out.2.2⟩

theorem comb_len (base delta : List En) : (combE base delta).1.length ≤ base.length + delta.length := by
  unfold combE
  split
  · simp
  · split
    · simp
    · rw [(sort_perm _).length_eq, List.length_append]
      have h1 := List.length_filter_le (fun e => (findE delta e).isNone) base
      have h2 := List.length_filter_le (fun e => decide (e.r ≠ 8)) delta
      omega
theorem pcomb_any (w : World) (vb vd : Value) (base delta : List Et) (hb0 : EL w vb base) (hd0 : EL w vd delta) (hlo : base.length ≤ 1000000) (hln : delta.length ≤ 1000000) (hsum : base.length + delta.length < 20) :
    Calls Try.prog 30 #[vb, vd] w fun e w' => ∃ v' l', e = .returned (.tuple #[v', .int .i64 (combE (ens base) (ens delta)).2]) ∧ EO w' w.heap.size v' l' ∧ ens l' = (combE (ens base) (ens delta)).1 ∧ Below w.heap.size w w' :=
  pcomb_len w vb vd base delta hb0 hd0 hlo hln (by have := comb_len (ens base) (ens delta); simp only [ens, List.length_map] at this; simp only [ens]; omega)
set_option maxRecDepth 10000 in
set_option maxHeartbeats 2000000 in
theorem pmerge_any (w : World) (v : Value) (ls : List (List Et)) (hv : LL w v ls) (hn : ls.length ≤ 1000) (ht : lens ls < 20) :
    Calls Try.prog 32 #[v] w fun e w' => ∃ v' l', e = .returned (.tuple #[v', .int .i64 (mergeE (ens ls.flatten)).2]) ∧ EO w' w.heap.size v' l' ∧ ens l' = (mergeE (ens ls.flatten)).1 ∧ Below w.heap.size w w' := by
  have hs := sorted_any w v ls hv hn ht
  obtain ⟨LR, ER, hcb⟩ : ∃ L E, mergeE (ens ls.flatten) = (L, E) := ⟨_, _, rfl⟩
  rw [hcb]
  have HCB := Bx.mk hcb
  clear hcb hv
  go_enter Try.func32, Try.ntmps32
  go_wp2_with fail
  go_at_call 50
  refine hs.mono ?_
  rintro e w1 ⟨v1, l1, rfl, heo1, hen1, hb1⟩
  have hlen : l1.length < 20 := by
    have h1 := congrArg List.length hen1
    rw [(sort_perm _).length_eq] at h1
    simp only [ens, List.length_map] at h1
    unfold lens at ht; omega
  have hf := pfirst_any w1 v1 l1 heo1.el (by omega)
  obtain ⟨a1, k1, rfl, -⟩ := heo1.own.rd.form
  have HEO := Bx.mk heo1
  have HEN := Bx.mk hen1
  have HB1 := Bx.mk hb1
  clear heo1 hen1 hb1 hs
  go_wp2_with fail
  go_at_call 48
  refine hf.mono ?_
  rintro e w2 ⟨v2, l2, rfl, -, hl2, he2, hb2⟩
  obtain ⟨a2, k2, rfl, -⟩ := hl2.rd.form
  have hd : dupE (ens ls.flatten) = decide (l2.length < l1.length) := by
    rw [← merge_sorted, ← HEN.out]
    have h1 := congrArg List.length he2
    unfold dupE; rw [← h1]; simp [ens]
  have HB2 := Bx.mk (HB1.out.trans (hb2.mono HB1.out.size))
  have HEO2 := Bx.mk (HEO.out.below hb2)
  have hlt2 : l2.length ≤ l1.length := by
    have h1 := congrArg List.length he2
    have h2 := firstA_le (ens l1) []
    simp only [ens, List.length_map] at h1 h2
    unfold firstE at h1; omega
  clear hb2 hl2 he2 hf
  cases hdd : dupE (ens ls.flatten) with
  | true =>
    have HR := Bx.mk (show LR = [] ∧ ER = 10 from by
      have := HCB.out
      rw [mergeE, hdd] at this
      obtain ⟨h1, h2⟩ := Prod.mk.inj this
      exact ⟨h1.symm, h2.symm⟩)
    rw [hdd] at hd
    have t0 : l2.length < l1.length := by simpa using hd.symm
    have t1 : decide ((l2.length : Int) < (l1.length : Int)) = true := by simpa using t0
    clear hd hdd
    go_wp2
    go_ret2
    exact ⟨_, [], by rw [HR.out.2]; rfl, EO.nil _ _, by rw [HR.out.1]; rfl, HB2.out⟩
  | false =>
    have HR := Bx.mk (show LR = sortE (ens ls.flatten) ∧ ER = 0 from by
      have := HCB.out
      rw [mergeE, hdd] at this
      obtain ⟨h1, h2⟩ := Prod.mk.inj this
      exact ⟨h1.symm, h2.symm⟩)
    rw [hdd] at hd
    have t0 : ¬ l2.length < l1.length := by simpa using hd.symm
    have t1 : decide ((l2.length : Int) < (l1.length : Int)) = false := by simpa using t0
    clear hd hdd
    go_wp2
    go_ret2
    exact ⟨_, l1, by rw [HR.out.2]; rfl, HEO2.out, by rw [HR.out.1, HEN.out], HB2.out⟩
end Go.Proofs.Ytpagoinnkknkfaa.Pb
