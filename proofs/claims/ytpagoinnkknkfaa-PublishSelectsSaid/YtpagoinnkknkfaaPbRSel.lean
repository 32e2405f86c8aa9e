/-
  The reference's Select.
-/
import Derived.Test.YtpagoinnkknkfaaPbSel
import Derived.Test.YtpagoinnkknkfaaPbRSort
import Derived.Deep.CutBlock
import Derived.Deep.DeepCutAuto
import Derived.Deep.QuietTactic
namespace Go.Proofs.Ytpagoinnkknkfaa.Pb
open Go Go.RowKit Go.Shelf Go.Maps Go.Proofs.Ytpagoinnkknkfaa.Slc
set_option linter.unusedVariables false
set_option linter.unusedSimpArgs false
attribute [local go_sem] Oper.semAt_some

theorem bits_comm (a b : Int) : bits BinOp.and IntKind.i64 a b = bits BinOp.and IntKind.i64 b a := by
  unfold bits
  simp only [BitVec.and_comm]
/-- what the certificates say of the class -/
def clsB (cls : Int) : Option Bool → Bool
  | none => true
  | some ca => !(cls == 1 && ca) && !(cls == 2 && !ca)
def partB (parts part s : Int) : Bool := decide (part < 0) || decide (parts ≤ 0) || (s.tmod parts == part)
def reasB (reasons r : Int) : Bool := (reasons == 0) || (r == 0) || (bits BinOp.and IntKind.i64 (bitR r) reasons != 0)
theorem selC_eq (cs : List Iss) (parts part cls reasons : Int) (e : En) : selC cs parts part cls reasons e = (partB parts part e.s && clsB cls (firstI cs e.s) && reasB reasons e.r) := by
  unfold selC partB reasB clsB
  have h1 : (!(decide (part ≥ 0) && decide (parts > 0) && (e.s.tmod parts != part))) = (decide (part < 0) || decide (parts ≤ 0) || (e.s.tmod parts == part)) := by
    have a1 : decide (part ≥ 0) = !decide (part < 0) := by rw [Bool.eq_iff_iff]; simp
    have a2 : decide (parts > 0) = !decide (parts ≤ 0) := by rw [Bool.eq_iff_iff]; simp
    rw [a1, a2]
    cases decide (part < 0) <;> cases decide (parts ≤ 0) <;> cases q : (e.s.tmod parts == part) <;> simp [bne, q]
  have h2 : (!(reasons != 0 && e.r != 0 && (bits BinOp.and IntKind.i64 reasons (bitR e.r) == 0))) = ((reasons == 0) || (e.r == 0) || (bits BinOp.and IntKind.i64 (bitR e.r) reasons != 0)) := by
    rw [bits_comm reasons]
    cases q1 : (reasons == 0) <;> cases q2 : (e.r == 0) <;> cases q3 : (bits BinOp.and IntKind.i64 (bitR e.r) reasons == 0) <;> simp [bne, q1, q2, q3]
  rw [h1, h2]
  congr 2
  cases firstI cs e.s with
  | none => cases (cls == 1) <;> cases (cls == 2) <;> rfl
  | some ca => cases ca <;> cases (cls == 1) <;> cases (cls == 2) <;> rfl
set_option maxRecDepth 100000 in
set_option maxHeartbeats 8000000 in
theorem rsel_any (w : World) (v cv : Value) (l : List Et) (cs : List Iss) (parts part cls reasons : Int) (hl : EL w v l) (hln : l.length ≤ 100000) (hcs : Rd w encI cv cs) (hcn : cs.length ≤ 100000) :
    Calls Try.prog 27 #[v, cv, .int .i64 parts, .int .i64 part, .int .i64 cls, .int .i64 reasons] w fun e w' => ∃ (rv : Value) (out : List Et), e = .returned rv ∧ ens out = (ens l).filter (selC cs parts part cls reasons) ∧ EO w' w.heap.size rv out ∧ Below w.heap.size w w' := by
  obtain ⟨i0, hi0, hz0, hz1, hz2⟩ := info_parts info_entry
  obtain ⟨ad, cap, rfl, -⟩ := hl.rd.form
  obtain ⟨cd, ccap, rfl, -⟩ := hcs.form
  have HL := Bx.mk hl
  have HC := Bx.mk hl.cells.2
  have HCC := Bx.mk (show ∀ W, Below w.heap.size w W → ∀ k (hk : k < cs.length), ∃ b o, cd = some ⟨b, o, none⟩ ∧ b < w.heap.size ∧ W.cell? ⟨b, o + k * 3, none⟩ = some (.int .i64 (cs[k]).s) ∧ W.cell? ⟨b, o + k * 3 + 1, none⟩ = some (.bool (cs[k]).ca) from fun W hW k hk => by
    obtain ⟨b, o, q1, q2, q3, q4, -⟩ := (rdI_cells hcs).2 W (fun k hk _ _ _ _ => hW.block k hk) k hk
    exact ⟨b, o, q1, q2, q3, q4⟩)
  clear hl hcs
  go_enter Try.func27, Try.ntmps27
  go_wp2_with fail
  go_loopw [13, 14] (fun ov i wr => ∃ (k : Nat) (out : List Et), k ≤ l.length ∧ i = .int .i64 k ∧ out.length ≤ k ∧ GE w w.heap.size wr ov out ∧ Bx (ens out = (ens (l.take k)).filter (selC cs parts part cls reasons))) (fun _ i _ => l.length - (intOf i).toNat)
  case atStart => exact ⟨0, [], by omega, rfl, by simp, GE.nil _ _ (Nat.le_refl _), ⟨by simp [ens]⟩⟩
  case round =>
    obtain ⟨k, out, hk, rfl, hlen, hG, hF⟩ := hrel
    obtain ⟨av, cv, rfl, -⟩ := hG.form
    have HGE := Bx.mk hG
    have HLEN := Bx.mk hlen
    have hBw : Below w.heap.size w wr := hG.bel
    have HBW := Bx.mk hBw
    by_cases hlt : k < l.length
    · obtain ⟨b, o, rfl, hbl, c0, c1, c2, c3, c4⟩ := HC.out wr hBw k hlt
      obtain ⟨z, hz⟩ : ∃ z, z = l[k] := ⟨_, rfl⟩
      rw [← hz] at c0 c1 c2 c3 c4
      have hmem : z ∈ l := by rw [hz]; exact List.getElem_mem hlt
      have HSL := Bx.mk (show ∀ q, (partB parts part z.e.s && clsB cls (firstI cs z.e.s) && reasB reasons z.e.r) = q → (ens (l.take (k + 1))).filter (selC cs parts part cls reasons) = ens out ++ (if q then [z.e] else []) from fun q hq => by
        have hq' : selC cs parts part cls reasons z.e = q := by rw [selC_eq]; exact hq
        rw [ens, List.take_succ_eq_append_getElem hlt, List.map_append, ← hz, List.filter_append, ← hF.out]; simp only [List.map_cons, List.map_nil, List.filter_cons, hq', List.filter_nil])
      have HZW := Bx.mk (HL.out.at_ z hmem)
      obtain ⟨⟨ua, un, uc⟩, hu⟩ : ∃ u : Sl, z.u = u := ⟨_, rfl⟩
      have HZC := Bx.mk (show (encE z).toArray = #[.int .i64 z.e.s, .int .i64 z.e.t, .int .i64 z.e.r, .int .i64 z.e.v, .slice ua un uc] by unfold encE; rw [hu]; rfl)
      rw [hu] at c4
      simp only [Sl.val] at c4
      clear hz hu hmem hG hF hlen hbl
      obtain ⟨wo, hwo⟩ : ∃ wo, wo = wr := ⟨_, rfl⟩
      subst hwo
      go_upto_region 6 with fail
      obtain ⟨W5, hW5⟩ : ∃ W5, W5 = wo.alloc (.cells #[.int .i64 z.e.s, .int .i64 z.e.t, .int .i64 z.e.r, .int .i64 z.e.v, .slice ua un uc] 44) := ⟨_, rfl⟩
      have hb5 : Below wo.heap.size wo W5 := by rw [hW5]; exact (Below.refl _ _).alloc (Nat.le_refl _) _
      have hq5 : W5.heap[wo.heap.size]? = some (.cells #[.int .i64 z.e.s, .int .i64 z.e.t, .int .i64 z.e.r, .int .i64 z.e.v, .slice ua un uc] 44 (0, 0)) := by rw [hW5]; exact heap_alloc_new _ _
      rw [← hW5]
      clear hW5 c0 c1 c2 c3 c4
      obtain ⟨q, hq⟩ : ∃ q, q = wo.heap.size := ⟨_, rfl⟩
      rw [← hq] at hq5 ⊢
      clear hq
      have HGE5 := Bx.mk (HGE.out.below hb5)
      have HZI := Bx.mk ((EtAt.other HGE.out HZW.out fun k hk => hk).below hb5)
      have HB5 := Bx.mk (HBW.out.trans (hb5.mono HBW.out.size))
      have HQ5 := Bx.mk hq5
      have m0 := cell_of_row _ _ 0 _ _ _ hq5
      simp only [List.getElem?_toArray, List.getElem?_cons_zero] at m0
      clear hb5 hBw hq5
      obtain ⟨P, hP⟩ : ∃ P, P = partB parts part z.e.s := ⟨_, rfl⟩
      rw [← hP] at HSL
      have HP := Bx.mk (show P = (decide (part < 0) || decide (parts ≤ 0) || (z.e.s.tmod parts == part)) from hP)
      clear hP
      generalize z.e.s = S1 at *
      generalize z.e.t = T1 at *
      generalize z.e.r = R1 at *
      generalize z.e.v = V1 at *
      go_cut [16] from 28 to 41 (fun s wc => wc = W5 ∧ s = .bool P)
      case first =>
        by_cases hA : part < 0
        · have tA : decide (part < 0) = true := decide_eq_true hA
          have hE := Bx.mk (show P = true by rw [HP.out, tA]; rfl)
          clear hA HP
          go_wp2_with fail
          go_meet
          exact ⟨rfl, by rw [hE.out]⟩
        · have tA : decide (part < 0) = false := decide_eq_false hA
          by_cases hBp : parts ≤ 0
          · have tB : decide (parts ≤ 0) = true := decide_eq_true hBp
            have hE := Bx.mk (show P = true by rw [HP.out, tA, tB]; rfl)
            clear hA hBp HP
            go_wp2_with fail
            go_meet
            exact ⟨rfl, by rw [hE.out]⟩
          · have tB : decide (parts ≤ 0) = false := decide_eq_false hBp
            have hE := Bx.mk (show P = (S1.tmod parts == part) by rw [HP.out, tA, tB]; rfl)
            have hp0 : parts ≠ 0 := by omega
            clear hA HP
            go_wp2_with fail
            go_meet
            exact ⟨rfl, by rw [hE.out]⟩
      case rest =>
      obtain ⟨rfl, rfl⟩ := hcut
      clear HP m0
      obtain ⟨fi, hfi⟩ : ∃ fi, fi = firstI cs S1 := ⟨_, rfl⟩
      rw [← hfi] at HSL
      have HFI := Bx.mk hfi
      clear hfi
      obtain ⟨W6, hW6⟩ : ∃ W6, W6 = wc := ⟨_, rfl⟩
      subst hW6
      go_upto_block 2 with fail
      go_cut [16] (fun s wc => Below W6.heap.size W6 wc ∧ s = .bool (P && clsB cls fi))
      case first =>
        go_wp2_with fail
        go_loopw [16, 17] (fun s16 j w7 => s16 = .bool P ∧ ∃ m : Nat, j = .int .i64 m ∧ m ≤ cs.length ∧ Bx (fi = firstI (cs.drop m) S1) ∧ Below W6.heap.size W6 w7) (fun _ j _ => cs.length - (intOf j).toNat)
        case atStart => exact ⟨rfl, 0, rfl, by omega, ⟨by rw [HFI.out, List.drop_zero]⟩, Below.refl _ _⟩
        case round =>
          obtain ⟨rfl, m, rfl, hm, hf, hb7⟩ := hrel
          have HB7 := Bx.mk hb7
          by_cases hltm : m < cs.length
          · obtain ⟨b', o', rfl, hbl', d0, d1⟩ := HCC.out wr (HB5.out.trans (hb7.mono HB5.out.size)) m hltm
            have HFS := Bx.mk (show fi = if (cs[m]).s = S1 then some (cs[m]).ca else firstI (cs.drop (m + 1)) S1 by
              rw [hf.out, List.drop_eq_getElem_cons hltm]
              unfold firstI
              rw [List.find?_cons]
              by_cases e : (cs[m]).s = S1
              · rw [if_pos e, beq_iff_eq.2 e]; rfl
              · rw [if_neg e, beq_eq_false_iff_ne.2 e])
            have hq7 := (hb7.block q (lt_of_block HQ5.out)).trans HQ5.out
            have m0 := cell_of_row _ _ 0 _ _ _ hq7
            simp only [List.getElem?_toArray, List.getElem?_cons_zero] at m0
            generalize (cs[m]).s = S2 at *
            generalize (cs[m]).ca = CA at *
            clear hf hb7 hq7 hbl'
            by_cases hs : S2 = S1
            · have ts : (S2 == S1) = true := by simpa using hs
              have HFE := Bx.mk (show fi = some CA by rw [HFS.out, if_pos hs])
              have d1' : ∀ n, (wr.drewN n).cell? ⟨b', o' + m * 3 + 1, none⟩ = some (.bool CA) := fun n => d1
              clear HFS hs
              go_wp2
              go_quiet (fail)
              have HBD := fun n => drewN_below HB7.out n
              clear d0 m0
              by_cases h1 : cls = 1
              · subst h1
                cases P <;> cases CA
                all_goals
                  go_wp2
                  go_meet
                  exact ⟨HBD _, by rw [HFE.out]; rfl⟩
              · have t1 : (cls == 1) = false := by simpa using h1
                by_cases h2 : cls = 2
                · subst h2
                  clear h1 t1
                  cases P <;> cases CA
                  all_goals
                    go_wp2
                    go_meet
                    exact ⟨HBD _, by rw [HFE.out]; rfl⟩
                · have t2 : (cls == 2) = false := by simpa using h2
                  clear h1 h2
                  have HCB := Bx.mk (show clsB cls (some CA) = true by simp [clsB, t1, t2])
                  cases P <;> cases CA
                  all_goals
                    go_wp2
                    go_meet
                    exact ⟨HBD _, by rw [HFE.out, HCB.out]; rfl⟩
            · have ts : (S2 == S1) = false := by simpa using hs
              have HFE := Bx.mk (show fi = firstI (cs.drop (m + 1)) S1 by rw [HFS.out, if_neg hs])
              clear HFS hs d1
              go_wp2
              go_quiet (fail)
              go_wp2
              go_roundw
              case rel => exact ⟨rfl, m + 1, by go_num, by omega, HFE, drewN_below HB7.out _⟩
              case measure => simp [intOf]; omega
          · obtain rfl : m = cs.length := by omega
            have HFE := Bx.mk (show fi = none by rw [hf.out, List.drop_length]; rfl)
            clear hf hb7
            go_wp2
            go_meet
            exact ⟨HB7.out, by rw [HFE.out]; simp [clsB]⟩
      case rest =>
        obtain ⟨hb7, rfl⟩ := hcut
        obtain ⟨K, hK⟩ : ∃ K, K = (P && clsB cls fi) := ⟨_, rfl⟩
        rw [← hK] at HSL ⊢
        clear hK HFI
        obtain ⟨W7, hW7⟩ : ∃ W7, W7 = wc := ⟨_, rfl⟩
        subst hW7
        have HGE7 := Bx.mk (HGE5.out.below hb7)
        have HZI7 := Bx.mk (HZI.out.below hb7)
        have hq7 := (hb7.block q (lt_of_block HQ5.out)).trans HQ5.out
        have HQ7 := Bx.mk hq7
        have m2 := cell_of_row _ _ 2 _ _ _ hq7
        simp only [List.getElem?_toArray, List.getElem?_cons_zero, List.getElem?_cons_succ] at m2
        clear hq7 hb7
        have HRB := Bx.mk (show reasB reasons R1 = ((reasons == 0) || (R1 == 0) || (bits BinOp.and IntKind.i64 (bitR R1) reasons != 0)) from rfl)
        generalize reasB reasons R1 = RB at *
        go_upto_region 12 with fail
        go_cut [99] from 82 to 99 (fun s w8 => w8 = W7 ∧ s = .bool (K && RB))
        case first =>
          cases K with
          | false =>
            go_wp2_with fail
            go_meet
            exact ⟨rfl, rfl⟩
          | true =>
            by_cases h1 : reasons = 0
            · have t1 : (reasons == 0) = true := by simpa using h1
              have HE := Bx.mk (show RB = true by rw [HRB.out, t1]; rfl)
              clear h1
              go_wp2_with fail
              go_meet
              exact ⟨rfl, by rw [HE.out]; rfl⟩
            · have t1 : (reasons == 0) = false := by simpa using h1
              by_cases h2 : R1 = 0
              · have t2 : (R1 == 0) = true := by simpa using h2
                have HE := Bx.mk (show RB = true by rw [HRB.out, t1, t2]; rfl)
                clear h1 h2
                go_wp2_with fail
                go_meet
                exact ⟨rfl, by rw [HE.out]; rfl⟩
              · have t2 : (R1 == 0) = false := by simpa using h2
                have HE := Bx.mk (show RB = (bits BinOp.and IntKind.i64 (bitR R1) reasons != 0) by rw [HRB.out, t1, t2]; rfl)
                have hbit := rbit_any W7 R1
                clear h1 h2
                generalize bitR R1 = BT at *
                go_wp2_with (go_at_call 47; refine hbit.mono ?_; rintro e w9 ⟨rfl, rfl⟩)
                go_meet
                exact ⟨rfl, by rw [HE.out]; rfl⟩
        case rest =>
        obtain ⟨rfl, rfl⟩ := hcut
        have HSLK := HSL.out
        generalize (K && RB) = J at *
        cases J with
        | false =>
          have HN2 := Bx.mk (show (ens (l.take (k + 1))).filter (selC cs parts part cls reasons) = ens out by rw [HSLK false rfl]; simp)
          clear HSLK HSL
          go_wp2_with fail
          go_roundw
          case rel => exact ⟨k + 1, out, by omega, by go_num, by have := HLEN.out; omega, HGE7.out, ⟨HN2.out.symm⟩⟩
          case measure => simp [intOf]; omega
        | true =>
          have HN2 := Bx.mk (show (ens (l.take (k + 1))).filter (selC cs parts part cls reasons) = ens out ++ [z.e] by rw [HSLK true rfl]; simp)
          clear HSLK HSL
          have hq7 := HQ7.out
          have m0 := cell_of_row _ _ 0 _ _ _ hq7
          have m1 := cell_of_row _ _ 1 _ _ _ hq7
          have m3 := cell_of_row _ _ 3 _ _ _ hq7
          have m4 := cell_of_row _ _ 4 _ _ _ hq7
          simp only [List.getElem?_toArray, List.getElem?_cons_zero, List.getElem?_cons_succ] at m0 m1 m3 m4
          obtain ⟨W8, hW8⟩ : ∃ W8, W8 = wc.alloc (.cells #[.int .i64 S1, .int .i64 T1, .int .i64 R1, .int .i64 V1, .slice ua un uc] 44) := ⟨_, rfl⟩
          have hb8 : Below wc.heap.size wc W8 := by rw [hW8]; exact (Below.refl _ _).alloc (Nat.le_refl _) _
          have hx8 : W8.heap[wc.heap.size]? = some (.cells #[.int .i64 S1, .int .i64 T1, .int .i64 R1, .int .i64 V1, .slice ua un uc] 44 (0, 0)) := by rw [hW8]; exact heap_alloc_new _ _
          have HG8 := Bx.mk (HGE7.out.below hb8)
          have HI8 := Bx.mk (HZI7.out.below hb8)
          have hsrc : SrcV W8 5 (.slice (some ⟨wc.heap.size, 0, none⟩) 1 1) 1 ([z].flatMap encE) := src_new encE_ok (by rw [hx8, HZC.out])
          have hsz := HG8.out.sz
          have hm1 : out.length + 1 ≤ maxLen := by have := HLEN.out; unfold maxLen; omega
          have hm2 : (out.length + 1) * 56 ≤ 140737488355328 := by have := HLEN.out; omega
          have HOWN := Bx.mk HG8.out.eo.own
          have HEI := Bx.mk (show ∀ y ∈ [z], EtIn W8 (fun k => (Value.slice av out.length cv).ownBlock ≠ some k) y from fun y hy => by
            rw [List.mem_singleton] at hy; subst hy; exact HI8.out)
          clear hq7 hb8 hx8
          subst hW8
          go_wp2_with (refine wpList_append_any rfl _ _ _ rfl w.heap.size 44 i0 _ 5 56 und_entries hi0 hz0 hz1 hz2 rfl (by decide) _ out.length (out.flatMap encE) rfl HOWN.out _ 1 ([z].flatMap encE) rfl hsrc hm1 hm2 hsz ?_)
          intro v9 w9 hapd
          have HG2 := Bx.mk (HG8.out.apd (m := [z]) HEI.out rfl rfl rfl rfl hapd)
          have HFF := Bx.mk (show ens (out ++ [z]) = (ens (l.take (k + 1))).filter (selC cs parts part cls reasons) by rw [HN2.out]; simp [ens])
          clear hapd hsrc hsz HOWN hm1 hm2
          go_wp2
          go_roundw
          case rel => exact ⟨k + 1, out ++ [z], by omega, by go_num, by have := HLEN.out; simp; omega, HG2.out, ⟨HFF.out⟩⟩
          case measure => simp [intOf]; omega
    · obtain rfl : k = l.length := by omega
      have HFIN := Bx.mk (show ens out = (ens l).filter (selC cs parts part cls reasons) by rw [hF.out, List.take_length])
      clear hF hG
      go_wp2
      go_ret
      exact ⟨_, out, rfl, HFIN.out, HGE.out.eo, HBW.out⟩
end Go.Proofs.Ytpagoinnkknkfaa.Pb
