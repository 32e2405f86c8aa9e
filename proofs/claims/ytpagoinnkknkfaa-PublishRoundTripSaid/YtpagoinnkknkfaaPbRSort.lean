/-
  The reference's Sort.
-/
import Derived.Test.YtpagoinnkknkfaaPbSmall
import Derived.Deep.CutBlock
import Derived.Deep.DeepCutAuto
import Derived.Deep.QuietTactic
namespace Go.Proofs.Ytpagoinnkknkfaa.Pb
open Go Go.RowKit Go.Proofs.Ytpagoinnkknkfaa.Slc
set_option linter.unusedVariables false
set_option linter.unusedSimpArgs false

theorem insR_at (cur : List En) (e : En) (j : Nat) (hj : j ≤ cur.length) (h1 : ∀ i (h : i < cur.length), j ≤ i → e.s < (cur[i]).s) (h2 : ∀ (h : 0 < j), ¬ e.s < (cur[j - 1]'(by omega)).s) : insR cur e = cur.take j ++ e :: cur.drop j := by
  have hrev : cur.reverse = (cur.drop j).reverse ++ (cur.take j).reverse := by rw [← List.reverse_append, List.take_append_drop]
  have hall : ∀ y ∈ (cur.drop j).reverse, decide (e.s < y.s) = true := by
    intro y hy
    rw [List.mem_reverse] at hy
    obtain ⟨i, hi, rfl⟩ := List.mem_iff_getElem.1 hy
    rw [List.getElem_drop, decide_eq_true_eq]
    exact h1 _ (by rw [List.length_drop] at hi; omega) (by omega)
  have hstop : (cur.take j).reverse.takeWhile (fun x => decide (e.s < x.s)) = [] ∧ (cur.take j).reverse.dropWhile (fun x => decide (e.s < x.s)) = (cur.take j).reverse := by
    rcases Nat.eq_zero_or_pos j with h0 | h0
    · subst h0; simp
    · have e1 : cur.take j = cur.take (j - 1) ++ [cur[j - 1]'(by omega)] := by
        conv => lhs; rw [show j = (j - 1) + 1 by omega]
        rw [List.take_succ_eq_append_getElem (by omega)]
      have h3 := h2 h0
      rw [e1, List.reverse_append]
      simp only [List.reverse_singleton, List.singleton_append, List.takeWhile_cons, List.dropWhile_cons]
      simp [h3]
  have t1 : cur.reverse.takeWhile (fun x => decide (e.s < x.s)) = (cur.drop j).reverse := by
    rw [hrev, List.takeWhile_append_of_pos hall, hstop.1, List.append_nil]
  have t2 : cur.reverse.dropWhile (fun x => decide (e.s < x.s)) = (cur.take j).reverse := by
    rw [hrev, List.dropWhile_append_of_pos hall, hstop.2]
  rw [insR, t1, t2, List.reverse_reverse, List.reverse_reverse]
theorem sortE_snoc (l : List En) (e : En) : sortE (l ++ [e]) = insR (sortE l) e := by unfold sortE; rw [List.foldl_append]; rfl
/-- the facts of the insertion's region -/
def SrF (W0 : World) (sv u1 u2 : Value) (p : Nat) (cur : List Et) (x : Et) (xv lv iv : Value) (b : Nat) (o : Nat) : Nat → Value → World → Prop
  | 0, v, w => ∃ g, v = .slice (some ⟨g, 0, none⟩) 0 0 ∧ w.heap[g]? = some (.cells #[] 44 (0, 0)) ∧ W0.heap.size ≤ g
  | 1, v, _ => v = sv
  | 2, v, _ => v = .int .i64 p
  | 3, v, _ => v = u1
  | 4, v, w => Own w W0.heap.size 44 5 encE v (cur.take p)
  | 5, v, _ => v = lv
  | 6, v, _ => v = iv
  | 7, v, _ => v = .pointer (some ⟨b, o, none⟩)
  | 8, v, _ => v = xv
  | 9, v, w => ∃ g : Nat, v = .slice (some ⟨g, 0, none⟩) 1 1 ∧ w.heap[g]? = some (.cells (encE x).toArray 44 (0, 0))
  | 10, v, w => Own w W0.heap.size 44 5 encE v (cur.take p ++ [x])
  | 11, v, _ => v = sv
  | 12, v, _ => v = .int .i64 p
  | 13, v, _ => v = u2
  | _, _, _ => True
theorem SrF.stable (W0 : World) (sv u1 u2 : Value) (p : Nat) (cur : List Et) (x : Et) (xv lv iv : Value) (b : Nat) (o : Nat) (i : Nat) (v : Value) (w w' : World) (h : SrF W0 sv u1 u2 p cur x xv lv iv b o i v w) (hb : Below w.heap.size w w') : SrF W0 sv u1 u2 p cur x xv lv iv b o i v w' := by
  match i with
  | 1 | 2 | 3 | 5 | 6 | 7 | 8 | 11 | 12 | 13 => exact h
  | 0 => obtain ⟨g, h1, h2, h3⟩ := h; exact ⟨g, h1, (hb.block g (lt_of_block h2)).trans h2, h3⟩
  | 4 => exact Own.below (t := 44) h hb
  | 9 => obtain ⟨g, h1, h2⟩ := h; exact ⟨g, h1, (hb.block g (lt_of_block h2)).trans h2⟩
  | 10 => exact Own.below (t := 44) h hb
  | _ + 14 => exact trivial
def SrFC : Nat → Option Nat
  | 0 => some 4
  | 4 => some 10
  | 9 => some 10
  | _ => none
theorem SrF.big (W0 : World) (sv u1 u2 : Value) (p : Nat) (cur : List Et) (x : Et) (xv lv iv : Value) (b : Nat) (o : Nat) (d : Nat → Bool) (j : Nat) (v : Value) (w w' : World) (h4 : d 4 = true) (hc : ∀ q, SrFC j = some q → mark d 10 q = false) (hne : j ≠ 10) (hj : j < 14) (h : SrF W0 sv u1 u2 p cur x xv lv iv b o j v w) : SrF W0 sv u1 u2 p cur x xv lv iv b o j v w' := by
  match j with
  | 1 | 2 | 3 | 5 | 6 | 7 | 8 | 11 | 12 | 13 => exact h
  | 0 => have := hc 4 rfl; simp [mark, h4] at this
  | 4 => have := hc 10 rfl; simp [mark] at this
  | 9 => have := hc 10 rfl; simp [mark] at this
  | 10 => exact absurd rfl hne
  | _ + 14 => omega
theorem drewN_below {B : Nat} {a w : World} (h : Below B a w) (n : Nat) : Below B a (w.drewN n) := ⟨h.os, h.tape, h.output, h.size, h.block⟩

set_option maxHeartbeats 4000000 in
set_option maxRecDepth 20000 in
theorem rsort_any (w : World) (v : Value) (l : List Et) (hl : EL w v l) (hn : l.length ≤ 100000) :
    Calls Try.prog 34 #[v] w fun e w' => ∃ v' l', e = .returned v' ∧ Own w' w.heap.size 44 5 encE v' l' ∧ EL w' v' l' ∧ ens l' = sortE (ens l) ∧ Below w.heap.size w w' := by
  obtain ⟨i0, hi0, hz0, hz1, hz2⟩ := info_parts info_entry
  obtain ⟨la, lc, rfl, -⟩ := hl.rd.form
  have HL := Bx.mk hl
  have HCELL := Bx.mk hl.cells.2
  clear hl
  go_enter Try.func34, Try.ntmps34
  go_wp2_with fail
  go_loopw [3, 4] (fun v i wr => ∃ (k : Nat) (cur : List Et), k ≤ l.length ∧ i = .int .i64 (k : Int) ∧ Own wr w.heap.size 44 5 encE v cur ∧ Bx (ens cur = sortE (ens (l.take k)) ∧ ∀ x ∈ cur, x ∈ l) ∧ Below w.heap.size w wr) (fun _ i _ => l.length - (intOf i).toNat)
  case atStart => exact ⟨0, [], Nat.zero_le _, rfl, Own.nil _ _, ⟨by simp [ens, sortE], fun x hx => by cases hx⟩, Below.refl _ _⟩
  case round =>
    obtain ⟨k, cur, hk, rfl, hown, hcu, hbw⟩ := hrel
    obtain ⟨oa, oc, hof, -⟩ := hown.rd.form
    subst hof
    have HOWN := Bx.mk hown
    have HBW := Bx.mk hbw
    have hcl : cur.length ≤ 100000 := by
      have h1 := congrArg List.length hcu.out.1
      have h2 := (sort_perm (ens (l.take k))).length_eq
      rw [h2] at h1
      simp only [ens, List.length_map, List.length_take] at h1
      omega
    by_cases hlt : k < l.length
    · obtain ⟨b, o, rfl, hbl, x0, x1, x2, x3, x4⟩ := HCELL.out _ hbw k hlt
      obtain ⟨xn, hxn⟩ : ∃ xn, xn = l[k] := ⟨_, rfl⟩
      rw [← hxn] at x0 x1 x2 x3 x4
      have HSN := Bx.mk (show sortE (ens (l.take (k + 1))) = insR (ens cur) xn.e by
        rw [hcu.out.1, ens, List.take_succ_eq_append_getElem hlt, List.map_append, ← hxn]; exact sortE_snoc _ _)
      have HMEM := Bx.mk (show xn ∈ l by rw [hxn]; exact List.getElem_mem hlt)
      have hbl2 : b < wr.heap.size := by have := hbw.size; omega
      have HCU := Bx.mk hcu.out
      clear hown hbw hxn hcu
      go_upto_block 2 with fail
      go_cut [5] (fun s5 wx => ∃ pl : Nat, s5 = .int .i64 (pl : Int) ∧ Bx (pl ≤ cur.length ∧ insR (ens cur) xn.e = ens (cur.take pl) ++ xn.e :: ens (cur.drop pl)) ∧ Below wr.heap.size wr wx)
      case first =>
        have HC := Bx.mk (show ∀ (W : World), Below wr.heap.size wr W → ∀ j (hj : j < cur.length), ∃ g1, oa = some ⟨g1, 0, none⟩ ∧ W.cell? ⟨g1, j * 5, none⟩ = some (.int .i64 (cur[j]).e.s) from fun W hW j hj => by
          rcases HOWN.out.2 with ⟨_, hn⟩ | ⟨g2, cap, cu, hv2, -⟩
          · omega
          · simp only [Value.slice.injEq] at hv2
            obtain ⟨rfl, -, rfl⟩ := hv2
            have := Own.cell encE_ok HOWN.out j hj 0 (by omega) _ rfl
            rw [Nat.add_zero] at this
            exact ⟨_, rfl, (hW.cell (p := ⟨g2, j * 5, none⟩) (World.block_lt_of_cell? wr _ this)).trans this⟩)
        have HXL := Bx.mk (show ∀ (W : World), Below wr.heap.size wr W → W.cell? ⟨b, o + k * 5, none⟩ = some (.int .i64 xn.e.s) from fun W hW => by
          rw [hW.cell (p := ⟨b, o + k * 5, none⟩) hbl2]; exact x0)
        have HCLN := Bx.mk hcl
        clear x0 x1 x2 x3 x4
        have HPL := Bx.mk (show ∀ (j : Nat) (hj : j ≤ cur.length), (∀ i (h : i < cur.length), j ≤ i → xn.e.s < (cur[i]).e.s) → (∀ (h : 0 < j), ¬ xn.e.s < (cur[j - 1]'(by omega)).e.s) → insR (ens cur) xn.e = ens (cur.take j) ++ xn.e :: ens (cur.drop j) from fun j hj h1 h2 => by
          have := insR_at (ens cur) xn.e j (by simpa [ens] using hj) (fun i hi hji => by simpa [ens] using h1 i (by simpa [ens] using hi) hji) (fun h => by simpa [ens] using h2 h)
          rw [this]; simp [ens])
        generalize hxs : xn.e.s = XS at HXL HPL
        go_wp2_with fail
        go_loopw [5] (fun i wx => ∃ j : Nat, j ≤ cur.length ∧ Bx (∀ i (h : i < cur.length), j ≤ i → XS < (cur[i]).e.s) ∧ i = .int .i64 (j : Int) ∧ Below wr.heap.size wr wx) (fun i _ => (intOf i).toNat)
        case atStart => exact ⟨cur.length, Nat.le_refl _, ⟨fun i h hi => by omega⟩, rfl, Below.refl _ _⟩
        case round =>
          obtain ⟨j, hj, hall, rfl, hbx⟩ := hrel
          have HBX := Bx.mk hbx
          have hxw := HXL.out _ hbx
          cases j with
          | zero =>
            have HP0 := Bx.mk (HPL.out 0 (by omega) hall.out (fun h => by omega))
            have t0 : decide (0 < ((0 : Nat) : Int)) = false := rfl
            clear hbx
            go_wp2_with fail
            go_quiet (fail)
            go_wp2
            go_meet
            exact ⟨0, rfl, ⟨by omega, HP0.out⟩, drewN_below HBX.out _⟩
          | succ m =>
            have hmc : m < cur.length := by omega
            obtain ⟨g1, rfl, hcj⟩ := HC.out _ hbx m hmc
            have HCM := Bx.mk (show ∀ i (h : i < cur.length), m ≤ i → i = m ∨ m + 1 ≤ i from fun i h hi => by omega)
            obtain ⟨cs, hcs⟩ : ∃ cs, cs = (cur[m]).e.s := ⟨_, rfl⟩
            rw [← hcs] at hcj
            have HCS := Bx.mk hcs
            clear hbx hcs
            by_cases hl : XS < cs
            · have HAL := Bx.mk (show ∀ i (h : i < cur.length), m ≤ i → XS < (cur[i]).e.s from fun i h hi => by
                rcases HCM.out i h hi with q | q
                · subst q; rw [← HCS.out]; exact hl
                · exact hall.out i h q)
              have t1 : decide (cs > XS) = true := by simpa using hl
              clear hl
              go_wp2_with fail
              go_quiet (fail)
              go_wp2
              go_roundw
              case rel => exact ⟨m, by omega, HAL, rfl, drewN_below HBX.out _⟩
              case measure => simp [intOf]; try omega
            · have HP0 := Bx.mk (HPL.out (m + 1) (by omega) hall.out (fun h => by have e := HCS.out; simp only [Nat.add_sub_cancel]; rw [← e]; omega))
              have t1 : decide (cs > XS) = false := by simpa using hl
              clear hl
              go_wp2_with fail
              go_quiet (fail)
              go_wp2
              go_meet
              exact ⟨m + 1, by first | rfl | go_num, ⟨by omega, HP0.out⟩, drewN_below HBX.out _⟩
      case rest =>
        obtain ⟨pl, rfl, hpl, hbc⟩ := hcut
        have hoc := HOWN.out.below hbc
        obtain ⟨u1, hu1, hr1⟩ := hoc.rd.upto (P := Try.prog) (T := 40) encE_ok und_entries' size_entries pl hpl.out.1
        obtain ⟨u2, hu2, hr2⟩ := hoc.rd.rest (P := Try.prog) (T := 40) encE_ok und_entries' size_entries pl hpl.out.1
        have HU1 := Bx.mk hu1
        have HU2 := Bx.mk hu2
        have HR1 := Bx.mk hr1
        have HR2 := Bx.mk hr2
        have HCL := Bx.mk hcl
        have HPC := Bx.mk hpl.out.1
        have HIN := Bx.mk hpl.out.2
        have HXX := Bx.mk (show ∀ (W : World), Below wc.heap.size wc W → ∀ i, W.cell? ⟨b, i, none⟩ = wr.cell? ⟨b, i, none⟩ from fun W hW i =>
          (hbc.trans (hW.mono hbc.size)).cell (p := ⟨b, i, none⟩) hbl2)
        have HX0 := Bx.mk (And.intro x0 (And.intro x1 (And.intro x2 (And.intro x3 x4))))
        have HBF := Bx.mk (HBW.out.trans (hbc.mono HBW.out.size))
        obtain ⟨ua, un, uc, hu⟩ : ∃ a n c, xn.u.val = .slice a n c := ⟨_, _, _, rfl⟩
        have HXV := Bx.mk (show (.cells #[.int .i64 xn.e.s, .int .i64 xn.e.t, .int .i64 xn.e.r, .int .i64 xn.e.v, .slice ua un uc] 44 (0, 0) : Obj) = .cells (encE xn).toArray 44 (0, 0) by rw [← hu]; rfl)
        rw [hu] at HX0
        clear hoc hu1 hu2 hr1 hr2 hbc hpl x0 x1 x2 x3 x4 hu hcl
        generalize xn.e.s = S1 at HX0 HXV
        generalize xn.e.t = T1 at HX0 HXV
        generalize xn.e.r = R1 at HX0 HXV
        generalize xn.e.v = V1 at HX0 HXV
        go_wp2_with fail
        refine wp_region_factsV 14 SrFC (· == 10) (SrF wc (.slice oa cur.length oc) u1 u2 pl cur xn (.agg #[.int .i64 S1, .int .i64 T1, .int .i64 R1, .int .i64 V1, .slice ua un uc]) (.slice (some ⟨b, o, none⟩) l.length lc) (.int .i64 k) b (o + k * 5)) (by kernel_rfl) (by kernel_rfl) (by rfl) (SrF.stable wc _ u1 u2 pl cur xn _ _ (.int .i64 k) b (o + k * 5)) ?_ ?_ ?_
        · intro q oq j v d w1 w2 hb hoq hd hc hne hj h _
          obtain rfl : q = 10 := by simpa using hb
          simp only [List.getElem?_cons_succ, List.getElem?_cons_zero, Option.some.injEq] at hoq
          subst hoq
          have h4 := hd ⟨4, .data⟩ (by simp) rfl
          exact SrF.big wc _ u1 u2 pl cur xn _ _ (.int .i64 k) b (o + k * 5) d j v w1 w2 h4 hc hne hj h
        · intro i o hi9 ho9 xs w1 hb hd
          have hcs : i = 0 ∨ i = 1 ∨ i = 2 ∨ i = 3 ∨ i = 4 ∨ i = 5 ∨ i = 6 ∨ i = 7 ∨ i = 8 ∨ i = 9 ∨ i = 10 ∨ i = 11 ∨ i = 12 ∨ i = 13 := by omega
          simp only [List.take_succ_cons, List.take_zero, putFrom, Act.put, List.setIfInBounds_toArray, List.set_cons_succ, List.set_cons_zero, Nat.zero_add, Nat.reduceAdd]
          have HBB := Bx.mk hb
          have HTL := Bx.mk (show (cur.take pl).length ≤ 100000 by have h1 := HCL.out; rw [List.length_take]; omega)
          clear hb
          rcases hcs with rfl | rfl | rfl | rfl | rfl | rfl | rfl | rfl | rfl | rfl | rfl | rfl | rfl | rfl
          all_goals
            simp only [List.getElem?_cons_succ, List.getElem?_cons_zero, Option.some.injEq] at ho9
            subst ho9
            simp [NeedsB, Region.binds, SrF, SrFC] at hd
          all_goals clear hi9
          · have HS := Bx.mk HBB.out.size
            go_wp2_with fail
            exact ⟨rfl, rfl, ⟨_, rfl, heap_alloc_new _ _, HS.out⟩, (Below.refl _ _).alloc (Nat.le_refl _) _⟩
          · go_wp2_with fail
            exact ⟨rfl, rfl, rfl, Below.refl _ _⟩
          · go_wp2_with fail
            exact ⟨rfl, rfl, rfl, Below.refl _ _⟩
          · obtain ⟨hd1, hd2⟩ := hd
            have hu1 := HU1.out
            go_wp2_with fail
            exact ⟨rfl, rfl, rfl, Below.refl _ _⟩
          · obtain ⟨⟨g0, h0, hg0, hl0⟩, h3⟩ := hd
            have hsr := (HR1.out.below HBB.out).src encE_ok
            rw [← h3] at hsr
            have hsz := HBB.out.size
            clear h3
            go_wp2_with (at_builtin; refine wpList_append_fresh rfl _ _ _ rfl wc.heap.size 44 i0 _ 5 56 und_entries hi0 hz0 hz1 hz2 rfl (by decide) g0 h0 hg0 hl0 hsz (xs 3) (cur.take pl).length ((cur.take pl).flatMap encE) rfl hsr ?ap1 ?ap2 ?_)
            case ap1 => have := HTL.out; unfold maxLen; omega
            case ap2 => have := HTL.out; omega
            intro v' w4 hown hb4 _
            have HO4 := Bx.mk (Own.of (l := cur.take pl) hown (by have := HPC.out; simp; try omega) rfl)
            have HB4 := Bx.mk hb4
            clear hown hb4 hsr hsz
            go_wp2_with fail
            exact ⟨rfl, rfl, HO4.out, HB4.out⟩
          · go_wp2_with fail
            exact ⟨rfl, rfl, rfl, Below.refl _ _⟩
          · go_wp2_with fail
            exact ⟨rfl, rfl, rfl, Below.refl _ _⟩
          · obtain ⟨hd1, hd2⟩ := hd
            go_wp2_with fail
            exact ⟨rfl, rfl, rfl, Below.refl _ _⟩
          · obtain ⟨x0, x1, x2, x3, x4⟩ := HX0.out
            have y0 := (HXX.out _ HBB.out (o + k * 5)).trans x0
            have y1 := (HXX.out _ HBB.out (o + k * 5 + 1)).trans x1
            have y2 := (HXX.out _ HBB.out (o + k * 5 + 2)).trans x2
            have y3 := (HXX.out _ HBB.out (o + k * 5 + 3)).trans x3
            have y4 := (HXX.out _ HBB.out (o + k * 5 + 4)).trans x4
            clear x0 x1 x2 x3 x4
            go_wp2_with fail
            exact ⟨rfl, rfl, rfl, Below.refl _ _⟩
          · go_wp2_with fail
            exact ⟨rfl, rfl, ⟨_, rfl, by rw [heap_alloc_new, HXV.out]⟩, (Below.refl _ _).alloc (Nat.le_refl _) _⟩
          · obtain ⟨hd1, ⟨g5, h5, hb5⟩, -⟩ := hd
            have hsr : SrcV w1 5 (.slice (some ⟨g5, 0, none⟩) 1 1) 1 ([xn].flatMap encE) := src_new encE_ok hb5
            rw [← h5] at hsr
            have hsz := HBB.out.size
            have hd1' : w1.ownsRow wc.heap.size 44 5 (xs 4) (cur.take pl).length ((cur.take pl).flatMap encE) := hd1
            have HD1 := Bx.mk hd1
            clear h5 hb5 hd1
            go_wp2_with (at_builtin; refine wpList_append_any rfl _ _ _ rfl wc.heap.size 44 i0 _ 5 56 und_entries hi0 hz0 hz1 hz2 rfl (by decide) _ (cur.take pl).length ((cur.take pl).flatMap encE) rfl hd1' _ 1 ([xn].flatMap encE) rfl hsr ?bp1 ?bp2 hsz ?_)
            case bp1 => have := HTL.out; unfold maxLen; omega
            case bp2 => have := HTL.out; omega
            intro v' w4 ha
            have HO4 := Bx.mk (Own.apd (m := [xn]) HD1.out (by simp) (by simp) (by have := HPC.out; simp; try omega) (by simp) ha)
            have HB4 := Bx.mk ((Below.refl wc.heap.size w1).grown ha.grown HBB.out.size fun k hk => (HD1.out.lt k hk).1)
            clear ha hsr hsz hd1'
            go_wp2_with fail
            exact ⟨rfl, rfl, HO4.out, HB4.out⟩
          · go_wp2_with fail
            exact ⟨rfl, rfl, rfl, Below.refl _ _⟩
          · go_wp2_with fail
            exact ⟨rfl, rfl, rfl, Below.refl _ _⟩
          · obtain ⟨hd1, hd2⟩ := hd
            have hu2 := HU2.out
            go_wp2_with fail
            exact ⟨rfl, rfl, rfl, Below.refl _ _⟩
        · intro xs w1 hb hf
          have f1 := hf 1 (by omega) (fun c hc => by cases hc)
          have f2 := hf 2 (by omega) (fun c hc => by cases hc)
          have f3 := hf 3 (by omega) (fun c hc => by cases hc)
          have f5 := hf 5 (by omega) (fun c hc => by cases hc)
          have f6 := hf 6 (by omega) (fun c hc => by cases hc)
          have f7 := hf 7 (by omega) (fun c hc => by cases hc)
          have f8 := hf 8 (by omega) (fun c hc => by cases hc)
          have f10 := hf 10 (by omega) (fun c hc => by cases hc)
          have f11 := hf 11 (by omega) (fun c hc => by cases hc)
          have f12 := hf 12 (by omega) (fun c hc => by cases hc)
          have f13 := hf 13 (by omega) (fun c hc => by cases hc)
          simp only [SrF] at f1 f2 f3 f5 f6 f7 f8 f10 f11 f12 f13
          have HBB := Bx.mk hb
          have HO := Bx.mk f10
          clear hf f10 hb
          simp only [List.take_succ_cons, List.take_zero, List.drop_succ_cons, List.drop_zero, putFrom, Act.put, List.setIfInBounds_toArray, List.set_cons_succ, List.set_cons_zero, Nat.zero_add, Nat.reduceAdd, f1, f2, f3, f5, f6, f7, f8, f11, f12, f13]
          clear f1 f2 f3 f5 f6 f7 f8 f11 f12 f13
          generalize xs 0 = X0 at *
          generalize xs 4 = X4 at *
          generalize xs 9 = X9 at *
          generalize hX10 : xs 10 = X10 at *
          clear hX10 xs
          have hsr := (HR2.out.below HBB.out).src encE_ok
          have hsz := HBB.out.size
          have HLL := Bx.mk (show (cur.take pl ++ [xn]).length + (cur.drop pl).length ≤ 200000 by have h1 := HCL.out; simp; omega)
          have hd1' : w1.ownsRow wc.heap.size 44 5 X10 (cur.take pl ++ [xn]).length ((cur.take pl ++ [xn]).flatMap encE) := HO.out
          have HNEW := Bx.mk (show ens (cur.take pl ++ [xn] ++ cur.drop pl) = sortE (ens (l.take (k + 1))) ∧ ∀ x ∈ cur.take pl ++ [xn] ++ cur.drop pl, x ∈ l from by
            refine ⟨by rw [HSN.out, HIN.out]; simp [ens], fun x hx => ?_⟩
            rw [List.mem_append, List.mem_append, List.mem_singleton] at hx
            rcases hx with (hx | rfl) | hx
            · exact HCU.out.2 x (List.mem_of_mem_take hx)
            · exact HMEM.out
            · exact HCU.out.2 x (List.mem_of_mem_drop hx))
          generalize hA : cur.take pl ++ [xn] = A at *
          generalize hD : cur.drop pl = D at *
          clear hA hD
          go_wp2_with (at_builtin; refine wpList_append_any rfl _ _ _ rfl wc.heap.size 44 i0 _ 5 56 und_entries hi0 hz0 hz1 hz2 rfl (by decide) _ A.length (A.flatMap encE) rfl hd1' _ D.length (D.flatMap encE) rfl hsr ?cp1 ?cp2 hsz ?_)
          case cp1 => have := HLL.out; unfold maxLen; omega
          case cp2 => have := HLL.out; omega
          intro v' w4 ha
          have HO4 := Bx.mk ((Own.apd (m := D) HO.out rfl rfl rfl rfl ha).mono HBF.out.size)
          have HB4 := Bx.mk (HBF.out.trans ((HBB.out.grown ha.grown HBB.out.size fun k hk => (HO.out.lt k hk).1).mono HBF.out.size))
          clear ha hsr hsz hd1'
          go_wp2
          go_roundw
          case rel => exact ⟨k + 1, A ++ D, by omega, by go_num, HO4.out, HNEW, HB4.out⟩
          case measure => simp [intOf]; omega
    · obtain rfl : k = l.length := by omega
      have HCU := Bx.mk hcu.out
      clear hown hbw hcu
      go_wp2
      go_ret
      exact ⟨_, cur, rfl, HOWN.out, ⟨HOWN.out.rd, fun x hx => (HL.out.at_ x (HCU.out.2 x hx)).below HBW.out⟩, by rw [HCU.out.1, List.take_length], HBW.out⟩
end Go.Proofs.Ytpagoinnkknkfaa.Pb
