/-
  The reference's way to say what is in force, and the program's: plain.
-/
/-
  The reference's Current.
-/
import Derived.Test.YtpagoinnkknkfaaPbHist
import Derived.Test.YtpagoinnkknkfaaPbRSort
namespace Go.Proofs.Ytpagoinnkknkfaa.Pb
open Go Go.Proofs.Ytpagoinnkknkfaa.St
set_option linter.unusedVariables false

/-- whether a change of a list has this serial -/
def anyS (l : List Ch) (s : Int) : Bool := l.any (fun c => c.s == s)
/-- whether a later change has the serial of the i-th -/
def laterB (l : List Ch) (i : Nat) (s : Int) : Bool := anyS (l.drop (i + 1)) s
def enOf (nm : Nm) (c : Ch) : En := ⟨c.s, c.t, c.r, c.v, nm⟩
/-- what the i-th change adds to the reference's entries -/
def curI (nm : Nm) (l : List Ch) (i : Nat) (c : Ch) : List En := if laterB l i c.s || (c.r == 8) then [] else [enOf nm c]
/-- the reference's entries of the changes that l begins with -/
def curU (nm : Nm) : List Ch → List En
  | [] => []
  | c :: l => (if anyS l c.s || (c.r == 8) then [] else [enOf nm c]) ++ curU nm l
def curK (nm : Nm) (l : List Ch) (k : Nat) : List En := ((List.range k).map fun i => match l[i]? with | some c => curI nm l i c | none => []).flatten
def curR (nm : Nm) (l : List Ch) : List En := sortE (curK nm l l.length)
theorem curK_zero (nm : Nm) (l : List Ch) : curK nm l 0 = [] := rfl
theorem curK_succ (nm : Nm) (l : List Ch) (k : Nat) (h : k < l.length) : curK nm l (k + 1) = curK nm l k ++ curI nm l k l[k] := by
  unfold curK
  rw [List.range_succ, List.map_append, List.flatten_append, List.map_singleton, List.flatten_singleton, List.getElem?_eq_getElem h]
theorem curK_eq (nm : Nm) : ∀ l : List Ch, curK nm l l.length = curU nm l
  | [] => rfl
  | c :: l => by
    rw [curU, ← curK_eq nm l]
    unfold curK
    rw [List.length_cons, List.range_succ_eq_map, List.map_cons, List.flatten_cons, List.map_map]
    rfl
theorem kset_any (l : List Ch) (s : Int) : s ∈ kset l ↔ anyS l s = true := by
  rw [kset_mem, anyS, List.any_eq_true]; simp
theorem last_cons (c : Ch) (l : List Ch) (s : Int) : lastOf (c :: l) s = if anyS l s then lastOf l s else if c.s = s then some c else none := by
  unfold lastOf
  rw [List.reverse_cons, List.find?_append]
  have h : anyS l s = (l.reverse.find? (fun c => c.s == s)).isSome := by
    rw [anyS, Bool.eq_iff_iff, List.any_eq_true, List.find?_isSome]; simp
  cases q : l.reverse.find? (fun c => c.s == s) with
  | some x => rw [h, q]; simp
  | none =>
    rw [h, q]
    simp only [Option.isSome_none, Bool.false_eq_true, if_false, Option.none_or, List.find?_cons, List.find?_nil]
    by_cases e : c.s = s
    · simp [e]
    · rw [beq_eq_false_iff_ne.2 e, if_neg e]
theorem filterMap_same {α β : Type} (f g : α → Option β) : ∀ (l : List α), (∀ x ∈ l, f x = g x) → l.filterMap f = l.filterMap g
  | [], _ => rfl
  | x :: l, h => by
    rw [List.filterMap_cons, List.filterMap_cons, h x (by simp), filterMap_same f g l fun y hy => h y (by simp [hy])]
/-- the serials' entries, one after the other -/
theorem curU_kset (nm : Nm) : ∀ (l : List Ch), (kset l).filterMap (curOne nm l) = curU nm l
  | [] => rfl
  | c :: l => by
    have ih := curU_kset nm l
    have hrest : (kset l).filterMap (curOne nm (c :: l)) = (kset l).filterMap (curOne nm l) := by
      refine filterMap_same _ _ _ fun s hs => ?_
      have := (kset_any l s).1 hs
      unfold curOne
      rw [last_cons, if_pos this]
    rw [kset, curU]
    by_cases h : c.s ∈ kset l
    · rw [if_pos h, hrest, ih, (kset_any l c.s).1 h]; simp
    · have h2 : anyS l c.s = false := by
        cases q : anyS l c.s with
        | false => rfl
        | true => exact absurd ((kset_any l c.s).2 q) h
      rw [if_neg h, List.filterMap_cons, hrest, ih, h2]
      have h3 : curOne nm (c :: l) c.s = if c.r = 8 then none else some (enOf nm c) := by
        unfold curOne
        rw [last_cons, h2]; simp [enOf]
      rw [h3]
      by_cases h8 : c.r = 8 <;> simp [h8]
theorem curOne_s {nm : Nm} {l : List Ch} {s : Int} {e : En} (h : curOne nm l s = some e) : e.s = s := by
  unfold curOne at h
  split at h
  · split at h
    · cases h
    · simp only [Option.some.injEq] at h; subst h; rfl
  · cases h
theorem ksort_lt (l : List Ch) : (ksort l).Pairwise (fun a b => a < b) := by
  have h1 : (ksort l).Pairwise (fun a b => decide (a ≤ b) = true) := List.pairwise_mergeSort (fun a b c h h' => by simp at *; omega) (fun a b => by simp; omega) _
  have h2 : (ksort l).Nodup := (List.mergeSort_perm (kset l) _).nodup_iff.2 (kset_nodup l)
  rw [List.nodup_iff_pairwise_ne] at h2
  refine (h1.and h2).imp fun {a b} h => ?_
  have := h.1
  simp at this
  have := h.2
  omega
theorem curE_lt (nm : Nm) (l : List Ch) : (curE nm l).Pairwise (fun a b => a.s < b.s) := by
  unfold curE
  rw [List.pairwise_filterMap]
  refine (ksort_lt l).imp fun {a b} h e he e' he' => ?_
  rw [curOne_s he, curOne_s he']; exact h
theorem curE_mem (nm : Nm) (l : List Ch) (e : En) : e ∈ curE nm l ↔ curOne nm l e.s = some e := by
  unfold curE
  rw [List.mem_filterMap]
  constructor
  · rintro ⟨s, -, h⟩
    have := curOne_s h
    subst this; exact h
  · intro h
    refine ⟨e.s, ?_, h⟩
    unfold ksort
    rw [(List.mergeSort_perm (kset l) _).mem_iff, kset_mem, ← last_isSome]
    unfold curOne at h
    cases q : lastOf l e.s with
    | some x => rfl
    | none => rw [q] at h; cases h
theorem cur_eq (nm : Nm) (l : List Ch) : curR nm l = curE nm l := by
  have hp : (curE nm l).Perm (curR nm l) := by
    unfold curR
    rw [curK_eq, ← curU_kset]
    exact ((List.mergeSort_perm (kset l) _).filterMap _).trans (sort_perm _).symm
  have h1 := curE_lt nm l
  have h2 : (curR nm l).Pairwise (fun a b => a.s ≤ b.s) := by
    refine (sortE_ok (curK nm l l.length)).1.imp fun {a b} h => ?_
    simp [ltN] at h; exact h
  refine (hp.eq_of_pairwise (le := fun a b => a.s ≤ b.s) (fun a b ha hb hab hba => ?_) (h1.imp fun {a b} h => Int.le_of_lt h) h2).symm
  have ea := (curE_mem nm l a).1 ha
  have eb := (curE_mem nm l b).1 (hp.mem_iff.2 hb)
  have e : a.s = b.s := by omega
  rw [e, eb] at ea
  simpa using ea.symm
theorem enOf_s (nm : Nm) (c : Ch) : (enOf nm c).s = c.s := rfl
end Go.Proofs.Ytpagoinnkknkfaa.Pb

namespace Go.Proofs.Ytpagoinnkknkfaa.Pb
open Go Go.RowKit Go.Shelf Go.Proofs.Ytpagoinnkknkfaa.Slc
set_option linter.unusedVariables false
set_option linter.unusedSimpArgs false
attribute [local go_sem] Oper.semAt_some

/-- the facts of the last region -/
def RcF (W : World) (ov lv : Value) (k b o : Nat) (S T R V : Int) (nv : Value) : Nat → Value → World → Prop
  | 0, x, _ => x = ov
  | 1, x, _ => x = lv
  | 2, x, _ => x = .int .i64 k
  | 3, x, _ => x = .pointer (some ⟨b, o + k * 4, none⟩)
  | 4, x, _ => x = .pointer (some ⟨b, o + k * 4, none⟩)
  | 5, x, _ => x = .int .i64 S
  | 6, x, _ => x = lv
  | 7, x, _ => x = .int .i64 k
  | 8, x, _ => x = .pointer (some ⟨b, o + k * 4, none⟩)
  | 9, x, _ => x = .pointer (some ⟨b, o + k * 4 + 1, none⟩)
  | 10, x, _ => x = .int .i64 T
  | 11, x, _ => x = lv
  | 12, x, _ => x = .int .i64 k
  | 13, x, _ => x = .pointer (some ⟨b, o + k * 4, none⟩)
  | 14, x, _ => x = .pointer (some ⟨b, o + k * 4 + 2, none⟩)
  | 15, x, _ => x = .int .i64 R
  | 16, x, _ => x = lv
  | 17, x, _ => x = .int .i64 k
  | 18, x, _ => x = .pointer (some ⟨b, o + k * 4, none⟩)
  | 19, x, _ => x = .pointer (some ⟨b, o + k * 4 + 3, none⟩)
  | 20, x, _ => x = .int .i64 V
  | 21, x, _ => x = .agg #[nv]
  | 22, x, _ => x = .agg #[.int .i64 S, .int .i64 T, .int .i64 R, .int .i64 V, nv]
  | 23, x, w => ∃ bz : Nat, x = .slice (some ⟨bz, 0, none⟩) 1 1 ∧ W.heap.size ≤ bz ∧ w.heap[bz]? = some (.cells #[.int .i64 S, .int .i64 T, .int .i64 R, .int .i64 V, nv] 44 (0, 0))
  | _, _, _ => True
theorem RcF.stable (W : World) (ov lv : Value) (k b o : Nat) (S T R V : Int) (nv : Value) (i : Nat) (x : Value) (w w' : World) (h : RcF W ov lv k b o S T R V nv i x w) (hb : Below w.heap.size w w') : RcF W ov lv k b o S T R V nv i x w' := by
  match i with
  | 0 | 1 | 2 | 3 | 4 | 5 | 6 | 7 | 8 | 9 | 10 | 11 | 12 | 13 | 14 | 15 | 16 | 17 | 18 | 19 | 20 | 21 | 22 => exact h
  | 23 => obtain ⟨bz, h1, h2, h3⟩ := h; exact ⟨bz, h1, h2, (hb.block bz (lt_of_block h3)).trans h3⟩
  | _ + 24 => exact trivial

set_option maxRecDepth 100000 in
set_option maxHeartbeats 8000000 in
theorem rcur_any (w : World) (nv : Value) (nm : Nm) (hn : NameAt w nv nm) (hnk : Nm.Ok nm) (v : Value) (l : List Ch) (hA : Rd w encC v l) (hl : l.length ≤ 100000) :
    Calls Try.prog 23 #[.agg #[nv], v] w fun e w' => ∃ (rv : Value) (out : List Et), e = .returned rv ∧ EL w' rv out ∧ ens out = curE nm l ∧ Below w.heap.size w w' := by
  obtain ⟨i0, hi0, hz0, hz1, hz2⟩ := info_parts info_entry
  obtain ⟨ad, cap, rfl, -⟩ := hA.form
  obtain ⟨nvs, hnr, -⟩ := id hn
  obtain ⟨na, nc, hnv, -⟩ := hnr.form
  rw [hnv] at hn
  subst hnv
  clear hnr
  have HN := Bx.mk hn
  have HC := Bx.mk (rdC_cells hA).2
  obtain ⟨p, hp⟩ : ∃ p, p = w.heap.size := ⟨_, rfl⟩
  have HP := Bx.mk hp
  rw [← hp]
  obtain ⟨W0, hW0⟩ : ∃ W0, W0 = w.alloc (.cells #[.slice na nvs.length nc] 36) := ⟨_, rfl⟩
  have HB0 := Bx.mk (show Below p w W0 by rw [hW0, hp]; exact (Below.refl _ _).alloc (Nat.le_refl _) _)
  have HR0 := Bx.mk (show W0.heap[p]? = some (.cells #[.slice na nvs.length nc] 36 (0, 0)) by rw [hW0]; exact alloc_at hp)
  have HE0 := Bx.mk (show ∀ e : En, e.iss = nm → EtAt W0 ⟨e, ⟨na, nvs.length, nc⟩⟩ from fun e he => ⟨by rw [he]; exact hn.below (hp ▸ HB0.out), by rw [he]; exact hnk⟩)
  have hp0 : p < W0.heap.size := lt_of_block HR0.out
  clear hn hA
  go_enter Try.func23, Try.ntmps23
  go_wp2_with fail
  rw [← hW0]
  try rw [← hp]
  clear hp
  clear hW0
  go_loopw [5, 6] (fun ov i wr => ∃ (k : Nat) (out : List Et), k ≤ l.length ∧ i = .int .i64 k ∧ out.length ≤ k ∧ GE W0 W0.heap.size wr ov out ∧ Bx (ens out = curK nm l k)) (fun _ i _ => l.length - (intOf i).toNat)
  case atStart => exact ⟨0, [], by omega, rfl, by simp, GE.nil _ _ (Nat.le_refl _), ⟨rfl⟩⟩
  case round =>
    obtain ⟨k, out, hk, rfl, hlen, hG, hF⟩ := hrel
    obtain ⟨av, cv, rfl, -⟩ := hG.form
    have HGE := Bx.mk hG
    have HLEN := Bx.mk hlen
    have hBw : Below W0.heap.size W0 wr := hG.bel
    have HBW := Bx.mk hBw
    by_cases hlt : k < l.length
    · obtain ⟨b, o, rfl, hbl, c0, c1, c2, c3⟩ := HC.out wr (HP.out ▸ HB0.out.trans (hBw.mono (by omega))) k hlt
      have HCK := Bx.mk (show ∀ W, Below wr.heap.size wr W → W.cell? ⟨b, o + k * 4, none⟩ = some (.int .i64 (l[k]).s) ∧ W.cell? ⟨b, o + k * 4 + 1, none⟩ = some (.int .i64 (l[k]).t) ∧ W.cell? ⟨b, o + k * 4 + 2, none⟩ = some (.int .i64 (l[k]).r) ∧ W.cell? ⟨b, o + k * 4 + 3, none⟩ = some (.int .i64 (l[k]).v) from fun W hW => by
        have hbw : b < wr.heap.size := by have h1 := hBw.size; have h2 := HP.out; omega
        exact ⟨(hW.cell (p := ⟨b, o + k * 4, none⟩) hbw).trans c0, (hW.cell (p := ⟨b, o + k * 4 + 1, none⟩) hbw).trans c1, (hW.cell (p := ⟨b, o + k * 4 + 2, none⟩) hbw).trans c2, (hW.cell (p := ⟨b, o + k * 4 + 3, none⟩) hbw).trans c3⟩)
      have HSN := Bx.mk (show curK nm l (k + 1) = curK nm l k ++ (if laterB l k (l[k]).s || ((l[k]).r == 8) then [] else [⟨(l[k]).s, (l[k]).t, (l[k]).r, (l[k]).v, nm⟩]) from curK_succ nm l k hlt)
      have HLB := Bx.mk (show laterB l k (l[k]).s = anyS (l.drop (k + 1)) (l[k]).s from rfl)
      have HSZ := Bx.mk hBw.size
      clear c0 c1 c2 c3 hBw hG hbl hlen
      generalize (l[k]).s = S1 at *
      generalize (l[k]).t = T1 at *
      generalize (l[k]).r = R1 at *
      generalize (l[k]).v = V1 at *
      generalize hLB : laterB l k S1 = LB at *
      clear hLB
      obtain ⟨wo, hwo⟩ : ∃ wo, wo = wr := ⟨_, rfl⟩
      subst hwo
      go_wp2_with fail
      go_loopw [7, 8] (fun bv j w2 => ∃ (bb : Bool) (m : Nat), bv = .bool bb ∧ j = .int .i64 m ∧ m ≤ l.length ∧ Bx (LB = (bb || anyS (l.drop m) S1)) ∧ Below wo.heap.size wo w2) (fun _ j _ => l.length - (intOf j).toNat)
      case atStart => exact ⟨false, k + 1, rfl, by go_num, by omega, ⟨by rw [HLB.out, Bool.false_or]⟩, Below.refl _ _⟩
      case round =>
        obtain ⟨bb, m, rfl, rfl, hm, hL, hB2⟩ := hrel
        have HB2 := Bx.mk hB2
        by_cases hltm : m < l.length
        · obtain ⟨b', o', he, -, d0, -, -, -⟩ := HC.out wr (HP.out ▸ HB0.out.trans ((HBW.out.trans (hB2.mono HSZ.out)).mono (by omega))) m hltm
          simp only [Option.some.injEq, Addr.mk.injEq, and_true] at he
          obtain ⟨rfl, rfl⟩ := he
          have c0 := (HCK.out _ hB2).1
          have HDR := Bx.mk (show anyS (l.drop m) S1 = (((l[m]).s == S1) || anyS (l.drop (m + 1)) S1) by
            rw [List.drop_eq_getElem_cons hltm]; rfl)
          clear hB2
          generalize (l[m]).s = S2 at *
          cases bb with
          | true =>
            have HN2 := Bx.mk (show LB = (true || anyS (l.drop (m + 1)) S1) by rw [hL.out]; rfl)
            clear HDR hL
            go_wp2
            go_quiet (fail)
            go_wp2
            go_roundw
            case rel => exact ⟨true, m + 1, rfl, by go_num, by omega, HN2, drewN_below HB2.out _⟩
            case measure => simp [intOf]; omega
          | false =>
            obtain ⟨q, hq⟩ : ∃ q, (S2 == S1) = q := ⟨_, rfl⟩
            have HN2 := Bx.mk (show LB = (q || anyS (l.drop (m + 1)) S1) by rw [hL.out, HDR.out, hq]; rfl)
            clear HDR hL
            go_wp2
            go_quiet (fail)
            go_wp2
            go_roundw
            case rel => exact ⟨q, m + 1, rfl, by go_num, by omega, HN2, drewN_below HB2.out _⟩
            case measure => simp [intOf]; omega
        · obtain rfl : m = l.length := by omega
          have HLF := Bx.mk (show LB = bb by rw [hL.out, List.drop_length]; simp [anyS])
          clear hL hB2
          have c2 := (HCK.out _ HB2.out).2.2.1
          cases bb with
          | true =>
            have HNX := Bx.mk (show ens out = curK nm l (k + 1) by rw [HSN.out, hF.out, HLF.out]; simp)
            clear HSN HLF
            go_wp2
            go_roundw
            case rel => exact ⟨k + 1, out, by omega, by go_num, by have := HLEN.out; omega, HGE.out.below HB2.out, HNX⟩
            case measure => simp [intOf]; omega
          | false =>
            by_cases hr : R1 = 8
            · subst hr
              have HNX := Bx.mk (show ens out = curK nm l (k + 1) by rw [HSN.out, hF.out, HLF.out]; simp)
              clear HSN HLF
              go_wp2
              go_roundw
              case rel => exact ⟨k + 1, out, by omega, by go_num, by have := HLEN.out; omega, HGE.out.below HB2.out, HNX⟩
              case measure => simp [intOf]; omega
            · have HNX := Bx.mk (show curK nm l (k + 1) = ens out ++ [⟨S1, T1, R1, V1, nm⟩] by rw [HSN.out, hF.out, HLF.out]; simp [hr])
              have tq : (R1 != 8) = true := by simpa using hr
              clear HSN HLF hF hr
              go_wp2_with fail
              have HRP := Bx.mk (((HBW.out.trans (HB2.out.mono HSZ.out)).block p hp0).trans HR0.out)
              refine wp_region_facts 24 (RcF wr (.slice av out.length cv) (.slice (some ⟨b, o, none⟩) l.length cap) k b o S1 T1 R1 V1 (.slice na nvs.length nc)) (by kernel_rfl) (by kernel_rfl) (by rfl) (RcF.stable _ _ _ _ _ _ _ _ _ _ _) ?_ ?_
              · intro i oo hi ho x w7 hb hd
                have hc : i = 0 ∨ i = 1 ∨ i = 2 ∨ i = 3 ∨ i = 4 ∨ i = 5 ∨ i = 6 ∨ i = 7 ∨ i = 8 ∨ i = 9 ∨ i = 10 ∨ i = 11 ∨ i = 12 ∨ i = 13 ∨ i = 14 ∨ i = 15 ∨ i = 16 ∨ i = 17 ∨ i = 18 ∨ i = 19 ∨ i = 20 ∨ i = 21 ∨ i = 22 ∨ i = 23 := by omega
                simp only [List.take_succ_cons, List.take_zero, putFrom]
                obtain ⟨m0, m1, m2, m3⟩ := HCK.out w7 (HB2.out.trans (hb.mono HB2.out.size))
                have bp := (hb.block p (lt_of_block HRP.out)).trans HRP.out
                have mp := cell_of_row _ _ 0 _ _ _ bp
                simp only [List.getElem?_toArray, List.getElem?_cons_zero, List.getElem?_cons_succ] at mp
                clear bp c2
                rcases hc with rfl | rfl | rfl | rfl | rfl | rfl | rfl | rfl | rfl | rfl | rfl | rfl | rfl | rfl | rfl | rfl | rfl | rfl | rfl | rfl | rfl | rfl | rfl | rfl
                all_goals
                  simp only [List.getElem?_cons_succ, List.getElem?_cons_zero, Option.some.injEq] at ho
                  subst ho
                  simp [Needs, Region.binds, RcF] at hd
                rotate_right 1
                · go_wp2_with fail
                  exact ⟨rfl, rfl, ⟨w7.heap.size, rfl, hb.size, heap_alloc_new _ _⟩, (Below.refl _ _).alloc (Nat.le_refl _) _⟩
                all_goals
                  go_wp2_with fail
                  exact ⟨rfl, rfl, rfl, Below.refl _ _⟩
              · intro x w7 hb hf
                have f0 := hf 0 (by omega)
                have f23 := hf 23 (by omega)
                simp only [RcF] at f0 f23
                clear hf
                obtain ⟨bz, f23, hbz0, hbz1⟩ := f23
                simp only [List.take_succ_cons, List.take_zero, List.drop_succ_cons, List.drop_zero, putFrom, Nat.zero_add, Nat.reduceAdd, f0, f23]
                have HG7 := Bx.mk (HGE.out.below (HB2.out.trans (hb.mono HB2.out.size)))
                have hsrc : SrcV w7 5 (.slice (some ⟨bz, 0, none⟩) 1 1) 1 ([(⟨⟨S1, T1, R1, V1, nm⟩, ⟨na, nvs.length, nc⟩⟩ : Et)].flatMap encE) := src_new encE_ok hbz1
                have hbzz := HG7.out.sz
                have hm1 : out.length + 1 ≤ maxLen := by have := HLEN.out; unfold maxLen; omega
                have hm2 : (out.length + 1) * 56 ≤ 140737488355328 := by have := HLEN.out; omega
                have HOWN := Bx.mk HG7.out.eo.own
                have HEI := Bx.mk (show ∀ y ∈ [(⟨⟨S1, T1, R1, V1, nm⟩, ⟨na, nvs.length, nc⟩⟩ : Et)], EtIn w7 (fun k => (Value.slice av out.length cv).ownBlock ≠ some k) y from fun y hy => by
                  rw [List.mem_singleton] at hy; subst hy
                  exact EtAt.other HG7.out (HE0.out _ rfl) fun k hk => hk)
                clear f0 f23 hbz0 hbz1 hb c2
                generalize x 1 = x1, x 2 = x2, x 3 = x3, x 4 = x4, x 5 = x5, x 6 = x6, x 7 = x7, x 8 = x8, x 9 = x9, x 10 = x10, x 11 = x11, x 12 = x12, x 13 = x13, x 14 = x14, x 15 = x15, x 16 = x16, x 17 = x17, x 18 = x18, x 19 = x19, x 20 = x20, x 21 = x21, x 22 = x22
                simp only [Act.put, List.setIfInBounds_toArray, List.set_cons_succ, List.set_cons_zero]
                go_wp2_with (refine wpList_append_any rfl _ _ _ rfl W0.heap.size 44 i0 _ 5 56 und_entries hi0 hz0 hz1 hz2 rfl (by decide) _ out.length (out.flatMap encE) rfl HOWN.out _ 1 ([(⟨⟨S1, T1, R1, V1, nm⟩, ⟨na, nvs.length, nc⟩⟩ : Et)].flatMap encE) rfl hsrc hm1 hm2 hbzz ?_)
                intro v9 w9 hapd
                have HG2 := Bx.mk (HG7.out.apd (m := [(⟨⟨S1, T1, R1, V1, nm⟩, ⟨na, nvs.length, nc⟩⟩ : Et)]) HEI.out rfl rfl rfl rfl hapd)
                have HFF := Bx.mk (show ens (out ++ [(⟨⟨S1, T1, R1, V1, nm⟩, ⟨na, nvs.length, nc⟩⟩ : Et)]) = curK nm l (k + 1) by rw [HNX.out]; simp [ens])
                clear hapd hsrc hbzz HOWN hm1 hm2
                go_wp2
                go_roundw
                case rel => exact ⟨k + 1, out ++ [(⟨⟨S1, T1, R1, V1, nm⟩, ⟨na, nvs.length, nc⟩⟩ : Et)], by omega, by go_num, by have := HLEN.out; simp; omega, HG2.out, ⟨HFF.out⟩⟩
                case measure => simp [intOf]; omega
    · obtain rfl : k = l.length := by omega
      have HEL := Bx.mk (show EL wr (.slice av out.length cv) out from HGE.out.eo.el)
      have HBF := Bx.mk (show Below p w wr from HB0.out.trans (HBW.out.mono (by omega)))
      have HFIN := Bx.mk (show sortE (ens out) = curE nm l by rw [hF.out, ← cur_eq]; rfl)
      have hs := rsort_any wr _ out HEL.out (by omega)
      clear hF hG hBw
      go_wp2_with fail
      refine hs.mono ?_
      rintro e w2 ⟨v2, l2, rfl, -, hel, hens, hb2⟩
      have HFF := Bx.mk (show ens l2 = curE nm l by rw [hens, HFIN.out])
      have HB2 := Bx.mk (HBF.out.trans (hb2.mono (by have h1 := HBF.out.size; have h2 := HP.out; omega)))
      have HEL2 := Bx.mk hel
      obtain ⟨ra, rc, rfl, -⟩ := hel.rd.form
      clear hs hens hb2 hel
      go_wp2
      go_ret
      exact ⟨_, l2, rfl, HEL2.out, HFF.out, HB2.out⟩
end Go.Proofs.Ytpagoinnkknkfaa.Pb
