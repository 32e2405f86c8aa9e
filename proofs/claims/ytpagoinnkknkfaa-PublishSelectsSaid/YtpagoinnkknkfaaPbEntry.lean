/-
  The reference's Merge; made2.Entry and made2.Entries.
-/
import Derived.Test.YtpagoinnkknkfaaLawCurWalk
import Derived.Test.YtpagoinnkknkfaaPbDelta
import Derived.Test.YtpagoinnkknkfaaFactsR
namespace Go.Proofs.Ytpagoinnkknkfaa.Pb
open Go Go.RowKit Go.Shelf Go.Proofs.Ytpagoinnkknkfaa.Slc
set_option linter.unusedVariables false
set_option linter.unusedSimpArgs false
attribute [local go_sem] Oper.semAt_some

set_option maxRecDepth 100000 in
set_option maxHeartbeats 4000000 in
theorem rmerge_any (w : World) (v : Value) (ls : List (List Et)) (hv : LL w v ls) (hn : ls.length ≤ 1000) (ht : lens ls ≤ 100000) :
    Calls Try.prog 33 #[v] w fun e w' => ∃ v' l', e = .returned (.tuple #[v', .int .i64 (mergeE (ens ls.flatten)).2]) ∧ EL w' v' l' ∧ ens l' = (mergeE (ens ls.flatten)).1 ∧ Below w.heap.size w w' := by
  obtain ⟨i0, hi0, hz0, hz1, hz2⟩ := info_parts info_entry
  obtain ⟨M, hM⟩ : ∃ M, M = mergeE (ens ls.flatten) := ⟨_, rfl⟩
  rw [← hM]
  have HM := Bx.mk hM
  clear hM
  obtain ⟨vs, hr, hl, hx⟩ := hv
  obtain ⟨ad, c, rfl, -⟩ := hr.form
  have HL := Bx.mk hl
  have HC := Bx.mk (show ∀ (W : World), Below w.heap.size w W → ∀ k (hk : k < vs.length), ∃ b o, ad = some ⟨b, o, none⟩ ∧ W.cell? ⟨b, o + k, none⟩ = some (vs[k]).val from fun W hW k hk => by
    obtain ⟨b, o, c, hv', _, hlt, hc⟩ := hr.cells encV1_ok (by omega)
    simp only [Value.slice.injEq] at hv'
    have q := hc W (fun k' hk' => hW.block k' (hr.lt k' hk')) k hk 0 _ (by omega) rfl
    rw [Nat.mul_one, Nat.add_zero] at q
    exact ⟨b, o, hv'.1, q⟩)
  have HX := Bx.mk (show ∀ k (hk : k < vs.length), EL w (vs[k]).val (ls[k]'(by rw [← HL.out]; exact hk)) from fun k hk => hx k (by rw [← HL.out]; exact hk))
  have HT := Bx.mk ht
  have hnl : vs.length ≤ 1000 := by omega
  clear hr hx hl ht
  go_enter Try.func33, Try.ntmps33
  go_wp2_with fail
  go_loopw [4, 5] (fun nv i wr => ∃ (k : Nat) (out : List Et), k ≤ vs.length ∧ i = .int .i64 k ∧ GE w w.heap.size wr nv out ∧ Bx (out = (ls.take k).flatten)) (fun _ i _ => vs.length - (intOf i).toNat)
  case atStart => exact ⟨0, [], by omega, rfl, GE.nil _ _ (Nat.le_refl _), ⟨by simp⟩⟩
  case round =>
    obtain ⟨k, out, hk, rfl, hge, hout⟩ := hrel
    obtain ⟨av, cv, rfl, -⟩ := hge.form
    have HGE := Bx.mk hge
    have hol : out.length ≤ 100000 := by
      have h1 := lens_le ls k
      have h2 := HT.out
      rw [hout.out]; unfold lens at h1 h2; omega
    by_cases hlt : k < vs.length
    · obtain ⟨b, o, rfl, hcell⟩ := HC.out wr hge.bel k hlt
      have hel := HX.out k hlt
      obtain ⟨l1, hl1⟩ : ∃ l1, l1 = ls[k]'(by have := HL.out; omega) := ⟨_, rfl⟩
      rw [← hl1] at hel
      obtain ⟨ea, ec, hf, -⟩ := hel.rd.form
      have hsrc := (hel.below hge.bel).rd.src encE_ok
      rw [hf] at hcell hsrc
      have HOUT2 := Bx.mk (show out ++ l1 = (ls.take (k + 1)).flatten by rw [hout.out, hl1, List.take_succ_eq_append_getElem (by have := HL.out; omega), List.flatten_append]; simp)
      have hsum : out.length + l1.length ≤ 100000 := by
        have h1 := lens_le ls (k + 1)
        have h2 := HT.out
        have h3 := congrArg List.length HOUT2.out
        rw [List.length_append] at h3
        unfold lens at h1 h2; omega
      have HEI := Bx.mk (show ∀ y ∈ l1, EtIn wr (fun k => (Value.slice av out.length cv).ownBlock ≠ some k) y from fun y hy => EtAt.other hge (hel.at_ y hy) fun k hk => hk)
      have hsz := hge.sz
      have hm1 : out.length + l1.length ≤ maxLen := by unfold maxLen; omega
      have hm2 : (out.length + l1.length) * 56 ≤ 140737488355328 := by omega
      have HOWN := Bx.mk hge.eo.own
      clear hel hf hl1 hge hout
      go_wp2_with (refine wpList_append_any rfl _ _ _ rfl w.heap.size 44 i0 _ 5 56 und_entries hi0 hz0 hz1 hz2 rfl (by decide) _ out.length (out.flatMap encE) rfl HOWN.out _ l1.length (l1.flatMap encE) rfl hsrc hm1 hm2 hsz ?_)
      intro v9 w9 hapd
      have HG2 := Bx.mk (HGE.out.apd (m := l1) HEI.out rfl rfl rfl rfl hapd)
      clear hapd hsrc hsz HOWN hm1 hm2
      go_wp2
      go_roundw
      case rel => exact ⟨k + 1, out ++ l1, by omega, by go_num, HG2.out, HOUT2⟩
      case measure => simp [intOf]; omega
    · obtain rfl : k = vs.length := by omega
      have HO := Bx.mk (show out = ls.flatten by rw [hout.out, HL.out, List.take_length])
      have hd := rdouble_any wr _ out hge.eo.el (by omega)
      have HBW := Bx.mk hge.bel
      have HEL := Bx.mk hge.eo.el
      have HMD := Bx.mk (show M = if dupE (ens out) then ([], 10) else (sortE (ens out), 0) by rw [HM.out, ← HO.out]; rfl)
      clear hge hout HO HM
      generalize dupE (ens out) = D at *
      cases D with
      | true =>
        go_wp2_with (go_at_call 52; refine hd.mono ?_; rintro e w2 ⟨rfl, hb2⟩)
        have HB2 := Bx.mk (HBW.out.trans (hb2.mono HBW.out.size))
        clear hb2
        go_wp2
        go_ret2
        exact ⟨.slice none 0 0, [], by rw [show M = _ from HMD.out]; rfl, EL.nil _, by rw [show M = _ from HMD.out]; rfl, HB2.out⟩
      | false =>
        go_wp2_with (go_at_call 52; refine hd.mono ?_; rintro e w2 ⟨rfl, hb2⟩)
        have HB2 := Bx.mk (HBW.out.trans (hb2.mono HBW.out.size))
        have hs := rsort_any w2 _ out (HEL.out.below hb2) hol
        clear hb2 hd
        go_wp2_with fail
        go_at_call 34
        refine hs.mono ?_
        rintro e w3 ⟨v3, l3, rfl, -, hel, hens, hb3⟩
        have HB3 := Bx.mk (HB2.out.trans (hb3.mono HB2.out.size))
        have HEL3 := Bx.mk hel
        have HE3 := Bx.mk hens
        obtain ⟨ra, rc, rfl, -⟩ := hel.rd.form
        clear hs hel hens hb3
        go_wp2
        go_ret2
        exact ⟨_, l3, by rw [show M = _ from HMD.out]; rfl, HEL3.out, by rw [show M = _ from HMD.out]; exact HE3.out, HB3.out⟩
/-- the four issuers that made2 writes -/
def I4 (a : Nat) : Prop := a = 0 ∨ a = 8 ∨ a = 2 ∨ a = 4
def Is4 (n : Nm) : Prop := ∃ a, I4 a ∧ n = authN a
/-- the facts of made2.Entry's region -/
def EnF (p g : Nat) : Nat → Value → World → Prop
  | 0, x, _ => x = .pointer (some ⟨g, 0, none⟩)
  | 1, x, _ => ∃ r : Int, x = .int .i64 r ∧ 0 ≤ r ∧ r < 5
  | 2, x, _ => ∃ r : Int, x = .int .i64 r ∧ 1 ≤ r ∧ r ≤ 5
  | 3, x, _ => x = .pointer (some ⟨g, 0, none⟩)
  | 4, x, _ => ∃ r : Int, x = .int .i64 r
  | 5, x, w => ∃ b : Nat, x = .slice (some ⟨b, 0, none⟩) 5 5 ∧ b ≠ g ∧ w.heap[b]? = some (.cells #[.int .i64 1, .int .i64 0, .int .i64 6, .int .i64 8, .int .i64 9] 3 (0, 0))
  | 6, x, _ => x = .pointer (some ⟨g, 0, none⟩)
  | 7, x, _ => ∃ n : Nat, x = .int .i64 n ∧ n < 5
  | 8, x, w => ∃ b n : Nat, x = .pointer (some ⟨b, n, none⟩) ∧ n < 5 ∧ b ≠ g ∧ w.heap[b]? = some (.cells #[.int .i64 1, .int .i64 0, .int .i64 6, .int .i64 8, .int .i64 9] 3 (0, 0))
  | 9, x, _ => ∃ r : Int, x = .int .i64 r
  | 10, x, _ => x = .pointer (some ⟨g, 0, none⟩)
  | 11, x, _ => ∃ r : Int, x = .int .i64 r ∧ 0 ≤ r ∧ r < 3
  | 12, x, _ => ∃ r : Int, x = .int .i64 r
  | 13, x, w => ∃ b : Nat, x = .slice (some ⟨b, 0, none⟩) 4 4 ∧ b ≠ g ∧ w.heap[b]? = some (.cells #[.int .i64 0, .int .i64 8, .int .i64 2, .int .i64 4] 3 (0, 0))
  | 14, x, _ => x = .pointer (some ⟨g, 0, none⟩)
  | 15, x, _ => ∃ n : Nat, x = .int .i64 n ∧ n < 4
  | 16, x, w => ∃ b n : Nat, x = .pointer (some ⟨b, n, none⟩) ∧ n < 4 ∧ b ≠ g ∧ w.heap[b]? = some (.cells #[.int .i64 0, .int .i64 8, .int .i64 2, .int .i64 4] 3 (0, 0))
  | 17, x, _ => ∃ a : Int, x = .int .i64 a ∧ (a = 0 ∨ a = 8 ∨ a = 2 ∨ a = 4)
  | 18, x, w => ∃ (a : Nat) (u : Sl), I4 a ∧ x = .agg #[u.val] ∧ NameIn w (fun k => p < k) u.val (authN a)
  | 19, x, w => ∃ t : Et, x = entV t ∧ EtIn w (fun k => p < k) t ∧ (1 ≤ t.e.s ∧ t.e.s ≤ 5) ∧ Is4 t.e.iss
  | _, _, _ => True
theorem NameIn.grow {w w' : World} {p g : Nat} {v : Value} {n : Nm} (h : NameIn w (fun k => p < k) v n) (hg : w.grownBy w' (some g)) (hgp : g < p) : NameIn w' (fun k => p < k) v n :=
  h.keep hg.size fun k hk hlt => hg.block k hlt fun e => by simp only [Option.some.injEq] at e; omega
theorem EnF.stable (p g : Nat) (hgp : g < p) (i : Nat) (x : Value) (w w' : World) (h : EnF p g i x w) (hg : w.grownBy w' (some g)) : EnF p g i x w' := by
  match i with
  | 0 | 1 | 2 | 3 | 4 | 6 | 7 | 9 | 10 | 11 | 12 | 14 | 15 | 17 => exact h
  | 5 | 13 => obtain ⟨b, h1, h2, h3⟩ := h; exact ⟨b, h1, h2, grown_row hg h3 h2⟩
  | 8 | 16 => obtain ⟨b, n, h1, h2, h3, h4⟩ := h; exact ⟨b, n, h1, h2, h3, grown_row hg h4 h3⟩
  | 18 => obtain ⟨a, u, h0, h1, h2⟩ := h; exact ⟨a, u, h0, h1, h2.grow hg hgp⟩
  | 19 => obtain ⟨t, h1, h2, h3⟩ := h; exact ⟨t, h1, ⟨h2.1.grow hg hgp, h2.2⟩, h3⟩
  | _ + 20 => exact trivial
theorem grown_below {w w' : World} {g : Nat} (h : Below w.heap.size w w') : w.grownBy w' (some g) := ⟨h.os, h.tape, h.output, h.size, fun k hk _ => h.block k hk⟩
theorem authE (w : World) (a : Int) (h : a = 0 ∨ a = 8 ∨ a = 2 ∨ a = 4) : Calls Try.prog 19 #[.int .i64 a] w fun e w' => ∃ (n : Nat) (u : Sl), I4 n ∧ e = .returned (.agg #[u.val]) ∧ NameIn w' (fun k => w.heap.size ≤ k) u.val (authN n) ∧ Below w.heap.size w w' := by
  rcases h with rfl | rfl | rfl | rfl
  · exact (auth0 w).mono fun e w' ⟨u, h⟩ => ⟨0, u, by unfold I4; simp, h⟩
  · exact (auth8 w).mono fun e w' ⟨u, h⟩ => ⟨8, u, by unfold I4; simp, h⟩
  · exact (auth2 w).mono fun e w' ⟨u, h⟩ => ⟨2, u, by unfold I4; simp, h⟩
  · exact (auth4 w).mono fun e w' ⟨u, h⟩ => ⟨4, u, by unfold I4; simp, h⟩
set_option maxRecDepth 100000 in
set_option maxHeartbeats 8000000 in
theorem entry_any (W0 : World) (v : Value) (zs : List Int) (w : World) (g : Nat) (h : Deck W0 v zs w g) :
    Calls Try.prog 43 #[.pointer (some ⟨g, 0, none⟩)] w fun e w' => ∃ t : Et, e = .returned (entV t) ∧ EtIn w' (fun k => w.heap.size < k) t ∧ ((1 ≤ t.e.s ∧ t.e.s ≤ 5) ∧ Is4 t.e.iss) ∧ Deck W0 v zs w' g ∧ w.grownBy w' (some g) := by
  have hgl := h.lt
  obtain ⟨p, hp⟩ : ∃ p, p = w.heap.size := ⟨_, rfl⟩
  have HP := Bx.mk hp
  rw [← hp] at hgl ⊢
  obtain ⟨W1, hW1⟩ : ∃ W1, W1 = w.alloc (.cells #[.int .i64 0, .int .i64 0, .int .i64 0, .int .i64 0, .slice none 0 0] 44) := ⟨_, rfl⟩
  have HD1 := Bx.mk (show Deck W0 v zs W1 g by rw [hW1]; exact h.below ((Below.refl _ _).alloc (Nat.le_refl _) _))
  have HG1 := Bx.mk (show w.grownBy W1 (some g) by rw [hW1]; exact World.grownBy_alloc _ _ _)
  have HR1 := Bx.mk (show W1.heap[p]? = some (.cells #[.int .i64 0, .int .i64 0, .int .i64 0, .int .i64 0, .slice none 0 0] 44 (0, 0)) by rw [hW1]; exact alloc_at hp)
  have hz1 : W1.heap.size = p + 1 := by rw [hW1, World.size_alloc, hp]
  clear h
  go_enter Try.func43, Try.ntmps43
  go_wp2_with fail
  rw [← hW1]
  try rw [← hp]
  clear hp hW1
  refine wp_region_rel 20 (fun a b => a.grownBy b (some g)) (fun w' => Deck W0 v zs w' g ∧ W1.grownBy w' (some g)) (EnF p g) (by kernel_rfl) (by kernel_rfl) (by rfl) (fun a b hab => grown_below hab) (EnF.stable p g hgl) ⟨HD1.out.drewN 1, grown_drewN (grown_refl _ _) 1⟩ ?_ ?_
  · intro i oo hi ho x w7 hI hN
    obtain ⟨hD7, hG7⟩ := hI
    have hsz7 : p < w7.heap.size := by have := hG7.size; omega
    have hcs : i = 0 ∨ i = 1 ∨ i = 2 ∨ i = 3 ∨ i = 4 ∨ i = 5 ∨ i = 6 ∨ i = 7 ∨ i = 8 ∨ i = 9 ∨ i = 10 ∨ i = 11 ∨ i = 12 ∨ i = 13 ∨ i = 14 ∨ i = 15 ∨ i = 16 ∨ i = 17 ∨ i = 18 ∨ i = 19 := by omega
    simp only [List.take_succ_cons, List.take_zero, putFrom, Act.put, List.setIfInBounds_toArray, List.set_cons_succ, List.set_cons_zero, Nat.zero_add, Nat.reduceAdd]
    have HI7 := Bx.mk (And.intro hD7 hG7)
    have HX5 := Bx.mk (next_any W0 v zs w7 g 5 hD7 (by omega) (by omega))
    have HX4 := Bx.mk (next_any W0 v zs w7 g 4 hD7 (by omega) (by omega))
    have HX3 := Bx.mk (next_any W0 v zs w7 g 3 hD7 (by omega) (by omega))
    have HAL := Bx.mk (show ∀ ob, w7.grownBy (w7.alloc ob) (some g) ∧ Deck W0 v zs (w7.alloc ob) g ∧ W1.grownBy (w7.alloc ob) (some g) from fun ob => ⟨World.grownBy_alloc _ _ _, hD7.below ((Below.refl _ _).alloc (Nat.le_refl _) _), grown_alloc hG7 _⟩)
    clear hD7 hG7
    rcases hcs with rfl | rfl | rfl | rfl | rfl | rfl | rfl | rfl | rfl | rfl | rfl | rfl | rfl | rfl | rfl | rfl | rfl | rfl | rfl | rfl
    all_goals
      simp only [List.getElem?_cons_succ, List.getElem?_cons_zero, Option.some.injEq] at ho
      subst ho
      simp [NeedsB, Region.binds, EnF] at hN
    case inr.inl =>
      go_wp2_with (go_at_call 25; refine HX5.out.mono ?_; rintro e w8 ⟨r, rfl, a1, b1, hD8, hg8⟩)
      exact ⟨rfl, rfl, ⟨r, rfl, a1, b1⟩, hg8, hD8, HI7.out.2.trans hg8⟩
    case inr.inr.inl =>
      obtain ⟨r, q1, q2, q3⟩ := hN
      go_wp2_with fail
      exact ⟨rfl, rfl, ⟨1 + r, rfl, by omega, by omega⟩, grown_refl _ _, HI7.out⟩
    case inr.inr.inr.inr.inl =>
      go_wp2_with (go_at_call 25; refine HX5.out.mono ?_; rintro e w8 ⟨r, rfl, a1, b1, hD8, hg8⟩)
      exact ⟨rfl, rfl, ⟨r, rfl⟩, hg8, hD8, HI7.out.2.trans hg8⟩
    case inr.inr.inr.inr.inr.inl =>
      go_wp2_with fail
      exact ⟨rfl, rfl, ⟨w7.heap.size, rfl, by omega, heap_alloc_new _ _⟩, HAL.out _⟩
    case inr.inr.inr.inr.inr.inr.inr.inl =>
      go_wp2_with (go_at_call 25; refine HX5.out.mono ?_; rintro e w8 ⟨r, rfl, a1, b1, hD8, hg8⟩)
      exact ⟨rfl, rfl, ⟨r.toNat, by rw [Int.toNat_of_nonneg a1]; rfl, by omega⟩, hg8, hD8, HI7.out.2.trans hg8⟩
    case inr.inr.inr.inr.inr.inr.inr.inr.inl =>
      obtain ⟨⟨b, q1, q2, q3⟩, ⟨n, q4, q5⟩⟩ := hN
      go_wp2_with fail
      exact ⟨rfl, rfl, ⟨b, n, rfl, q5, q2, q3⟩, grown_refl _ _, HI7.out⟩
    case inr.inr.inr.inr.inr.inr.inr.inr.inr.inl =>
      obtain ⟨b, n, q1, q2, q3, q4⟩ := hN
      have hn : n = 0 ∨ n = 1 ∨ n = 2 ∨ n = 3 ∨ n = 4 := by omega
      obtain ⟨R, hR, hR2⟩ : ∃ R : Int, w7.cell? ⟨b, n, none⟩ = some (.int .i64 R) ∧ True := by
        rw [cell_of_row _ _ n _ _ _ q4]
        rcases hn with rfl | rfl | rfl | rfl | rfl <;> exact ⟨_, rfl, by simp⟩
      clear q4 hn
      go_wp2_with fail
      exact ⟨rfl, rfl, ⟨R, rfl⟩, grown_refl _ _, HI7.out⟩
    case inr.inr.inr.inr.inr.inr.inr.inr.inr.inr.inr.inl =>
      go_wp2_with (go_at_call 25; refine HX3.out.mono ?_; rintro e w8 ⟨r, rfl, a1, b1, hD8, hg8⟩)
      exact ⟨rfl, rfl, ⟨r, rfl, a1, b1⟩, hg8, hD8, HI7.out.2.trans hg8⟩
    case inr.inr.inr.inr.inr.inr.inr.inr.inr.inr.inr.inr.inl =>
      obtain ⟨r, q1, q2, q3⟩ := hN
      go_wp2_with fail
      exact ⟨rfl, rfl, ⟨_, rfl⟩, grown_refl _ _, HI7.out⟩
    case inr.inr.inr.inr.inr.inr.inr.inr.inr.inr.inr.inr.inr.inl =>
      go_wp2_with fail
      exact ⟨rfl, rfl, ⟨w7.heap.size, rfl, by omega, heap_alloc_new _ _⟩, HAL.out _⟩
    case inr.inr.inr.inr.inr.inr.inr.inr.inr.inr.inr.inr.inr.inr.inr.inl =>
      go_wp2_with (go_at_call 25; refine HX4.out.mono ?_; rintro e w8 ⟨r, rfl, a1, b1, hD8, hg8⟩)
      exact ⟨rfl, rfl, ⟨r.toNat, by rw [Int.toNat_of_nonneg a1]; rfl, by omega⟩, hg8, hD8, HI7.out.2.trans hg8⟩
    case inr.inr.inr.inr.inr.inr.inr.inr.inr.inr.inr.inr.inr.inr.inr.inr.inl =>
      obtain ⟨⟨b, q1, q2, q3⟩, ⟨n, q4, q5⟩⟩ := hN
      go_wp2_with fail
      exact ⟨rfl, rfl, ⟨b, n, rfl, q5, q2, q3⟩, grown_refl _ _, HI7.out⟩
    case inr.inr.inr.inr.inr.inr.inr.inr.inr.inr.inr.inr.inr.inr.inr.inr.inr.inl =>
      obtain ⟨b, n, q1, q2, q3, q4⟩ := hN
      have hn : n = 0 ∨ n = 1 ∨ n = 2 ∨ n = 3 := by omega
      obtain ⟨R, hR, hR2⟩ : ∃ R : Int, w7.cell? ⟨b, n, none⟩ = some (.int .i64 R) ∧ (R = 0 ∨ R = 8 ∨ R = 2 ∨ R = 4) := by
        rw [cell_of_row _ _ n _ _ _ q4]
        rcases hn with rfl | rfl | rfl | rfl <;> exact ⟨_, rfl, by simp⟩
      clear q4 hn
      go_wp2_with fail
      exact ⟨rfl, rfl, ⟨R, rfl, hR2⟩, grown_refl _ _, HI7.out⟩
    case inr.inr.inr.inr.inr.inr.inr.inr.inr.inr.inr.inr.inr.inr.inr.inr.inr.inr.inl =>
      obtain ⟨⟨a, q1, q2⟩, -⟩ := hN
      have hau := authE w7 a q2
      go_wp2_with (go_at_call 19; refine hau.mono ?_; rintro e w8 ⟨n, u, hn4, rfl, hnm, hb8⟩)
      exact ⟨rfl, rfl, ⟨n, u, hn4, rfl, hnm.mono fun k _ hk => by omega⟩, grown_below hb8, HI7.out.1.below hb8, HI7.out.2.trans (grown_below hb8)⟩
    case inr.inr.inr.inr.inr.inr.inr.inr.inr.inr.inr.inr.inr.inr.inr.inr.inr.inr.inr =>
      obtain ⟨⟨s, q1, s1, s2⟩, ⟨t, q2⟩, ⟨r, q3⟩, ⟨i, q4⟩, ⟨a, q0, u, q5, q6⟩⟩ := hN
      obtain ⟨ua, un, uc⟩ := u
      simp only [Sl.val] at q5 q6
      go_wp2_with fail
      exact ⟨rfl, rfl, ⟨⟨⟨s, t, r, i, authN a⟩, ⟨ua, un, uc⟩⟩, rfl, ⟨q6, okA a⟩, ⟨s1, s2⟩, ⟨a, q0, rfl⟩⟩, grown_refl _ _, HI7.out⟩
    all_goals
      go_wp2_with fail
      exact ⟨rfl, rfl, rfl, grown_refl _ _, HI7.out⟩
  · intro x w7 hI hf
    obtain ⟨hD7, hG7⟩ := hI
    have f19 := hf 19 (by omega)
    simp only [EnF] at f19
    clear hf
    obtain ⟨⟨e, ⟨ua, un, uc⟩⟩, f19, hin, hs⟩ := f19
    have HIN := Bx.mk hin
    have hr7 := grown_row hG7 HR1.out (by omega)
    have m0 := cell_of_row _ _ 0 _ _ _ hr7
    have m1 := cell_of_row _ _ 1 _ _ _ hr7
    have m2 := cell_of_row _ _ 2 _ _ _ hr7
    have m3 := cell_of_row _ _ 3 _ _ _ hr7
    have m4 := cell_of_row _ _ 4 _ _ _ hr7
    simp only [List.getElem?_toArray, List.getElem?_cons_zero, List.getElem?_cons_succ] at m0 m1 m2 m3 m4
    have fr : ∀ i, w7.frozen? ⟨p, i, none⟩ = false := fun i => by simp [World.frozen?, hr7]
    have HD7 := Bx.mk hD7
    have HG7 := Bx.mk (HG1.out.trans hG7)
    have hp7 := lt_of_block hr7
    have HEV := Bx.mk (show entV ⟨e, ⟨ua, un, uc⟩⟩ = .agg #[.int .i64 e.s, .int .i64 e.t, .int .i64 e.r, .int .i64 e.v, .slice ua un uc] from rfl)
    have hwp : w.heap.size ≤ p := by have := HP.out; omega
    have hw0p : W0.heap.size ≤ p := by have := HD1.out.ge; omega
    rw [HEV.out] at f19
    simp only [List.take_succ_cons, List.take_zero, List.drop_succ_cons, List.drop_zero, putFrom, Act.put, List.setIfInBounds_toArray, List.set_cons_succ, List.set_cons_zero, Nat.zero_add, Nat.reduceAdd, f19]
    have HS := Bx.mk hs
    clear f19 hin hr7 hD7 hG7 hs
    generalize x 0 = x0, x 1 = x1, x 2 = x2, x 3 = x3, x 4 = x4, x 5 = x5, x 6 = x6, x 7 = x7, x 8 = x8, x 9 = x9, x 10 = x10, x 11 = x11, x 12 = x12, x 13 = x13, x 14 = x14, x 15 = x15, x 16 = x16, x 17 = x17, x 18 = x18
    go_wp2
    refine bodyPost_ret (v := .agg #[.int .i64 e.s, .int .i64 e.t, .int .i64 e.r, .int .i64 e.v, .slice ua un uc]) (by simp [results, Try.results43, go_sem, m0, m1, m2, m3, m4, fr]) rfl ⟨⟨e, ⟨ua, un, uc⟩⟩, by rw [HEV.out], ?_, HS.out, ?_, ?_⟩
    · refine HIN.out.keep (by simp [World.setCell]) fun k hk hlt => ?_
      have hne : ∀ i, k ≠ (⟨p, i, none⟩ : Addr).block := fun i => by simp; omega
      simp only [Below.heap_setCell _ _ _ _ (hne _)]
    · repeat' first | exact HD7.out | refine deck_set ?_ (by omega) (by omega)
    · repeat' first | exact HG7.out | refine grown_new ?_ (by omega) _ _
end Go.Proofs.Ytpagoinnkknkfaa.Pb
