/-
  find and double of the reference; first. (Written by wip/gen/gen_pbf1.py.)
-/
/-
  first. (Written by wip/gen/gen_pbf2.py.)
-/
/-
  Names that lie in given blocks; slices of entries that the call owns.
-/
import Derived.Test.YtpagoinnkknkfaaPbEnt
import Derived.Test.YtpagoinnkknkfaaFacts
import Derived.Test.YtpagoinnkknkfaaFactsB
namespace Go.Proofs.Ytpagoinnkknkfaa.Pb
open Go Go.RowKit Go.Proofs.Ytpagoinnkknkfaa.Slc
set_option linter.unusedVariables false
set_option linter.unusedSimpArgs false

/-- the reference's index, or -1 -/
def idxI (l : List Et) (e : En) : Int := if (ens l).findIdx (fun x => about x e) < l.length then ((ens l).findIdx (fun x => about x e) : Nat) else -1
theorem idx_at (l : List Et) (e : En) (k : Nat) (hk : k < l.length) (h : ∀ j (hj : j < k), about (l[j]'(by omega)).e e = false) (ht : about (l[k]).e e = true) : idxI l e = (k : Nat) := by
  have hlen : (ens l).length = l.length := by simp [ens]
  have : (ens l).findIdx (fun x => about x e) = k := by
    rw [List.findIdx_eq (by rw [hlen]; exact hk)]
    refine ⟨by simpa [ens] using ht, fun j hj => by simpa [ens] using h j hj⟩
  unfold idxI; rw [this, if_pos hk]
theorem idx_none (l : List Et) (e : En) (h : ∀ j (hj : j < l.length), about (l[j]).e e = false) : idxI l e = -1 := by
  have hlen : (ens l).length = l.length := by simp [ens]
  unfold idxI; rw [if_neg]
  intro hlt
  have := List.findIdx_getElem (xs := ens l) (p := fun x => about x e) (w := by rw [hlen]; exact hlt)
  simp only [ens, List.getElem_map] at this
  rw [h _ (by simpa using hlt)] at this; cases this

set_option maxRecDepth 10000 in
set_option maxHeartbeats 2000000 in
theorem rfind_any (w : World) (v : Value) (l : List Et) (y : Et) (hl : EL w v l) (hy : EtAt w y) (hn : l.length ≤ 1000000) :
    Calls Try.prog 51 #[v, entV y] w fun e w' => e = .returned (.int .i64 (idxI l y.e)) ∧ Below w.heap.size w w' := by
  obtain ⟨R, hR⟩ : ∃ R, R = idxI l y.e := ⟨_, rfl⟩
  rw [← hR]
  have HR := Bx.mk hR
  obtain ⟨ad, c, rfl, -⟩ := hl.rd.form
  have HL := Bx.mk hl
  have HY := Bx.mk hy
  have HC := Bx.mk hl.cells.2
  clear hl hy hR
  obtain ⟨W0, hW0⟩ : ∃ W0, W0 = w.alloc (encBox y) := ⟨_, rfl⟩
  have HBW0 := Bx.mk (show Below w.heap.size w W0 by rw [hW0]; exact (Below.refl _ _).alloc (Nat.le_refl _) _)
  have HP := Bx.mk (show ∀ W, Below (w.heap.size + 1) W0 W → W.heap[w.heap.size]? = some (encBox y) from fun W hW => by
    subst hW0
    rw [hW.block _ (by omega)]; exact heap_alloc_new _ _)
  have HZ := Bx.mk (show W0.heap.size = w.heap.size + 1 by rw [hW0]; simp)
  unfold encBox at hW0 HP
  have HYV := Bx.mk (show entV y = .agg #[.int .i64 y.e.s, .int .i64 y.e.t, .int .i64 y.e.r, .int .i64 y.e.v, y.u.val] from rfl)
  rw [HYV.out]
  go_enter Try.func51, Try.ntmps51
  go_wp2
  rw [← hW0]
  clear hW0
  go_loopw [5] (fun i wr => ∃ k : Nat, k ≤ l.length ∧ i = .int .i64 k ∧ Bx (∀ j (hj : j < k) (hj2 : j < l.length), about (l[j]).e y.e = false) ∧ Below (w.heap.size + 1) W0 wr) (fun i _ => l.length - (intOf i).toNat)
  case atStart => exact ⟨0, by omega, rfl, ⟨fun j hj => by omega⟩, Below.refl _ _⟩
  case round =>
    obtain ⟨k, hk, rfl, hfd, hbel⟩ := hrel
    have hBw : Below w.heap.size w wr := HBW0.out.trans (hbel.mono (by omega))
    have hsz : w.heap.size + 1 ≤ wr.heap.size := by have := hbel.size; have := HZ.out; omega
    have hsz0 : w.heap.size < wr.heap.size := by omega
    have HBEL := Bx.mk hbel
    have HBw := Bx.mk hBw
    have p0 := HP.out wr hbel
    by_cases hlt : k < l.length
    · obtain ⟨b, o, rfl, hbl, c0, c1, c2, c3, c4⟩ := HC.out wr hBw k hlt
      have hmem : l[k] ∈ l := List.getElem_mem hlt
      have HTR := Bx.mk (show about (l[k]).e y.e = true → R = (k : Nat) from fun h => by rw [HR.out]; exact idx_at l y.e k hlt (fun j hj => hfd.out j hj (by omega)) h)
      have HFA := Bx.mk (show about (l[k]).e y.e = false → ∀ j (hj : j < k + 1) (hj2 : j < l.length), about (l[j]).e y.e = false from fun h j hj hj2 => by
        by_cases q : j = k
        · subst q; exact h
        · exact hfd.out j (by omega) hj2)
      obtain ⟨z, hz⟩ : ∃ z, z = l[k] := ⟨_, rfl⟩
      rw [← hz] at c0 c1 c2 c3 c4 hmem HTR HFA
      have hbl' : b < wr.heap.size := by have := hBw.size; omega
      have hcall := Bx.mk (fun e : Ext wr => rabout_any e.out z y ((HL.out.at_ z hmem).below (hBw.trans (e.bel.mono hBw.size))) (HY.out.below (hBw.trans (e.bel.mono hBw.size))))
      unfold entV at hcall
      have q0 := cell_of_row _ _ 0 _ _ _ p0
      have q1 := cell_of_row _ _ 1 _ _ _ p0
      have q2 := cell_of_row _ _ 2 _ _ _ p0
      have q3 := cell_of_row _ _ 3 _ _ _ p0
      have q4 := cell_of_row _ _ 4 _ _ _ p0
      simp only [List.getElem?_toArray, List.getElem?_cons_zero, List.getElem?_cons_succ] at q0 q1 q2 q3 q4
      have E0 : ∀ e : Ext wr, _ := fun e => (e.cell hbl').trans c0
      have E1 : ∀ e : Ext wr, _ := fun e => (e.cell hbl').trans c1
      have E2 : ∀ e : Ext wr, _ := fun e => (e.cell hbl').trans c2
      have E3 : ∀ e : Ext wr, _ := fun e => (e.cell hbl').trans c3
      have E4 : ∀ e : Ext wr, _ := fun e => (e.cell hbl').trans c4
      have D0 : ∀ e : Ext wr, _ := fun e => (e.cell hsz0).trans q0
      have D1 : ∀ e : Ext wr, _ := fun e => (e.cell hsz0).trans q1
      have D2 : ∀ e : Ext wr, _ := fun e => (e.cell hsz0).trans q2
      have D3 : ∀ e : Ext wr, _ := fun e => (e.cell hsz0).trans q3
      have D4 : ∀ e : Ext wr, _ := fun e => (e.cell hsz0).trans q4
      have hk0 : (k : Int) < l.length := by omega
      clear hz hmem hfd hBw hbel hbl p0 hsz c0 c1 c2 c3 c4 q0 q1 q2 q3 q4 hbl'
      generalize z.u.val = U1 at *
      generalize y.u.val = U2 at *
      generalize z.e.s = S1 at *
      generalize y.e.s = S2 at *
      generalize z.e.t = T1 at *
      generalize y.e.t = T2 at *
      generalize z.e.r = R1 at *
      generalize y.e.r = R2 at *
      generalize z.e.v = V1 at *
      generalize y.e.v = V2 at *
      generalize about z.e y.e = q at *
      go_wp2_with fail
      generalize hwr : wr = wr0 at *
      refine wp_region_self (by kernel_rfl) (by kernel_rfl) ?_
      repeat (go_big_quiet_step (fail))
      go_big_quiet_step ((go_at_call 39; exact ext_of (hcall.out _)))
      repeat (go_big_quiet_step (fail))
      refine wpQuiet_nil ?_
      rintro _ ⟨e1, rfl⟩
      have HB1 := Bx.mk (HBw.out.trans (e1.bel.mono HBw.out.size))
      have HB2 := Bx.mk (HBEL.out.trans (e1.bel.mono (by have := HBEL.out.size; have := HZ.out; omega)))
      clear E0 E1 E2 E3 E4 D0 D1 D2 D3 D4 hcall
      generalize e1.out = w2 at *
      cases q with
      | true =>
        have HRT := Bx.mk (HTR.out rfl)
        go_wp2
        go_ret
        exact ⟨by rw [HRT.out]; rfl, HB1.out⟩
      | false =>
        have HRT := Bx.mk (HFA.out rfl)
        go_wp2
        go_roundw
        case rel => exact ⟨k + 1, by omega, by go_num, HRT, HB2.out⟩
        case measure => simp [intOf]; omega
    · obtain rfl : k = l.length := by omega
      have HRN := Bx.mk (show R = -1 by rw [HR.out]; exact idx_none l y.e fun j hj => hfd.out j hj hj)
      clear hbel hBw p0 hfd
      go_wp2
      go_ret
      exact ⟨by rw [HRN.out]; rfl, HBw.out⟩

/-- whether two entries are about the same certificate -/
theorem dup_idx (l : List Et) : dupE (ens l) = (List.range l.length).any fun i => match l[i]? with | some x => decide (idxI l x.e ≠ (i : Nat)) | none => false := by
  rw [← dupR_eq]
  unfold dupR
  have hlen : (ens l).length = l.length := by simp [ens]
  rw [hlen]
  rw [Bool.eq_iff_iff, List.any_eq_true, List.any_eq_true]
  have key : ∀ i ∈ List.range l.length, ((match (ens l)[i]? with | some e => decide ((ens l).findIdx (fun x => about x e) ≠ i) | none => false) = true ↔ (match l[i]? with | some x => decide (idxI l x.e ≠ (i : Nat)) | none => false) = true) := by
    intro i hi
    rw [List.mem_range] at hi
    have hlt : (ens l).findIdx (fun x => about x (l[i]).e) < l.length := by
      rw [← hlen, List.findIdx_lt_length]
      exact ⟨(l[i]).e, List.mem_map.2 ⟨l[i], List.getElem_mem hi, rfl⟩, about_refl _⟩
    rw [List.getElem?_eq_getElem (by rw [hlen]; exact hi), List.getElem?_eq_getElem hi]
    simp only [ens, List.getElem_map] at hlt ⊢
    unfold idxI
    rw [if_pos (by simpa [ens] using hlt)]
    simp only [ens, ne_eq, decide_not, Bool.not_eq_true', decide_eq_false_iff_not]
    omega
  constructor
  · rintro ⟨i, hi, h⟩; exact ⟨i, hi, (key i hi).1 h⟩
  · rintro ⟨i, hi, h⟩; exact ⟨i, hi, (key i hi).2 h⟩
theorem dup_true (l : List Et) (k : Nat) (hk : k < l.length) (h : idxI l (l[k]).e ≠ (k : Nat)) : dupE (ens l) = true := by
  rw [dup_idx, List.any_eq_true]
  exact ⟨k, List.mem_range.2 hk, by rw [List.getElem?_eq_getElem hk]; simpa using h⟩
theorem dup_false (l : List Et) (h : ∀ k (hk : k < l.length), idxI l (l[k]).e = (k : Nat)) : dupE (ens l) = false := by
  rw [dup_idx, List.any_eq_false]
  intro i hi
  rw [List.mem_range] at hi
  rw [List.getElem?_eq_getElem hi]
  simpa using h i hi

set_option maxRecDepth 10000 in
set_option maxHeartbeats 2000000 in
theorem rdouble_any (w : World) (v : Value) (l : List Et) (hl : EL w v l) (hn : l.length ≤ 1000000) :
    Calls Try.prog 52 #[v] w fun e w' => e = .returned (.bool (dupE (ens l))) ∧ Below w.heap.size w w' := by
  obtain ⟨R, hR⟩ : ∃ R, R = dupE (ens l) := ⟨_, rfl⟩
  rw [← hR]
  have HR := Bx.mk hR
  obtain ⟨ad, c, rfl, -⟩ := hl.rd.form
  have HL := Bx.mk hl
  have HC := Bx.mk hl.cells.2
  clear hl hR
  go_enter Try.func52, Try.ntmps52
  go_wp2
  go_loopw [3] (fun i wr => ∃ k : Nat, k ≤ l.length ∧ i = .int .i64 k ∧ Bx (∀ j (hj : j < k) (hj2 : j < l.length), idxI l (l[j]).e = (j : Nat)) ∧ Below w.heap.size w wr) (fun i _ => l.length - (intOf i).toNat)
  case atStart => exact ⟨0, by omega, rfl, ⟨fun j hj => by omega⟩, Below.refl _ _⟩
  case round =>
    obtain ⟨k, hk, rfl, hfd, hBw⟩ := hrel
    have HBw := Bx.mk hBw
    by_cases hlt : k < l.length
    · obtain ⟨b, o, rfl, hbl, c0, c1, c2, c3, c4⟩ := HC.out wr hBw k hlt
      have hmem : l[k] ∈ l := List.getElem_mem hlt
      have hcall := rfind_any wr _ l l[k] (HL.out.below hBw) ((HL.out.at_ _ hmem).below hBw) hn
      have HTR := Bx.mk (show idxI l (l[k]).e ≠ (k : Nat) → R = true from fun h => by rw [HR.out]; exact dup_true l k hlt h)
      have HFA := Bx.mk (show idxI l (l[k]).e = (k : Nat) → ∀ j (hj : j < k + 1) (hj2 : j < l.length), idxI l (l[j]).e = (j : Nat) from fun h j hj hj2 => by
        by_cases q : j = k
        · subst q; exact h
        · exact hfd.out j (by omega) hj2)
      generalize idxI l (l[k]).e = q at *
      unfold entV at hcall
      clear hmem hfd hBw hbl
      generalize (l[k]).u.val = U1 at *
      generalize (l[k]).e.s = S1 at *
      generalize (l[k]).e.t = T1 at *
      generalize (l[k]).e.r = R1 at *
      generalize (l[k]).e.v = V1 at *
      by_cases h : q = (k : Int)
      · have HRT := Bx.mk (HFA.out h)
        have t0 : (q != (k : Int)) = false := by simp [h]
        clear h
        go_wp2_with (go_at_call 51; refine hcall.mono ?_; rintro e w2 ⟨rfl, hb2⟩)
        have HB2 := Bx.mk (HBw.out.trans (hb2.mono HBw.out.size))
        clear hb2
        go_wp2
        go_roundw
        case rel => exact ⟨k + 1, by omega, by go_num, HRT, HB2.out⟩
        case measure => simp [intOf]; omega
      · have HRT := Bx.mk (HTR.out h)
        have t0 : (q != (k : Int)) = true := by simpa using h
        clear h
        go_wp2_with (go_at_call 51; refine hcall.mono ?_; rintro e w2 ⟨rfl, hb2⟩)
        have HB2 := Bx.mk (HBw.out.trans (hb2.mono HBw.out.size))
        clear hb2
        go_wp2
        go_ret
        exact ⟨by rw [HRT.out]; rfl, HB2.out⟩
    · obtain rfl : k = l.length := by omega
      have HRN := Bx.mk (show R = false by rw [HR.out]; exact dup_false l fun j hj => hfd.out j hj hj)
      clear hBw hfd
      go_wp2
      go_ret
      exact ⟨by rw [HRN.out]; rfl, HBw.out⟩
end Go.Proofs.Ytpagoinnkknkfaa.Pb

namespace Go.Proofs.Ytpagoinnkknkfaa.Pb
open Go Go.RowKit Go.Proofs.Ytpagoinnkknkfaa.Slc
set_option linter.unusedVariables false
set_option linter.unusedSimpArgs false

theorem info_entry : (Try.prog.info? 44).map (fun i => (i.zero, i.size, i.bytes)) = some (some (.agg #[.int .i64 0, .int .i64 0, .int .i64 0, .int .i64 0, .slice none 0 0]), 5, 56) := by kernel_rfl
theorem und_entries : Try.prog.underlying 40 = some (.slice 44) := by kernel_rfl
theorem und_entries' : Try.prog.underlying 40 = some (.slice (Try.prog.elem 40)) := by kernel_rfl
theorem size_entries (W : World) : (sizeOf (Try.prog.elem 40)).run Try.prog W = .ok 5 W := by kernel_rfl
theorem firstA_snoc (x : En) : ∀ (l pre : List En), firstA pre (l ++ [x]) = firstA pre l ++ (if (findE (pre ++ l) x).isSome then [] else [x])
  | [], pre => by
    rw [List.nil_append, firstA, firstA, firstA, List.append_nil]
    split <;> rfl
  | a :: l, pre => by
    rw [List.cons_append, firstA, firstA, firstA_snoc x l (pre ++ [a])]
    simp only [List.append_assoc, List.singleton_append]
    split <;> rfl
theorem first_snoc (l : List En) (x : En) : firstE (l ++ [x]) = firstE l ++ (if (findE l x).isSome then [] else [x]) := firstA_snoc x l []
theorem optV_form (o : Option Et) : ∃ s t r v a n c, optV o = .tuple #[.agg #[.int .i64 s, .int .i64 t, .int .i64 r, .int .i64 v, .slice a n c], .bool o.isSome] := by
  cases o with
  | none => exact ⟨_, _, _, _, _, _, _, rfl⟩
  | some x => exact ⟨_, _, _, _, _, _, _, rfl⟩
def zBox : Obj := .cells #[.int .i64 0, .int .i64 0, .int .i64 0, .int .i64 0, .slice none 0 0] 44
/-- the facts of first's region -/
def FsF (W : World) (v0 : Value) (k : Nat) (U E : Value) (s t r v : Int) (a : Option Addr) (n c : Nat) (q : Bool) : Nat → Value → World → Prop
  | 0, x, _ => x = v0
  | 1, x, _ => x = .int .i64 k
  | 2, x, _ => x = U
  | 3, x, _ => x = E
  | 4, x, _ => x = .tuple #[.agg #[.int .i64 s, .int .i64 t, .int .i64 r, .int .i64 v, .slice a n c], .bool q]
  | 5, x, _ => x = .tuple #[.agg #[.int .i64 s, .int .i64 t, .int .i64 r, .int .i64 v, .slice a n c], .bool q]
  | 6, x, _ => x = .agg #[.int .i64 s, .int .i64 t, .int .i64 r, .int .i64 v, .slice a n c]
  | 7, x, _ => x = .bool q
  | 8, x, w => ∃ g : Nat, x = .pointer (some ⟨g, 0, none⟩) ∧ W.heap.size ≤ g ∧ w.heap[g]? = some zBox
  | _, _, _ => True
theorem FsF.stable (W : World) (v0 : Value) (k : Nat) (U E : Value) (s t r v : Int) (a : Option Addr) (n c : Nat) (q : Bool) (i : Nat) (x : Value) (w w' : World) (h : FsF W v0 k U E s t r v a n c q i x w) (hb : Below w.heap.size w w') : FsF W v0 k U E s t r v a n c q i x w' := by
  match i with
  | 0 | 1 | 2 | 3 | 4 | 5 | 6 | 7 => exact h
  | 8 => obtain ⟨g, h1, h2, h3⟩ := h; exact ⟨g, h1, h2, by rw [hb.block g (lt_of_block h3)]; exact h3⟩
  | _ + 9 => exact trivial
def FsC : Nat → Option Nat
  | 8 => some 9
  | _ => none
def FsB : Nat → Bool
  | 9 => true
  | _ => false
theorem FsF.big (W : World) (v0 : Value) (k : Nat) (U E : Value) (s t r v : Int) (a : Option Addr) (n c : Nat) (q : Bool) (d : Nat → Bool) (b j : Nat) (x : Value) (w w' : World) (hb : FsB b = true) (hc : ∀ c, FsC j = some c → mark d b c = false) (hne : j ≠ b) (h : FsF W v0 k U E s t r v a n c q j x w) : FsF W v0 k U E s t r v a n c q j x w' := by
  have hb9 : b = 9 := by
    unfold FsB at hb; split at hb
    · rfl
    · cases hb
  subst hb9
  match j with
  | 0 | 1 | 2 | 3 | 4 | 5 | 6 | 7 => exact h
  | 8 => have := hc 9 rfl; simp [mark] at this
  | _ + 9 => exact trivial

set_option maxRecDepth 10000 in
set_option maxHeartbeats 4000000 in
theorem pfirst_any (w : World) (v : Value) (l : List Et) (hl : EL w v l) (hn : l.length ≤ 1000000) :
    Calls Try.prog 48 #[v] w fun e w' => ∃ v' l', e = .returned v' ∧ Own w' w.heap.size 44 5 encE v' l' ∧ EL w' v' l' ∧ ens l' = firstE (ens l) ∧ Below w.heap.size w w' := by
  obtain ⟨i0, hi0, hz0, hz1, hz2⟩ := info_parts info_entry
  obtain ⟨ad, c, rfl, -⟩ := hl.rd.form
  have HL := Bx.mk hl
  have HC := Bx.mk hl.cells.2
  clear hl
  go_enter Try.func48, Try.ntmps48
  go_wp2
  go_loopw [3, 10] (fun ov i wr => ∃ (k : Nat) (out : List Et), k ≤ l.length ∧ i = .int .i64 k ∧ out.length ≤ k ∧ Gr w w.heap.size 44 5 encE wr ov out ∧ Bx (ens out = firstE (ens (l.take k)) ∧ ∀ x ∈ out, EtAt w x)) (fun _ i _ => l.length - (intOf i).toNat)
  case atStart => exact ⟨0, [], by omega, rfl, by simp, Gr.nil _ _ (Nat.le_refl _), ⟨by simp [ens, firstE, firstA], fun x hx => by cases hx⟩⟩
  case round =>
    obtain ⟨k, out, hk, rfl, hlen, hG, hF⟩ := hrel
    obtain ⟨av, cv, rfl, -⟩ := hG.form
    have hBw : Below w.heap.size w wr := hG.bel
    have HBw := Bx.mk hBw
    have HG := Bx.mk hG
    have HLEN := Bx.mk hlen
    by_cases hlt : k < l.length
    · obtain ⟨b, o, rfl, hbl, c0, c1, c2, c3, c4⟩ := HC.out wr hBw k hlt
      have hmem : l[k] ∈ l := List.getElem_mem hlt
      have hbl' : b < wr.heap.size := by have := hBw.size; omega
      obtain ⟨z, hz⟩ : ∃ z, z = l[k] := ⟨_, rfl⟩
      rw [← hz] at c0 c1 c2 c3 c4 hmem
      have htk : ens (l.take (k + 1)) = ens (l.take k) ++ [z.e] := by rw [ens, List.take_succ_eq_append_getElem hlt, List.map_append, ← hz]; rfl
      have hsn := first_snoc (ens (l.take k)) z.e
      rw [← htk, ← findT_some] at hsn
      obtain ⟨es, et, er, ev, ea, en, ec, hopt⟩ := optV_form (findT (l.take k) z.e)
      obtain ⟨U, hrun, hrd⟩ := HL.out.rd.upto (P := Try.prog) (T := 40) encE_ok und_entries' size_entries k (by omega)
      have hEL : EL w U (l.take k) := ⟨hrd, fun x hx => HL.out.at_ x (List.mem_of_mem_take hx)⟩
      have HCALL := Bx.mk (fun (W : World) (hW : Below w.heap.size w W) => pfind_any W U (l.take k) z (hEL.below hW) ((HL.out.at_ z hmem).below hW) (by rw [List.length_take]; omega))
      rw [hopt] at HCALL
      have HATZ := Bx.mk (fun (W : World) (hW : Below w.heap.size w W) => (HL.out.at_ z hmem).below hW)
      have HRUN := Bx.mk hrun
      have HEV := Bx.mk (encBox_eq z)
      unfold entV at HCALL
      generalize (findT (l.take k) z.e).isSome = q at *
      have HF := Bx.mk hF.out
      have HSN := Bx.mk hsn
      clear hz hmem htk hsn hopt hrun hrd hEL hF hG hlen hbl
      have hU1 : ∃ a n c, z.u.val = .slice a n c := ⟨_, _, _, rfl⟩
      have HB5 := Bx.mk (show ∀ (o : Obj) W, Below (wr.alloc o).heap.size (wr.alloc o) W → Below w.heap.size w W from fun o W h => (HBw.out.alloc HBw.out.size o).trans (h.mono (by have := HBw.out.size; simp; omega)))
      obtain ⟨p, hp⟩ : ∃ p, p = wr.heap.size := ⟨_, rfl⟩
      have HP0 := Bx.mk hp
      unfold encBox at HEV
      generalize z.u.val = U1 at *
      obtain ⟨ua, un, uc, rfl⟩ := hU1
      generalize z.e.s = S1 at *
      generalize z.e.t = T1 at *
      generalize z.e.r = R1 at *
      generalize z.e.v = V1 at *
      go_wp2_with fail
      obtain ⟨W5, hW5⟩ : ∃ W5, W5 = wr.alloc (.cells #[.int .i64 S1, .int .i64 T1, .int .i64 R1, .int .i64 V1, .slice ua un uc] 44) := ⟨_, rfl⟩
      have HPB := Bx.mk (show ∀ W, Below W5.heap.size W5 W → W.heap[p]? = some (.cells #[.int .i64 S1, .int .i64 T1, .int .i64 R1, .int .i64 V1, .slice ua un uc] 44) from fun W hW => by
        rw [hW.block p (by rw [hW5, hp]; simp), hW5, hp]; exact heap_alloc_new _ _)
      have HW5 := Bx.mk (show ∀ W, Below W5.heap.size W5 W → Below w.heap.size w W from fun W hW => HB5.out _ W (by rw [← hW5]; exact hW))
      have HW5b := Bx.mk (show Below wr.heap.size wr W5 by rw [hW5]; exact (Below.refl _ _).alloc (Nat.le_refl _) _)
      have HW5s := Bx.mk (show p < W5.heap.size by rw [hW5, hp]; simp)
      rw [← hW5, ← hp]
      clear hW5 hp HB5
      refine wp_region_factsV 10 FsC FsB (FsF W5 (.slice (some ⟨b, o, none⟩) l.length c) k U (.agg #[.int .i64 S1, .int .i64 T1, .int .i64 R1, .int .i64 V1, .slice ua un uc]) es et er ev ea en ec q) (by kernel_rfl) (by kernel_rfl) (by rfl) (FsF.stable _ _ _ _ _ _ _ _ _ _ _ _ _) (fun b ob j v d w1 w' hb _ _ hc hne _ h _ => FsF.big _ _ _ _ _ _ _ _ _ _ _ _ _ d b j v w1 w' hb hc hne h) ?_ ?_
      · intro i o hi ho x w1 hb hd
        have hc : i = 0 ∨ i = 1 ∨ i = 2 ∨ i = 3 ∨ i = 4 ∨ i = 5 ∨ i = 6 ∨ i = 7 ∨ i = 8 ∨ i = 9 := by omega
        simp only [List.take_succ_cons, List.take_zero, putFrom]
        have hpb := HPB.out w1 hb
        have d0 := cell_of_row _ _ 0 _ _ _ hpb
        have d1 := cell_of_row _ _ 1 _ _ _ hpb
        have d2 := cell_of_row _ _ 2 _ _ _ hpb
        have d3 := cell_of_row _ _ 3 _ _ _ hpb
        have d4 := cell_of_row _ _ 4 _ _ _ hpb
        simp only [List.getElem?_toArray, List.getElem?_cons_zero, List.getElem?_cons_succ] at d0 d1 d2 d3 d4
        have hcall := HCALL.out w1 (HW5.out w1 hb)
        have hru := HRUN.out w1
        clear hpb c0 c1 c2 c3 c4
        rcases hc with rfl | rfl | rfl | rfl | rfl | rfl | rfl | rfl | rfl | rfl
        all_goals
          simp only [List.getElem?_cons_succ, List.getElem?_cons_zero, Option.some.injEq] at ho
          subst ho
          simp [NeedsB, Region.binds, FsF, FsC] at hd
          try obtain ⟨hd1, hd⟩ := hd
          try obtain ⟨hd2, hd⟩ := hd
        case inr.inr.inr.inr.inr.inr.inr.inr.inr =>
          obtain ⟨g, hd1, hg, hbk⟩ := hd1
          clear hd
          rw [hd1, hd2]
          unfold zBox at hbk
          have m0 := cell_of_row _ _ 0 _ _ _ hbk
          have m1 := cell_of_row _ _ 1 _ _ _ hbk
          have m2 := cell_of_row _ _ 2 _ _ _ hbk
          have m3 := cell_of_row _ _ 3 _ _ _ hbk
          have m4 := cell_of_row _ _ 4 _ _ _ hbk
          simp only [List.getElem?_toArray, List.getElem?_cons_zero, List.getElem?_cons_succ] at m0 m1 m2 m3 m4
          have fr : ∀ i, w1.frozen? ⟨g, i, none⟩ = false := fun i => by simp [World.frozen?, hbk]
          have HST := Bx.mk (show Below W5.heap.size w1 (((((w1.setCell ⟨g, 0, none⟩ (.int .i64 es)).setCell ⟨g, 1, none⟩ (.int .i64 et)).setCell ⟨g, 2, none⟩ (.int .i64 er)).setCell ⟨g, 3, none⟩ (.int .i64 ev)).setCell ⟨g, 4, none⟩ (.slice ea en ec)) from
            (((((Below.refl _ _).setCell (p := ⟨g, 0, none⟩) hg _).setCell (p := ⟨g, 1, none⟩) hg _).setCell (p := ⟨g, 2, none⟩) hg _).setCell (p := ⟨g, 3, none⟩) hg _).setCell (p := ⟨g, 4, none⟩) hg _)
          clear hd1 hd2 hcall hru d0 d1 d2 d3 d4 hbk hg hb
          go_wp2_with fail
          exact ⟨rfl, rfl, trivial, HST.out⟩
        all_goals go_wp2_with fail
        all_goals simp only [FsB, upd, if_true, Bool.false_eq_true, if_false]
        all_goals first
          | (exact ⟨rfl, rfl, rfl, Below.refl _ _⟩)
          | (exact ⟨rfl, rfl, ⟨_, rfl, hb.size, heap_alloc_new _ _⟩, (Below.refl _ _).alloc (Nat.le_refl _) _⟩)
          | (go_at_call 49; (with_reducible refine hcall.mono ?_); rintro e w2 ⟨rfl, hb2⟩; go_wp2_with fail; simp only [FsB, upd, if_true, Bool.false_eq_true, if_false]; exact ⟨rfl, rfl, rfl, hb2⟩)
      · intro x w1 hb hf
        have f0 := hf 0 (by omega) (fun c hc => by cases hc)
        have f1 := hf 1 (by omega) (fun c hc => by cases hc)
        have f2 := hf 2 (by omega) (fun c hc => by cases hc)
        have f3 := hf 3 (by omega) (fun c hc => by cases hc)
        have f4 := hf 4 (by omega) (fun c hc => by cases hc)
        have f5 := hf 5 (by omega) (fun c hc => by cases hc)
        have f6 := hf 6 (by omega) (fun c hc => by cases hc)
        have f7 := hf 7 (by omega) (fun c hc => by cases hc)
        simp only [FsF] at f0 f1 f2 f3 f4 f5 f6 f7
        clear hf
        simp only [List.take_succ_cons, List.take_zero, List.drop_succ_cons, List.drop_zero, putFrom, Nat.zero_add, Nat.reduceAdd, f0, f1, f2, f3, f4, f5, f6, f7]
        clear f0 f1 f2 f3 f4 f5 f6 f7
        generalize x 8 = X8 at *
        generalize x 9 = X9 at *
        clear x
        have hpb := HPB.out w1 hb
        have d0 := cell_of_row _ _ 0 _ _ _ hpb
        have d1 := cell_of_row _ _ 1 _ _ _ hpb
        have d2 := cell_of_row _ _ 2 _ _ _ hpb
        have d3 := cell_of_row _ _ 3 _ _ _ hpb
        have d4 := cell_of_row _ _ 4 _ _ _ hpb
        simp only [List.getElem?_toArray, List.getElem?_cons_zero, List.getElem?_cons_succ] at d0 d1 d2 d3 d4
        have HBST := Bx.mk (HW5b.out.trans (hb.mono HW5b.out.size))
        clear hpb hb c0 c1 c2 c3 c4 hbl' hBw
        cases q with
        | true =>
          have HSN2 := Bx.mk (show firstE (ens (l.take (k + 1))) = firstE (ens (l.take k)) by rw [HSN.out]; simp)
          go_wp2
          go_roundw
          case rel => exact ⟨k + 1, out, by omega, by go_num, by have := HLEN.out; omega, HG.out.below HBST.out, ⟨by rw [HSN2.out]; exact HF.out.1, HF.out.2⟩⟩
          case measure => simp [intOf]; omega
        | false =>
          have HSN2 := Bx.mk (show firstE (ens (l.take (k + 1))) = firstE (ens (l.take k)) ++ [z.e] by rw [HSN.out]; simp)
          have HBA := Bx.mk (HBST.out.alloc HBST.out.size (.cells #[.int .i64 S1, .int .i64 T1, .int .i64 R1, .int .i64 V1, .slice ua un uc] 44))
          have hown := (HG.out.below HBA.out).own
          have hsrc : SrcV (w1.alloc (.cells #[.int .i64 S1, .int .i64 T1, .int .i64 R1, .int .i64 V1, .slice ua un uc] 44)) 5 (.slice (some ⟨w1.heap.size, 0, none⟩) 1 1) 1 ([z].flatMap encE) := src_new encE_ok (by rw [heap_alloc_new, HEV.out])
          have hbz : w.heap.size ≤ (w1.alloc (.cells #[.int .i64 S1, .int .i64 T1, .int .i64 R1, .int .i64 V1, .slice ua un uc] 44)).heap.size := (HG.out.below HBA.out).sz
          have HOWN := Bx.mk hown
          have hm1 : out.length + 1 ≤ maxLen := by have := HLEN.out; unfold maxLen; omega
          have hm2 : (out.length + 1) * 56 ≤ 140737488355328 := by have := HLEN.out; omega
          clear hown
          go_wp2_with (refine wpList_append_any rfl _ _ _ rfl w.heap.size 44 i0 _ 5 56 und_entries hi0 hz0 hz1 hz2 rfl (by decide) _ out.length (out.flatMap encE) rfl HOWN.out _ 1 ([z].flatMap encE) rfl hsrc hm1 hm2 hbz ?_)
          intro v2 w3 hapd
          have hG2 := (HG.out.below HBA.out).apd (m := [z]) rfl rfl rfl rfl hapd
          have HG2 := Bx.mk hG2
          have HAT := Bx.mk (show ∀ x ∈ out ++ [z], EtAt w x from fun x hx => by
            rcases List.mem_append.1 hx with hx | hx
            · exact HF.out.2 x hx
            · rw [List.mem_singleton] at hx; subst hx
              exact HATZ.out _ (Below.refl _ _))
          clear hapd hsrc hbz hG2 HOWN
          go_wp2
          go_roundw
          case rel => exact ⟨k + 1, out ++ [z], by omega, by go_num, by have := HLEN.out; simp; omega, HG2.out, ⟨by rw [HSN2.out, ← HF.out.1]; simp [ens], HAT.out⟩⟩
          case measure => simp [intOf]; omega
    · obtain rfl : k = l.length := by omega
      have HFF := Bx.mk hF.out
      clear hF hG hBw
      go_wp2
      go_ret
      exact ⟨_, out, rfl, HG.out.own, ⟨HG.out.own.rd, fun x hx => (HFF.out.2 x hx).below HG.out.bel⟩, by rw [HFF.out.1, List.take_length], HG.out.bel⟩
end Go.Proofs.Ytpagoinnkknkfaa.Pb

namespace Go.Proofs.Ytpagoinnkknkfaa.Pb
open Go Go.RowKit Go.Proofs.Ytpagoinnkknkfaa.Slc
set_option linter.unusedVariables false
set_option linter.unusedSimpArgs false

def RdIn {α : Type} (w : World) (S : Nat → Prop) (enc : α → List Value) (v : Value) (l : List α) : Prop := Rd w enc v l ∧ ∀ k, v.ownBlock = some k → S k
theorem RdIn.keep {α : Type} {w w' : World} {S : Nat → Prop} {enc : α → List Value} {v : Value} {l : List α} (h : RdIn w S enc v l) (hs : w.heap.size ≤ w'.heap.size) (hb : ∀ k, S k → k < w.heap.size → w'.heap[k]? = w.heap[k]?) : RdIn w' S enc v l := ⟨h.1.keep hs fun k hk hlt => hb k (h.2 k hk) hlt, h.2⟩
theorem RdIn.mono {α : Type} {w : World} {S S' : Nat → Prop} {enc : α → List Value} {v : Value} {l : List α} (h : RdIn w S enc v l) (hS : ∀ k, k < w.heap.size → S k → S' k) : RdIn w S' enc v l := ⟨h.1, fun k hk => hS k (h.1.lt k hk) (h.2 k hk)⟩
def NameIn (w : World) (S : Nat → Prop) (v : Value) (n : Nm) : Prop :=
  ∃ vs : List Sl, RdIn w S encV1 v vs ∧ ∃ hl : vs.length = n.length, ∀ i (h : i < n.length), RdIn w S encA (vs[i]'(by omega)).val [n[i]]
theorem NameIn.keep {w w' : World} {S : Nat → Prop} {v : Value} {n : Nm} (h : NameIn w S v n) (hs : w.heap.size ≤ w'.heap.size) (hb : ∀ k, S k → k < w.heap.size → w'.heap[k]? = w.heap[k]?) : NameIn w' S v n := by
  obtain ⟨vs, h1, hl, h2⟩ := h
  exact ⟨vs, h1.keep hs hb, hl, fun i hi => (h2 i hi).keep hs hb⟩
theorem NameIn.mono {w : World} {S S' : Nat → Prop} {v : Value} {n : Nm} (h : NameIn w S v n) (hS : ∀ k, k < w.heap.size → S k → S' k) : NameIn w S' v n := by
  obtain ⟨vs, h1, hl, h2⟩ := h
  exact ⟨vs, h1.mono hS, hl, fun i hi => (h2 i hi).mono hS⟩
theorem NameIn.nat {w : World} {S : Nat → Prop} {v : Value} {n : Nm} (h : NameIn w S v n) : NameAt w v n := by
  obtain ⟨vs, h1, hl, h2⟩ := h
  exact ⟨vs, h1.1, hl, fun i hi => (h2 i hi).1⟩
theorem NameIn.of {w : World} {v : Value} {n : Nm} (h : NameAt w v n) : NameIn w (fun k => k < w.heap.size) v n := by
  obtain ⟨vs, h1, hl, h2⟩ := h
  exact ⟨vs, ⟨h1, h1.lt⟩, hl, fun i hi => ⟨h2 i hi, (h2 i hi).lt⟩⟩
theorem NameIn.below {w w' : World} {S : Nat → Prop} {v : Value} {n : Nm} (h : NameIn w S v n) (hb : Below w.heap.size w w') : NameIn w' S v n := h.keep hb.size fun k _ hk => hb.block k hk
/-- an entry whose issuer lies in given blocks -/
def EtIn (w : World) (S : Nat → Prop) (x : Et) : Prop := NameIn w S x.u.val x.e.iss ∧ Nm.Ok x.e.iss
theorem EtIn.of {w : World} {x : Et} (h : EtAt w x) : EtIn w (fun k => k < w.heap.size) x := ⟨NameIn.of h.1, h.2⟩
theorem EtIn.keep {w w' : World} {S : Nat → Prop} {x : Et} (h : EtIn w S x) (hs : w.heap.size ≤ w'.heap.size) (hb : ∀ k, S k → k < w.heap.size → w'.heap[k]? = w.heap[k]?) : EtIn w' S x := ⟨h.1.keep hs hb, h.2⟩
theorem EtIn.mono {w : World} {S S' : Nat → Prop} {x : Et} (h : EtIn w S x) (hS : ∀ k, k < w.heap.size → S k → S' k) : EtIn w S' x := ⟨h.1.mono hS, h.2⟩
theorem EtIn.below {w w' : World} {S : Nat → Prop} {x : Et} (h : EtIn w S x) (hb : Below w.heap.size w w') : EtIn w' S x := ⟨h.1.below hb, h.2⟩
theorem EtIn.at_ {w : World} {S : Nat → Prop} {x : Et} (h : EtIn w S x) : EtAt w x := ⟨h.1.nat, h.2⟩
/-- a slice of entries that the call owns; the issuers lie in other blocks -/
structure EO (w : World) (B : Nat) (v : Value) (l : List Et) : Prop where
  own : Own w B 44 5 encE v l
  nm : ∀ x ∈ l, EtIn w (fun k => v.ownBlock ≠ some k) x
theorem EO.el {w : World} {B : Nat} {v : Value} {l : List Et} (h : EO w B v l) : EL w v l := ⟨h.own.rd, fun x hx => (h.nm x hx).at_⟩
theorem EO.below {w w' : World} {B : Nat} {v : Value} {l : List Et} (h : EO w B v l) (hb : Below w.heap.size w w') : EO w' B v l := ⟨h.own.below hb, fun x hx => (h.nm x hx).below hb⟩
theorem EO.nil (w : World) (B : Nat) : EO w B (.slice none 0 0) [] := ⟨Own.nil _ _, fun x hx => by cases hx⟩
theorem EO.mono {w : World} {B B' : Nat} {v : Value} {l : List Et} (h : EO w B v l) (hB : B' ≤ B) : EO w B' v l := ⟨h.own.mono hB, h.nm⟩
/-- a slice that the call grows -/
structure GE (W : World) (B : Nat) (wr : World) (v : Value) (l : List Et) : Prop where
  eo : EO wr B v l
  bel : Below B W wr
  le : B ≤ W.heap.size
theorem GE.nil (W : World) (B : Nat) (h : B ≤ W.heap.size) : GE W B W (.slice none 0 0) [] := ⟨EO.nil _ _, Below.refl _ _, h⟩
theorem GE.sz {W wr : World} {B : Nat} {v : Value} {l : List Et} (h : GE W B wr v l) : B ≤ wr.heap.size := Nat.le_trans h.le h.bel.size
theorem GE.below {W wr w1 : World} {B : Nat} {v : Value} {l : List Et} (h : GE W B wr v l) (hb : Below wr.heap.size wr w1) : GE W B w1 v l := ⟨h.eo.below hb, h.bel.trans (hb.mono h.sz), h.le⟩
theorem GE.form {W wr : World} {B : Nat} {v : Value} {l : List Et} (h : GE W B wr v l) : ∃ ad c, v = .slice ad l.length c ∧ l.length ≤ c := h.eo.own.rd.form
theorem GE.apd {W wr w' : World} {B a b : Nat} {v v' : Value} {l m : List Et} {xs news : List Value} (h : GE W B wr v l) (hm : ∀ x ∈ m, EtIn wr (fun k => v.ownBlock ≠ some k) x) (hx : xs = l.flatMap encE) (hy : news = m.flatMap encE) (ha : a = l.length) (hb : b = m.length) (h' : Apd wr B 44 5 v a b xs news v' w') : GE W B w' v' (l ++ m) := by
  have key : ∀ x, EtIn wr (fun k => v.ownBlock ≠ some k) x → EtIn w' (fun k => v'.ownBlock ≠ some k) x := by
    intro x hx
    refine EtIn.mono (S := fun k => v.ownBlock ≠ some k ∧ k < wr.heap.size) ((hx.mono fun k hk h1 => ⟨h1, hk⟩).keep h'.grown.size fun k hk hlt => h'.grown.block k hlt fun e => hk.1 e.symm) ?_
    intro k _ hk e
    rcases h'.blk with q | q
    · exact hk.1 (by rw [← q]; exact e)
    · rw [q] at e; simp only [Option.some.injEq] at e; omega
  refine ⟨⟨h.eo.own.apd hx hy ha hb h', fun x hx => ?_⟩, h.bel.grown h'.grown h.sz fun k hk => (h.eo.own.lt k hk).1, h.le⟩
  rcases List.mem_append.1 hx with q | q
  · exact key x (h.eo.nm x q)
  · exact key x (hm x q)
/-- an entry that lies below B, beside a slice that is owned from B on -/
theorem EtAt.other {W wr : World} {B : Nat} {v : Value} {l : List Et} {x : Et} (h : GE W B wr v l) (hx : EtAt W x) (hB : ∀ k, k < W.heap.size → k < B) : EtIn wr (fun k => v.ownBlock ≠ some k) x :=
  EtIn.mono (S := fun k => k < W.heap.size) ((EtIn.of hx).keep h.bel.size fun k hk _ => h.bel.block k (hB k hk)) fun k _ hk e => by have := (h.eo.own.lt k e).1; have := hB k hk; omega
end Go.Proofs.Ytpagoinnkknkfaa.Pb
