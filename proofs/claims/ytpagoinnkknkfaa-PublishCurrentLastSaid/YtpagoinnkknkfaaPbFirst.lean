/-
  find and double of the reference; first. (Written by wip/gen/gen_pbf1.py.)
-/
import Derived.Test.YtpagoinnkknkfaaPbEnt
import Derived.Test.YtpagoinnkknkfaaFacts
namespace Go.Proofs.Ytpagoinnkknkfaa.Pb
open Go Go.RowKit Go.Proofs.Ytpagoinnkknkfaa.Slc
set_option linter.unusedVariables false
set_option linter.unusedSimpArgs false

/-- the reference's index, or -1 -/
def idxI (l : List Et) (e : En) : Int := if (ens l).findIdx (fun x => about x e) < l.length then ((ens l).findIdx (fun x => about x e) : Nat) else -1
theorem idx_at (l : List Et) (e : En) (k : Nat) (hk : k < l.length) (h : ∀ j (hj : j < k), about (l[j]'(by omega)).e e = false) (ht : about (l[k]).e e = true) : idxI l e = (k : Nat) := by
  have hlen : (ens l).length = l.length := by simp [ens]
  have : (ens l).findIdx (fun x => about x e) = k := by
    rw [List.findIdx_eq (by rw [hlen]; exact hk)]
    refine ⟨by simpa [ens] using ht, fun j hj => by simpa [ens] using h j hj⟩
  unfold idxI; rw [this, if_pos hk]
theorem idx_none (l : List Et) (e : En) (h : ∀ j (hj : j < l.length), about (l[j]).e e = false) : idxI l e = -1 := by
  have hlen : (ens l).length = l.length := by simp [ens]
  unfold idxI; rw [if_neg]
  intro hlt
  have := List.findIdx_getElem (xs := ens l) (p := fun x => about x e) (w := by rw [hlen]; exact hlt)
  simp only [ens, List.getElem_map] at this
  rw [h _ (by simpa using hlt)] at this; cases this

set_option maxRecDepth 10000 in
set_option maxHeartbeats 2000000 in
theorem rfind_any (w : World) (v : Value) (l : List Et) (y : Et) (hl : EL w v l) (hy : EtAt w y) (hn : l.length ≤ 1000000) :
    Calls Try.prog 51 #[v, entV y] w fun e w' => e = .returned (.int .i64 (idxI l y.e)) ∧ Below w.heap.size w w' := by
  obtain ⟨R, hR⟩ : ∃ R, R = idxI l y.e := ⟨_, rfl⟩
  rw [← hR]
  have HR := Bx.mk hR
  obtain ⟨ad, c, rfl, -⟩ := hl.rd.form
  have HL := Bx.mk hl
  have HY := Bx.mk hy
  have HC := Bx.mk hl.cells.2
  clear hl hy hR
  obtain ⟨W0, hW0⟩ : ∃ W0, W0 = w.alloc (encBox y) := ⟨_, rfl⟩
  have HBW0 := Bx.mk (show Below w.heap.size w W0 by rw [hW0]; exact (Below.refl _ _).alloc (Nat.le_refl _) _)
  have HP := Bx.mk (show ∀ W, Below (w.heap.size + 1) W0 W → W.heap[w.heap.size]? = some (encBox y) from fun W hW => by
    subst hW0
    rw [hW.block _ (by omega)]; exact heap_alloc_new _ _)
  have HZ := Bx.mk (show W0.heap.size = w.heap.size + 1 by rw [hW0]; simp)
  unfold encBox at hW0 HP
  have HYV := Bx.mk (show entV y = .agg #[.int .i64 y.e.s, .int .i64 y.e.t, .int .i64 y.e.r, .int .i64 y.e.v, y.u.val] from rfl)
  rw [HYV.out]
  go_enter Try.func51, Try.ntmps51
  go_wp2
  rw [← hW0]
  clear hW0
  go_loopw [5] (fun i wr => ∃ k : Nat, k ≤ l.length ∧ i = .int .i64 k ∧ Bx (∀ j (hj : j < k) (hj2 : j < l.length), about (l[j]).e y.e = false) ∧ Below (w.heap.size + 1) W0 wr) (fun i _ => l.length - (intOf i).toNat)
  case atStart => exact ⟨0, by omega, rfl, ⟨fun j hj => by omega⟩, Below.refl _ _⟩
  case round =>
    obtain ⟨k, hk, rfl, hfd, hbel⟩ := hrel
    have hBw : Below w.heap.size w wr := HBW0.out.trans (hbel.mono (by omega))
    have hsz : w.heap.size + 1 ≤ wr.heap.size := by have := hbel.size; have := HZ.out; omega
    have hsz0 : w.heap.size < wr.heap.size := by omega
    have HBEL := Bx.mk hbel
    have HBw := Bx.mk hBw
    have p0 := HP.out wr hbel
    by_cases hlt : k < l.length
    · obtain ⟨b, o, rfl, hbl, c0, c1, c2, c3, c4⟩ := HC.out wr hBw k hlt
      have hmem : l[k] ∈ l := List.getElem_mem hlt
      have HTR := Bx.mk (show about (l[k]).e y.e = true → R = (k : Nat) from fun h => by rw [HR.out]; exact idx_at l y.e k hlt (fun j hj => hfd.out j hj (by omega)) h)
      have HFA := Bx.mk (show about (l[k]).e y.e = false → ∀ j (hj : j < k + 1) (hj2 : j < l.length), about (l[j]).e y.e = false from fun h j hj hj2 => by
        by_cases q : j = k
        · subst q; exact h
        · exact hfd.out j (by omega) hj2)
      obtain ⟨z, hz⟩ : ∃ z, z = l[k] := ⟨_, rfl⟩
      rw [← hz] at c0 c1 c2 c3 c4 hmem HTR HFA
      have hbl' : b < wr.heap.size := by have := hBw.size; omega
      have hcall := Bx.mk (fun e : Ext wr => rabout_any e.out z y ((HL.out.at_ z hmem).below (hBw.trans (e.bel.mono hBw.size))) (HY.out.below (hBw.trans (e.bel.mono hBw.size))))
      unfold entV at hcall
      have q0 := cell_of_row _ _ 0 _ _ _ p0
      have q1 := cell_of_row _ _ 1 _ _ _ p0
      have q2 := cell_of_row _ _ 2 _ _ _ p0
      have q3 := cell_of_row _ _ 3 _ _ _ p0
      have q4 := cell_of_row _ _ 4 _ _ _ p0
      simp only [List.getElem?_toArray, List.getElem?_cons_zero, List.getElem?_cons_succ] at q0 q1 q2 q3 q4
      have E0 : ∀ e : Ext wr, _ := fun e => (e.cell hbl').trans c0
      have E1 : ∀ e : Ext wr, _ := fun e => (e.cell hbl').trans c1
      have E2 : ∀ e : Ext wr, _ := fun e => (e.cell hbl').trans c2
      have E3 : ∀ e : Ext wr, _ := fun e => (e.cell hbl').trans c3
      have E4 : ∀ e : Ext wr, _ := fun e => (e.cell hbl').trans c4
      have D0 : ∀ e : Ext wr, _ := fun e => (e.cell hsz0).trans q0
      have D1 : ∀ e : Ext wr, _ := fun e => (e.cell hsz0).trans q1
      have D2 : ∀ e : Ext wr, _ := fun e => (e.cell hsz0).trans q2
      have D3 : ∀ e : Ext wr, _ := fun e => (e.cell hsz0).trans q3
      have D4 : ∀ e : Ext wr, _ := fun e => (e.cell hsz0).trans q4
      have hk0 : (k : Int) < l.length := by omega
      clear hz hmem hfd hBw hbel hbl p0 hsz c0 c1 c2 c3 c4 q0 q1 q2 q3 q4 hbl'
      generalize z.u.val = U1 at *
      generalize y.u.val = U2 at *
      generalize z.e.s = S1 at *
      generalize y.e.s = S2 at *
      generalize z.e.t = T1 at *
      generalize y.e.t = T2 at *
      generalize z.e.r = R1 at *
      generalize y.e.r = R2 at *
      generalize z.e.v = V1 at *
      generalize y.e.v = V2 at *
      generalize about z.e y.e = q at *
      go_wp2_with fail
      generalize hwr : wr = wr0 at *
      refine wp_region_self (by kernel_rfl) (by kernel_rfl) ?_
      repeat (go_big_quiet_step (fail))
      go_big_quiet_step ((go_at_call 39; exact ext_of (hcall.out _)))
      repeat (go_big_quiet_step (fail))
      refine wpQuiet_nil ?_
      rintro _ ⟨e1, rfl⟩
      have HB1 := Bx.mk (HBw.out.trans (e1.bel.mono HBw.out.size))
      have HB2 := Bx.mk (HBEL.out.trans (e1.bel.mono (by have := HBEL.out.size; have := HZ.out; omega)))
      clear E0 E1 E2 E3 E4 D0 D1 D2 D3 D4 hcall
      generalize e1.out = w2 at *
      cases q with
      | true =>
        have HRT := Bx.mk (HTR.out rfl)
        go_wp2
        go_ret
        exact ⟨by rw [HRT.out]; rfl, HB1.out⟩
      | false =>
        have HRT := Bx.mk (HFA.out rfl)
        go_wp2
        go_roundw
        case rel => exact ⟨k + 1, by omega, by go_num, HRT, HB2.out⟩
        case measure => simp [intOf]; omega
    · obtain rfl : k = l.length := by omega
      have HRN := Bx.mk (show R = -1 by rw [HR.out]; exact idx_none l y.e fun j hj => hfd.out j hj hj)
      clear hbel hBw p0 hfd
      go_wp2
      go_ret
      exact ⟨by rw [HRN.out]; rfl, HBw.out⟩

/-- whether two entries are about the same certificate -/
theorem dup_idx (l : List Et) : dupE (ens l) = (List.range l.length).any fun i => match l[i]? with | some x => decide (idxI l x.e ≠ (i : Nat)) | none => false := by
  rw [← dupR_eq]
  unfold dupR
  have hlen : (ens l).length = l.length := by simp [ens]
  rw [hlen]
  rw [Bool.eq_iff_iff, List.any_eq_true, List.any_eq_true]
  have key : ∀ i ∈ List.range l.length, ((match (ens l)[i]? with | some e => decide ((ens l).findIdx (fun x => about x e) ≠ i) | none => false) = true ↔ (match l[i]? with | some x => decide (idxI l x.e ≠ (i : Nat)) | none => false) = true) := by
    intro i hi
    rw [List.mem_range] at hi
    have hlt : (ens l).findIdx (fun x => about x (l[i]).e) < l.length := by
      rw [← hlen, List.findIdx_lt_length]
      exact ⟨(l[i]).e, List.mem_map.2 ⟨l[i], List.getElem_mem hi, rfl⟩, about_refl _⟩
    rw [List.getElem?_eq_getElem (by rw [hlen]; exact hi), List.getElem?_eq_getElem hi]
    simp only [ens, List.getElem_map] at hlt ⊢
    unfold idxI
    rw [if_pos (by simpa [ens] using hlt)]
    simp only [ens, ne_eq, decide_not, Bool.not_eq_true', decide_eq_false_iff_not]
    omega
  constructor
  · rintro ⟨i, hi, h⟩; exact ⟨i, hi, (key i hi).1 h⟩
  · rintro ⟨i, hi, h⟩; exact ⟨i, hi, (key i hi).2 h⟩
theorem dup_true (l : List Et) (k : Nat) (hk : k < l.length) (h : idxI l (l[k]).e ≠ (k : Nat)) : dupE (ens l) = true := by
  rw [dup_idx, List.any_eq_true]
  exact ⟨k, List.mem_range.2 hk, by rw [List.getElem?_eq_getElem hk]; simpa using h⟩
theorem dup_false (l : List Et) (h : ∀ k (hk : k < l.length), idxI l (l[k]).e = (k : Nat)) : dupE (ens l) = false := by
  rw [dup_idx, List.any_eq_false]
  intro i hi
  rw [List.mem_range] at hi
  rw [List.getElem?_eq_getElem hi]
  simpa using h i hi

set_option maxRecDepth 10000 in
set_option maxHeartbeats 2000000 in
theorem rdouble_any (w : World) (v : Value) (l : List Et) (hl : EL w v l) (hn : l.length ≤ 1000000) :
    Calls Try.prog 52 #[v] w fun e w' => e = .returned (.bool (dupE (ens l))) ∧ Below w.heap.size w w' := by
  obtain ⟨R, hR⟩ : ∃ R, R = dupE (ens l) := ⟨_, rfl⟩
  rw [← hR]
  have HR := Bx.mk hR
  obtain ⟨ad, c, rfl, -⟩ := hl.rd.form
  have HL := Bx.mk hl
  have HC := Bx.mk hl.cells.2
  clear hl hR
  go_enter Try.func52, Try.ntmps52
  go_wp2
  go_loopw [3] (fun i wr => ∃ k : Nat, k ≤ l.length ∧ i = .int .i64 k ∧ Bx (∀ j (hj : j < k) (hj2 : j < l.length), idxI l (l[j]).e = (j : Nat)) ∧ Below w.heap.size w wr) (fun i _ => l.length - (intOf i).toNat)
  case atStart => exact ⟨0, by omega, rfl, ⟨fun j hj => by omega⟩, Below.refl _ _⟩
  case round =>
    obtain ⟨k, hk, rfl, hfd, hBw⟩ := hrel
    have HBw := Bx.mk hBw
    by_cases hlt : k < l.length
    · obtain ⟨b, o, rfl, hbl, c0, c1, c2, c3, c4⟩ := HC.out wr hBw k hlt
      have hmem : l[k] ∈ l := List.getElem_mem hlt
      have hcall := rfind_any wr _ l l[k] (HL.out.below hBw) ((HL.out.at_ _ hmem).below hBw) hn
      have HTR := Bx.mk (show idxI l (l[k]).e ≠ (k : Nat) → R = true from fun h => by rw [HR.out]; exact dup_true l k hlt h)
      have HFA := Bx.mk (show idxI l (l[k]).e = (k : Nat) → ∀ j (hj : j < k + 1) (hj2 : j < l.length), idxI l (l[j]).e = (j : Nat) from fun h j hj hj2 => by
        by_cases q : j = k
        · subst q; exact h
        · exact hfd.out j (by omega) hj2)
      generalize idxI l (l[k]).e = q at *
      unfold entV at hcall
      clear hmem hfd hBw hbl
      generalize (l[k]).u.val = U1 at *
      generalize (l[k]).e.s = S1 at *
      generalize (l[k]).e.t = T1 at *
      generalize (l[k]).e.r = R1 at *
      generalize (l[k]).e.v = V1 at *
      by_cases h : q = (k : Int)
      · have HRT := Bx.mk (HFA.out h)
        have t0 : (q != (k : Int)) = false := by simp [h]
        clear h
        go_wp2_with (go_at_call 51; refine hcall.mono ?_; rintro e w2 ⟨rfl, hb2⟩)
        have HB2 := Bx.mk (HBw.out.trans (hb2.mono HBw.out.size))
        clear hb2
        go_wp2
        go_roundw
        case rel => exact ⟨k + 1, by omega, by go_num, HRT, HB2.out⟩
        case measure => simp [intOf]; omega
      · have HRT := Bx.mk (HTR.out h)
        have t0 : (q != (k : Int)) = true := by simpa using h
        clear h
        go_wp2_with (go_at_call 51; refine hcall.mono ?_; rintro e w2 ⟨rfl, hb2⟩)
        have HB2 := Bx.mk (HBw.out.trans (hb2.mono HBw.out.size))
        clear hb2
        go_wp2
        go_ret
        exact ⟨by rw [HRT.out]; rfl, HB2.out⟩
    · obtain rfl : k = l.length := by omega
      have HRN := Bx.mk (show R = false by rw [HR.out]; exact dup_false l fun j hj => hfd.out j hj hj)
      clear hBw hfd
      go_wp2
      go_ret
      exact ⟨by rw [HRN.out]; rfl, HBw.out⟩
end Go.Proofs.Ytpagoinnkknkfaa.Pb
