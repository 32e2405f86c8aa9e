/-
  Names that match, of both texts: Within, Match. (Written by wip/gen/gen_pbn.py.)
-/
import Derived.Test.YtpagoinnkknkfaaPbNames
namespace Go.Proofs.Ytpagoinnkknkfaa.Pb
open Go Go.RowKit Go.Proofs.Ytpagoinnkknkfaa.Slc
set_option linter.unusedVariables false
set_option linter.unusedSimpArgs false

theorem cell_alloc_one (w : World) (v : Value) (t : TypeId) : (w.alloc (.cells #[v] t)).cell? ⟨w.heap.size, 0, none⟩ = some v := by rw [World.cell?_alloc_at _ _ _ _ rfl]; rfl

set_option maxRecDepth 10000 in
set_option maxHeartbeats 1000000 in
theorem pwithin_any (w : World) (v1 v2 : Value) (n m : Nm) (h1 : NameAt w v1 n) (h2 : NameAt w v2 m) (hl : n.length = m.length) (hn : n.Ok) (hm : m.Ok) :
    Calls Try.prog 88 #[.agg #[v1], .agg #[v2]] w fun e w' => e = .returned (.bool (nmatch n m)) ∧ Below w.heap.size w w' := by
  obtain ⟨R, hR⟩ : ∃ R, R = nmatch n m := ⟨_, rfl⟩
  rw [← hR]
  have HR := Bx.mk hR
  have H1 := Bx.mk h1
  have H2 := Bx.mk h2
  obtain ⟨vs1, hr1, hl1, hx1⟩ := h1
  obtain ⟨vs2, hr2, hl2, hx2⟩ := h2
  obtain ⟨ad1, c1, rfl, -⟩ := hr1.form
  obtain ⟨ad2, c2, rfl, -⟩ := hr2.form
  obtain ⟨L, hL⟩ : ∃ L, L = n.length := ⟨_, rfl⟩
  have HLN := Bx.mk hL
  have HLM := Bx.mk (hL.trans hl)
  clear hL hl
  have HC1 := Bx.mk (show ∀ (W : World), Below w.heap.size w W → ∀ k (hk : k < L), ∃ b o, ∃ u : Sl, ad1 = some ⟨b, o, none⟩ ∧ W.cell? ⟨b, o + k, none⟩ = some u.val ∧ b < w.heap.size ∧ Rd W encA u.val [n[k]'(by have := HLN.out; omega)] from fun W hW k hk => by
    obtain ⟨b, o, c, hv', _, hlt, hc⟩ := hr1.cells encV1_ok (by have := HLN.out; omega)
    simp only [Value.slice.injEq] at hv'
    have q := hc W (fun k' hk' => hW.block k' (hr1.lt k' hk')) k (by have := HLN.out; omega) 0 _ (by omega) rfl
    rw [Nat.mul_one, Nat.add_zero] at q
    exact ⟨b, o, _, hv'.1, q, hlt, (hx1 k (by have := HLN.out; omega)).below hW⟩)
  have HC2 := Bx.mk (show ∀ (W : World), Below w.heap.size w W → ∀ k (hk : k < L), ∃ b o, ∃ u : Sl, ad2 = some ⟨b, o, none⟩ ∧ W.cell? ⟨b, o + k, none⟩ = some u.val ∧ b < w.heap.size ∧ Rd W encA u.val [m[k]'(by have := HLM.out; omega)] from fun W hW k hk => by
    obtain ⟨b, o, c, hv', _, hlt, hc⟩ := hr2.cells encV1_ok (by have := HLM.out; omega)
    simp only [Value.slice.injEq] at hv'
    have q := hc W (fun k' hk' => hW.block k' (hr2.lt k' hk')) k (by have := HLM.out; omega) 0 _ (by omega) rfl
    rw [Nat.mul_one, Nat.add_zero] at q
    exact ⟨b, o, _, hv'.1, q, hlt, (hx2 k (by have := HLM.out; omega)).below hW⟩)
  have HS1 := Bx.mk (show ∀ k (h : k < L), (n[k]'(by have := HLN.out; omega)).val.length ≤ 1000000 from fun k h => hn.2 _ (List.getElem_mem _))
  have HS2 := Bx.mk (show ∀ k (h : k < L), (m[k]'(by have := HLM.out; omega)).val.length ≤ 1000000 from fun k h => hm.2 _ (List.getElem_mem _))
  have hLb : L ≤ 1000 := by rw [HLN.out]; exact hn.1
  have e1 : vs1.length = L := by have := HLN.out; omega
  have e2 : vs2.length = L := by have := HLM.out; omega
  rw [e1, e2]
  have hlt1 := hr1.lt
  have hlt2 := hr2.lt
  rw [e1] at hlt1
  rw [e2] at hlt2
  clear hr1 hr2 hl1 hl2 hx1 hx2 hn hm hR e1 e2 H1 H2
  obtain ⟨W0, hW0⟩ : ∃ W0, W0 = (w.alloc (.cells #[.slice ad1 L c1] 36)).alloc (.cells #[.slice ad2 L c2] 36) := ⟨_, rfl⟩
  have HBW0 := Bx.mk (show Below w.heap.size w W0 by rw [hW0]; exact ((Below.refl _ _).alloc (Nat.le_refl _) _).alloc (by simp) _)
  have HP := Bx.mk (show ∀ W, Below (w.heap.size + 2) W0 W → W.cell? ⟨w.heap.size, 0, none⟩ = some (.slice ad1 L c1) ∧ W.cell? ⟨w.heap.size + 1, 0, none⟩ = some (.slice ad2 L c2) from fun W hW => by
    subst hW0
    refine ⟨?_, ?_⟩
    · rw [hW.cell (by simp), World.cell?_alloc_past _ _ _ (by simp), World.cell?_alloc_at _ _ _ _ rfl]; rfl
    · rw [hW.cell (by simp), World.cell?_alloc_at _ _ _ _ (by simp)]; rfl)
  have HZ := Bx.mk (show W0.heap.size = w.heap.size + 2 by rw [hW0]; simp)
  clear hlt1 hlt2
  go_enter Try.func88, Try.ntmps88
  go_wp2
  rw [← hW0]
  clear hW0
  go_loopw [16] (fun i wr => ∃ k : Nat, k ≤ L ∧ i = .int .i64 k ∧ Bx ((n.take k).map attrK = (m.take k).map attrK) ∧ Below (w.heap.size + 2) W0 wr) (fun i _ => L - (intOf i).toNat)
  case atStart => exact ⟨0, by omega, rfl, ⟨by simp⟩, Below.refl _ _⟩
  case round =>
    obtain ⟨k, hk, rfl, hall, hbel⟩ := hrel
    have hBw : Below w.heap.size w wr := HBW0.out.trans (hbel.mono (by omega))
    have hsz : w.heap.size + 1 < wr.heap.size := by have := hbel.size; have := HZ.out; omega
    have HBEL := Bx.mk hbel
    have HBw := Bx.mk hBw
    by_cases hlt : k < L
    · obtain ⟨b1, o1, u1, rfl, q1, hb1, r1⟩ := HC1.out wr hBw k hlt
      obtain ⟨b2, o2, u2, rfl, q2, hb2, r2⟩ := HC2.out wr hBw k hlt
      obtain ⟨p1, p2⟩ := HP.out wr hbel
      have z1 : b1 < wr.heap.size := by have := hBw.size; omega
      have z2 : b2 < wr.heap.size := by have := hBw.size; omega
      have hC := Bx.mk (fun (e : Ext wr) => psame_any e.out u1.val u2.val _ _ (r1.below e.bel) (r2.below e.bel) (HS1.out k hlt) (HS2.out k hlt))
      have E1 : ∀ e : Ext wr, e.out.cell? ⟨b1, o1 + k, none⟩ = some u1.val := fun e => (e.cell z1).trans q1
      have E2 : ∀ e : Ext wr, e.out.cell? ⟨b2, o2 + k, none⟩ = some u2.val := fun e => (e.cell z2).trans q2
      have E3 : ∀ e : Ext wr, e.out.cell? ⟨w.heap.size, 0, none⟩ = some (.slice (some ⟨b1, o1, none⟩) L c1) := fun e => (e.cell (by omega)).trans p1
      have E4 : ∀ e : Ext wr, e.out.cell? ⟨w.heap.size + 1, 0, none⟩ = some (.slice (some ⟨b2, o2, none⟩) L c2) := fun e => (e.cell (by omega)).trans p2
      have HNX := Bx.mk (show amatch (n[k]'(by have := HLN.out; omega)) (m[k]'(by have := HLM.out; omega)) = true → (n.take (k + 1)).map attrK = (m.take (k + 1)).map attrK from fun h => by
        rw [amatch_key, decide_eq_true_eq] at h
        rw [List.take_succ_eq_append_getElem (by have := HLN.out; omega), List.take_succ_eq_append_getElem (by have := HLM.out; omega), List.map_append, List.map_append, hall.out, List.map_singleton, List.map_singleton, h])
      have HNO := Bx.mk (show amatch (n[k]'(by have := HLN.out; omega)) (m[k]'(by have := HLM.out; omega)) = false → R = false from fun h => by
        rw [amatch_key, decide_eq_false_iff_not] at h
        rw [HR.out, nmatch, decide_eq_false_iff_not]
        intro q
        apply h
        have := congrArg (fun (l : List (B × B)) => l[k]?) q
        simp only [List.getElem?_map] at this
        rw [List.getElem?_eq_getElem (by have := HLN.out; omega), List.getElem?_eq_getElem (by have := HLM.out; omega)] at this
        simpa using this)
      generalize hrr : amatch (n[k]'(by have := HLN.out; omega)) (m[k]'(by have := HLM.out; omega)) = r at *
      clear hrr q1 q2 p1 p2 r1 r2 z1 z2 hb1 hb2 hall hbel hBw hsz
      have hk0 : (k : Int) < L := by omega
      go_wp2_with fail
      generalize u1.val = U1 at *
      generalize u2.val = U2 at *
      generalize hwr : wr = wr0 at *
      refine wp_region_self (by kernel_rfl) (by kernel_rfl) ?_
      repeat (go_big_quiet_step (fail))
      go_big_quiet_step ((go_at_call 98; exact ext_of (hC.out _)))
      repeat (go_big_quiet_step (fail))
      refine wpQuiet_nil ?_
      rintro _ ⟨e1, rfl⟩
      have HB1 := Bx.mk (HBw.out.trans (e1.bel.mono HBw.out.size))
      have HB2 := Bx.mk (HBEL.out.trans (e1.bel.mono (by have := HBEL.out.size; have := HZ.out; omega)))
      clear E1 E2 E3 E4 hC
      generalize e1.out = w2 at *
      cases r with
      | true =>
        go_wp2
        go_roundw
        case rel => exact ⟨k + 1, by omega, by go_num, ⟨HNX.out rfl⟩, HB2.out⟩
        case measure => simp [intOf]; omega
      | false =>
        have HRF := Bx.mk (HNO.out rfl)
        go_wp2
        go_ret
        exact ⟨by rw [HRF.out]; rfl, HB1.out⟩
    · obtain rfl : k = L := by omega
      have HFIN := Bx.mk hBw
      have HRF := Bx.mk (show R = true by
        have := hall.out
        rw [List.take_of_length_le (by have := HLN.out; omega), List.take_of_length_le (by have := HLM.out; omega)] at this
        rw [HR.out, nmatch, this]; simp)
      clear hall hBw hbel hsz
      go_wp2
      go_ret
      exact ⟨by rw [HRF.out]; rfl, HFIN.out⟩

set_option maxRecDepth 10000 in
set_option maxHeartbeats 1000000 in
theorem rwithin_any (w : World) (v1 v2 : Value) (n m : Nm) (h1 : NameAt w v1 n) (h2 : NameAt w v2 m) (hl : n.length = m.length) (hn : n.Ok) (hm : m.Ok) :
    Calls Try.prog 67 #[.agg #[v1], .agg #[v2]] w fun e w' => e = .returned (.bool (nmatch n m)) ∧ Below w.heap.size w w' := by
  obtain ⟨R, hR⟩ : ∃ R, R = nmatch n m := ⟨_, rfl⟩
  rw [← hR]
  have HR := Bx.mk hR
  have H1 := Bx.mk h1
  have H2 := Bx.mk h2
  obtain ⟨vs1, hr1, hl1, hx1⟩ := h1
  obtain ⟨vs2, hr2, hl2, hx2⟩ := h2
  obtain ⟨ad1, c1, rfl, -⟩ := hr1.form
  obtain ⟨ad2, c2, rfl, -⟩ := hr2.form
  obtain ⟨L, hL⟩ : ∃ L, L = n.length := ⟨_, rfl⟩
  have HLN := Bx.mk hL
  have HLM := Bx.mk (hL.trans hl)
  clear hL hl
  have HC1 := Bx.mk (show ∀ (W : World), Below w.heap.size w W → ∀ k (hk : k < L), ∃ b o, ∃ u : Sl, ad1 = some ⟨b, o, none⟩ ∧ W.cell? ⟨b, o + k, none⟩ = some u.val ∧ b < w.heap.size ∧ Rd W encA u.val [n[k]'(by have := HLN.out; omega)] from fun W hW k hk => by
    obtain ⟨b, o, c, hv', _, hlt, hc⟩ := hr1.cells encV1_ok (by have := HLN.out; omega)
    simp only [Value.slice.injEq] at hv'
    have q := hc W (fun k' hk' => hW.block k' (hr1.lt k' hk')) k (by have := HLN.out; omega) 0 _ (by omega) rfl
    rw [Nat.mul_one, Nat.add_zero] at q
    exact ⟨b, o, _, hv'.1, q, hlt, (hx1 k (by have := HLN.out; omega)).below hW⟩)
  have HC2 := Bx.mk (show ∀ (W : World), Below w.heap.size w W → ∀ k (hk : k < L), ∃ b o, ∃ u : Sl, ad2 = some ⟨b, o, none⟩ ∧ W.cell? ⟨b, o + k, none⟩ = some u.val ∧ b < w.heap.size ∧ Rd W encA u.val [m[k]'(by have := HLM.out; omega)] from fun W hW k hk => by
    obtain ⟨b, o, c, hv', _, hlt, hc⟩ := hr2.cells encV1_ok (by have := HLM.out; omega)
    simp only [Value.slice.injEq] at hv'
    have q := hc W (fun k' hk' => hW.block k' (hr2.lt k' hk')) k (by have := HLM.out; omega) 0 _ (by omega) rfl
    rw [Nat.mul_one, Nat.add_zero] at q
    exact ⟨b, o, _, hv'.1, q, hlt, (hx2 k (by have := HLM.out; omega)).below hW⟩)
  have HS1 := Bx.mk (show ∀ k (h : k < L), (n[k]'(by have := HLN.out; omega)).val.length ≤ 1000000 from fun k h => hn.2 _ (List.getElem_mem _))
  have HS2 := Bx.mk (show ∀ k (h : k < L), (m[k]'(by have := HLM.out; omega)).val.length ≤ 1000000 from fun k h => hm.2 _ (List.getElem_mem _))
  have hLb : L ≤ 1000 := by rw [HLN.out]; exact hn.1
  have e1 : vs1.length = L := by have := HLN.out; omega
  have e2 : vs2.length = L := by have := HLM.out; omega
  rw [e1, e2]
  have hlt1 := hr1.lt
  have hlt2 := hr2.lt
  rw [e1] at hlt1
  rw [e2] at hlt2
  clear hr1 hr2 hl1 hl2 hx1 hx2 hn hm hR e1 e2 H1 H2
  obtain ⟨W0, hW0⟩ : ∃ W0, W0 = (w.alloc (.cells #[.slice ad1 L c1] 36)).alloc (.cells #[.slice ad2 L c2] 36) := ⟨_, rfl⟩
  have HBW0 := Bx.mk (show Below w.heap.size w W0 by rw [hW0]; exact ((Below.refl _ _).alloc (Nat.le_refl _) _).alloc (by simp) _)
  have HP := Bx.mk (show ∀ W, Below (w.heap.size + 2) W0 W → W.cell? ⟨w.heap.size, 0, none⟩ = some (.slice ad1 L c1) ∧ W.cell? ⟨w.heap.size + 1, 0, none⟩ = some (.slice ad2 L c2) from fun W hW => by
    subst hW0
    refine ⟨?_, ?_⟩
    · rw [hW.cell (by simp), World.cell?_alloc_past _ _ _ (by simp), World.cell?_alloc_at _ _ _ _ rfl]; rfl
    · rw [hW.cell (by simp), World.cell?_alloc_at _ _ _ _ (by simp)]; rfl)
  have HZ := Bx.mk (show W0.heap.size = w.heap.size + 2 by rw [hW0]; simp)
  clear hlt1 hlt2
  go_enter Try.func67, Try.ntmps67
  go_wp2
  rw [← hW0]
  clear hW0
  go_loopw [16] (fun i wr => ∃ k : Nat, k ≤ L ∧ i = .int .i64 k ∧ Bx ((n.take k).map attrK = (m.take k).map attrK) ∧ Below (w.heap.size + 2) W0 wr) (fun i _ => L - (intOf i).toNat)
  case atStart => exact ⟨0, by omega, rfl, ⟨by simp⟩, Below.refl _ _⟩
  case round =>
    obtain ⟨k, hk, rfl, hall, hbel⟩ := hrel
    have hBw : Below w.heap.size w wr := HBW0.out.trans (hbel.mono (by omega))
    have hsz : w.heap.size + 1 < wr.heap.size := by have := hbel.size; have := HZ.out; omega
    have HBEL := Bx.mk hbel
    have HBw := Bx.mk hBw
    by_cases hlt : k < L
    · obtain ⟨b1, o1, u1, rfl, q1, hb1, r1⟩ := HC1.out wr hBw k hlt
      obtain ⟨b2, o2, u2, rfl, q2, hb2, r2⟩ := HC2.out wr hBw k hlt
      obtain ⟨p1, p2⟩ := HP.out wr hbel
      have z1 : b1 < wr.heap.size := by have := hBw.size; omega
      have z2 : b2 < wr.heap.size := by have := hBw.size; omega
      have hC := Bx.mk (fun (e : Ext wr) => rsame_any e.out u1.val u2.val _ _ (r1.below e.bel) (r2.below e.bel) (HS1.out k hlt) (HS2.out k hlt))
      have E1 : ∀ e : Ext wr, e.out.cell? ⟨b1, o1 + k, none⟩ = some u1.val := fun e => (e.cell z1).trans q1
      have E2 : ∀ e : Ext wr, e.out.cell? ⟨b2, o2 + k, none⟩ = some u2.val := fun e => (e.cell z2).trans q2
      have E3 : ∀ e : Ext wr, e.out.cell? ⟨w.heap.size, 0, none⟩ = some (.slice (some ⟨b1, o1, none⟩) L c1) := fun e => (e.cell (by omega)).trans p1
      have E4 : ∀ e : Ext wr, e.out.cell? ⟨w.heap.size + 1, 0, none⟩ = some (.slice (some ⟨b2, o2, none⟩) L c2) := fun e => (e.cell (by omega)).trans p2
      have HNX := Bx.mk (show amatch (n[k]'(by have := HLN.out; omega)) (m[k]'(by have := HLM.out; omega)) = true → (n.take (k + 1)).map attrK = (m.take (k + 1)).map attrK from fun h => by
        rw [amatch_key, decide_eq_true_eq] at h
        rw [List.take_succ_eq_append_getElem (by have := HLN.out; omega), List.take_succ_eq_append_getElem (by have := HLM.out; omega), List.map_append, List.map_append, hall.out, List.map_singleton, List.map_singleton, h])
      have HNO := Bx.mk (show amatch (n[k]'(by have := HLN.out; omega)) (m[k]'(by have := HLM.out; omega)) = false → R = false from fun h => by
        rw [amatch_key, decide_eq_false_iff_not] at h
        rw [HR.out, nmatch, decide_eq_false_iff_not]
        intro q
        apply h
        have := congrArg (fun (l : List (B × B)) => l[k]?) q
        simp only [List.getElem?_map] at this
        rw [List.getElem?_eq_getElem (by have := HLN.out; omega), List.getElem?_eq_getElem (by have := HLM.out; omega)] at this
        simpa using this)
      generalize hrr : amatch (n[k]'(by have := HLN.out; omega)) (m[k]'(by have := HLM.out; omega)) = r at *
      clear hrr q1 q2 p1 p2 r1 r2 z1 z2 hb1 hb2 hall hbel hBw hsz
      have hk0 : (k : Int) < L := by omega
      go_wp2_with fail
      generalize u1.val = U1 at *
      generalize u2.val = U2 at *
      generalize hwr : wr = wr0 at *
      refine wp_region_self (by kernel_rfl) (by kernel_rfl) ?_
      repeat (go_big_quiet_step (fail))
      go_big_quiet_step ((go_at_call 76; exact ext_of (hC.out _)))
      repeat (go_big_quiet_step (fail))
      refine wpQuiet_nil ?_
      rintro _ ⟨e1, rfl⟩
      have HB1 := Bx.mk (HBw.out.trans (e1.bel.mono HBw.out.size))
      have HB2 := Bx.mk (HBEL.out.trans (e1.bel.mono (by have := HBEL.out.size; have := HZ.out; omega)))
      clear E1 E2 E3 E4 hC
      generalize e1.out = w2 at *
      cases r with
      | true =>
        go_wp2
        go_roundw
        case rel => exact ⟨k + 1, by omega, by go_num, ⟨HNX.out rfl⟩, HB2.out⟩
        case measure => simp [intOf]; omega
      | false =>
        have HRF := Bx.mk (HNO.out rfl)
        go_wp2
        go_ret
        exact ⟨by rw [HRF.out]; rfl, HB1.out⟩
    · obtain rfl : k = L := by omega
      have HFIN := Bx.mk hBw
      have HRF := Bx.mk (show R = true by
        have := hall.out
        rw [List.take_of_length_le (by have := HLN.out; omega), List.take_of_length_le (by have := HLM.out; omega)] at this
        rw [HR.out, nmatch, this]; simp)
      clear hall hBw hbel hsz
      go_wp2
      go_ret
      exact ⟨by rw [HRF.out]; rfl, HFIN.out⟩

set_option maxRecDepth 10000 in
set_option maxHeartbeats 1000000 in
theorem pmatch_any (w : World) (v1 v2 : Value) (n m : Nm) (h1 : NameAt w v1 n) (h2 : NameAt w v2 m) (hn : n.Ok) (hm : m.Ok) :
    Calls Try.prog 71 #[.agg #[v1], .agg #[v2]] w fun e w' => e = .returned (.bool (nmatch n m)) ∧ Below w.heap.size w w' := by
  have H1 := Bx.mk h1
  have H2 := Bx.mk h2
  obtain ⟨vs1, hr1, hl1, hx1⟩ := h1
  obtain ⟨vs2, hr2, hl2, hx2⟩ := h2
  obtain ⟨ad1, c1, rfl, -⟩ := hr1.form
  obtain ⟨ad2, c2, rfl, -⟩ := hr2.form
  rw [hl1] at H1
  rw [hl2] at H2
  rw [hl1, hl2]
  have HBW := Bx.mk (show Below w.heap.size w ((w.alloc (.cells #[.slice ad1 n.length c1] 36)).alloc (.cells #[.slice ad2 m.length c2] 36)) from ((Below.refl _ _).alloc (Nat.le_refl _) _).alloc (by simp) _)
  have HC := Bx.mk (fun (hl : n.length = m.length) => pwithin_any _ _ _ n m (H1.out.below HBW.out) (H2.out.below HBW.out) hl hn hm)
  have b1 := hn.1
  have b2 := hm.1
  clear hr1 hr2 hx1 hx2 hl1 hl2 H1 H2 hn hm
  by_cases hl : n.length = m.length
  · have hc := HC.out hl
    have t0 : ((n.length : Int) == (m.length : Int)) = true := by simp [hl]
    generalize nmatch n m = R at *
    clear HC hl
    generalize n.length = L1 at *
    generalize m.length = L2 at *
    go_enter Try.func71, Try.ntmps71
    go_wp2_with (go_at_call 88; refine hc.mono ?_; rintro e w2 ⟨rfl, hb2⟩)
    have HFIN := Bx.mk (HBW.out.trans (hb2.mono HBW.out.size))
    clear hb2
    go_wp2
    go_ret
    exact ⟨rfl, HFIN.out⟩
  · have t0 : ((n.length : Int) == (m.length : Int)) = false := by simp; omega
    have hq : nmatch n m = false := by
      unfold nmatch
      rw [decide_eq_false_iff_not]
      intro q; apply hl
      have := congrArg List.length q
      simpa using this
    rw [hq]
    clear HC hl hq
    generalize n.length = L1 at *
    generalize m.length = L2 at *
    go_enter Try.func71, Try.ntmps71
    go_wp2
    go_ret
    exact ⟨rfl, HBW.out⟩

set_option maxRecDepth 10000 in
set_option maxHeartbeats 1000000 in
theorem rmatch_any (w : World) (v1 v2 : Value) (n m : Nm) (h1 : NameAt w v1 n) (h2 : NameAt w v2 m) (hn : n.Ok) (hm : m.Ok) :
    Calls Try.prog 54 #[.agg #[v1], .agg #[v2]] w fun e w' => e = .returned (.bool (nmatch n m)) ∧ Below w.heap.size w w' := by
  have H1 := Bx.mk h1
  have H2 := Bx.mk h2
  obtain ⟨vs1, hr1, hl1, hx1⟩ := h1
  obtain ⟨vs2, hr2, hl2, hx2⟩ := h2
  obtain ⟨ad1, c1, rfl, -⟩ := hr1.form
  obtain ⟨ad2, c2, rfl, -⟩ := hr2.form
  rw [hl1] at H1
  rw [hl2] at H2
  rw [hl1, hl2]
  have HBW := Bx.mk (show Below w.heap.size w ((w.alloc (.cells #[.slice ad1 n.length c1] 36)).alloc (.cells #[.slice ad2 m.length c2] 36)) from ((Below.refl _ _).alloc (Nat.le_refl _) _).alloc (by simp) _)
  have HC := Bx.mk (fun (hl : n.length = m.length) => rwithin_any _ _ _ n m (H1.out.below HBW.out) (H2.out.below HBW.out) hl hn hm)
  have b1 := hn.1
  have b2 := hm.1
  clear hr1 hr2 hx1 hx2 hl1 hl2 H1 H2 hn hm
  by_cases hl : n.length = m.length
  · have hc := HC.out hl
    have t0 : ((n.length : Int) == (m.length : Int)) = true := by simp [hl]
    generalize nmatch n m = R at *
    clear HC hl
    generalize n.length = L1 at *
    generalize m.length = L2 at *
    go_enter Try.func54, Try.ntmps54
    go_wp2_with (go_at_call 67; refine hc.mono ?_; rintro e w2 ⟨rfl, hb2⟩)
    have HFIN := Bx.mk (HBW.out.trans (hb2.mono HBW.out.size))
    clear hb2
    go_wp2
    go_ret
    exact ⟨rfl, HFIN.out⟩
  · have t0 : ((n.length : Int) == (m.length : Int)) = false := by simp; omega
    have hq : nmatch n m = false := by
      unfold nmatch
      rw [decide_eq_false_iff_not]
      intro q; apply hl
      have := congrArg List.length q
      simpa using this
    rw [hq]
    clear HC hl hq
    generalize n.length = L1 at *
    generalize m.length = L2 at *
    go_enter Try.func54, Try.ntmps54
    go_wp2
    go_ret
    exact ⟨rfl, HBW.out⟩
end Go.Proofs.Ytpagoinnkknkfaa.Pb
