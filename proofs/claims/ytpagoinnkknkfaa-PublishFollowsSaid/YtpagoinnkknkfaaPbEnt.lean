/-
  Names that match, of both texts. (Written by wip/gen/gen_pbn.py.)
-/
/-
  Names that match, of both texts: Within, Match. (Written by wip/gen/gen_pbn.py.)
-/
/-
  Entries about the same certificate; find, of both texts. (Written by wip/gen/gen_pbe.py.)
-/
import Derived.Test.YtpagoinnkknkfaaPbFold
namespace Go.Proofs.Ytpagoinnkknkfaa.Pb
open Go Go.RowKit Go.Proofs.Ytpagoinnkknkfaa.Slc
set_option linter.unusedVariables false
set_option linter.unusedSimpArgs false

def sameT (a b : B) : Bool := decide (foldP a [] false = foldP b [] false)
theorem sameT_comm (a b : B) : sameT a b = sameT b a := by unfold sameT; rw [Bool.eq_iff_iff]; simp [eq_comm]
theorem bstr_beq (a b : B) : ((bstr a).toList == (bstr b).toList) = decide (a = b) := by
  rw [ByteArray.toList_eq, ByteArray.toList_eq, Bool.eq_iff_iff]
  simp [bstr]
def amatch (a b : Attr) : Bool := decide (a.ty = b.ty) && sameT a.val b.val
theorem amatch_comm (a b : Attr) : amatch a b = amatch b a := by
  unfold amatch; rw [sameT_comm]; congr 1; rw [Bool.eq_iff_iff]; simp [eq_comm]
theorem amatch_key (a b : Attr) : amatch a b = decide (attrK a = attrK b) := by
  unfold amatch sameT attrK; rw [Bool.eq_iff_iff]; simp
def attrV (a : Attr) : Value := .agg #[.string (bstr a.ty), .int .i64 a.k, .string (bstr a.val)]
def nmatch (n m : Nm) : Bool := decide (n.map attrK = m.map attrK)

theorem tmatch_any (w : World) (a b : B) (ha : a.length ≤ 1000000) (hb : b.length ≤ 1000000) :
    Calls Try.prog 105 #[.string (bstr a), .string (bstr b)] w fun e w' => e = .returned (.bool (sameT a b)) ∧ Below w.heap.size w w' := by
  have h1 := fun W => fold_any W a ha
  have h2 := fun W => fold_any W b hb
  have hq := bstr_beq (foldP a [] false) (foldP b [] false)
  have hq2 : ((bstr (foldP a [] false)).toList == (bstr (foldP b [] false)).toList) = sameT a b := hq
  clear hq
  generalize bstr (foldP a [] false) = X at *
  generalize bstr (foldP b [] false) = Y at *
  generalize sameT a b = R at *
  generalize bstr a = sa at *
  generalize bstr b = sb at *
  go_enter Try.func105, Try.ntmps105
  go_wp2_with fail
  go_at_call 107
  refine (h1 _).mono ?_
  rintro e w1 ⟨rfl, hb1⟩
  have HB1 := Bx.mk hb1
  clear hb1 h1
  go_wp2_with fail
  go_at_call 107
  refine (h2 _).mono ?_
  rintro e w2 ⟨rfl, hb2⟩
  have HB2 := Bx.mk (HB1.out.trans (hb2.mono HB1.out.size))
  clear hb2 h2
  go_wp2
  go_ret
  exact ⟨rfl, HB2.out⟩

theorem rtmatch_any (w : World) (a b : B) (ha : a.length ≤ 1000000) (hb : b.length ≤ 1000000) :
    Calls Try.prog 100 #[.string (bstr a), .string (bstr b)] w fun e w' => e = .returned (.bool (sameT a b)) ∧ Below w.heap.size w w' := by
  have h1 := fun W => rfold_any W a ha
  have h2 := fun W => rfold_any W b hb
  have hq := bstr_beq (foldP a [] false) (foldP b [] false)
  have hq2 : ((bstr (foldP a [] false)).toList == (bstr (foldP b [] false)).toList) = sameT a b := hq
  clear hq
  generalize bstr (foldP a [] false) = X at *
  generalize bstr (foldP b [] false) = Y at *
  generalize sameT a b = R at *
  generalize bstr a = sa at *
  generalize bstr b = sb at *
  go_enter Try.func100, Try.ntmps100
  go_wp2_with fail
  go_at_call 104
  refine (h1 _).mono ?_
  rintro e w1 ⟨rfl, hb1⟩
  have HB1 := Bx.mk hb1
  clear hb1 h1
  go_wp2_with fail
  go_at_call 104
  refine (h2 _).mono ?_
  rintro e w2 ⟨rfl, hb2⟩
  have HB2 := Bx.mk (HB1.out.trans (hb2.mono HB1.out.size))
  clear hb2 h2
  go_wp2
  go_ret
  exact ⟨rfl, HB2.out⟩

set_option maxRecDepth 10000 in
set_option maxHeartbeats 1000000 in
theorem phas_any (w : World) (v : Value) (l : List Attr) (a : Attr) (hv : Rd w encA v l) (hl : l.length ≤ 1000000) (hs : ∀ x ∈ l, x.val.length ≤ 1000000) (ha : a.val.length ≤ 1000000) :
    Calls Try.prog 102 #[v, attrV a] w fun e w' => e = .returned (.bool (l.any fun x => amatch x a)) ∧ Below w.heap.size w w' := by
  obtain ⟨R, hR⟩ : ∃ R, R = l.any fun x => amatch x a := ⟨_, rfl⟩
  rw [← hR]
  have HR := Bx.mk hR
  obtain ⟨ad, c, rfl, -⟩ := hv.form
  have HCELL := Bx.mk (show ∀ (W : World), Below w.heap.size w W → ∀ k (hk : k < l.length), ∃ b o, ad = some ⟨b, o, none⟩ ∧ W.cell? ⟨b, o + k * 3, none⟩ = some (.string (bstr (l[k]).ty)) ∧ W.cell? ⟨b, o + k * 3 + 1, none⟩ = some (.int .i64 (l[k]).k) ∧ W.cell? ⟨b, o + k * 3 + 2, none⟩ = some (.string (bstr (l[k]).val)) from fun W hW k hk => by
    obtain ⟨b, o, c, hv', _, hlt, hc⟩ := hv.cells encA_ok (by omega)
    simp only [Value.slice.injEq] at hv'
    have q := hc W (fun k' hk' => hW.block k' (hv.lt k' hk')) k hk
    exact ⟨b, o, hv'.1, q 0 _ (by omega) rfl, q 1 _ (by omega) rfl, q 2 _ (by omega) rfl⟩)
  have HS := Bx.mk (show ∀ k (h : k < l.length), (l[k]).val.length ≤ 1000000 from fun k h => hs _ (List.getElem_mem h))
  have HA := Bx.mk ha
  clear hv hs hR ha
  unfold attrV
  obtain ⟨W0, hW0⟩ : ∃ W0, W0 = w.alloc (.cells #[.string (bstr a.ty), .int .i64 a.k, .string (bstr a.val)] 69) := ⟨_, rfl⟩
  have HBW0 := Bx.mk (show Below w.heap.size w W0 by rw [hW0]; exact (Below.refl _ _).alloc (Nat.le_refl _) _)
  have HP := Bx.mk (show ∀ W, Below (w.heap.size + 1) W0 W → W.cell? ⟨w.heap.size, 0, none⟩ = some (.string (bstr a.ty)) ∧ W.cell? ⟨w.heap.size, 1, none⟩ = some (.int .i64 a.k) ∧ W.cell? ⟨w.heap.size, 2, none⟩ = some (.string (bstr a.val)) from fun W hW => by
    subst hW0
    refine ⟨?_, ?_, ?_⟩ <;> (rw [hW.cell (by simp), World.cell?_alloc_at _ _ _ _ rfl]; rfl))
  have HZ := Bx.mk (show W0.heap.size = w.heap.size + 1 by rw [hW0]; simp)
  go_enter Try.func102, Try.ntmps102
  go_wp2
  rw [← hW0]
  clear hW0
  go_loopw [9] (fun i wr => ∃ k : Nat, k ≤ l.length ∧ i = .int .i64 k ∧ Bx (l.any (fun x => amatch x a) = (l.drop k).any (fun x => amatch x a)) ∧ Below (w.heap.size + 1) W0 wr) (fun i _ => l.length - (intOf i).toNat)
  case atStart => exact ⟨0, by omega, rfl, ⟨by rw [List.drop_zero]⟩, Below.refl _ _⟩
  case round =>
    obtain ⟨k, hk, rfl, hany, hbel⟩ := hrel
    have hBw : Below w.heap.size w wr := HBW0.out.trans (hbel.mono (by omega))
    have hsz : w.heap.size < wr.heap.size := by have := hbel.size; have := HZ.out; omega
    have HBEL := Bx.mk hbel
    by_cases hlt : k < l.length
    · obtain ⟨b, o, rfl, c0, c1, c2⟩ := HCELL.out wr hBw k hlt
      obtain ⟨q0, q1, q2⟩ := HP.out wr hbel
      have HBw := Bx.mk hBw
      have hst : l.drop k = l[k] :: l.drop (k + 1) := List.drop_eq_getElem_cons hlt
      rw [hst, List.any_cons] at hany
      have hm := fun W => tmatch_any W a.val (l[k]).val HA.out (HS.out k hlt)
      have hty := bstr_beq a.ty (l[k]).ty
      have ham : amatch l[k] a = (decide (a.ty = (l[k]).ty) && sameT a.val (l[k]).val) := by rw [amatch_comm, amatch]
      rw [ham] at hany
      have hany2 := HR.out.trans hany.out
      clear hst ham hBw hbel
      have HB2 := Bx.mk (show ∀ (o : Obj) W, Below (wr.alloc o).heap.size (wr.alloc o) W → Below (w.heap.size + 1) W0 W from fun o W h => (HBEL.out.alloc (by omega) o).trans (h.mono (by simp; omega)))
      have HB3 := Bx.mk (show ∀ W, Below (w.heap.size + 1) W0 W → Below w.heap.size w W from fun W h => HBW0.out.trans (h.mono (by omega)))
      by_cases ht : a.ty = (l[k]).ty
      · rw [decide_eq_true ht] at hty hany2 hany
        simp only [Bool.true_and] at hany2 hany
        have HAN := Bx.mk hany.out
        have HAN2 := Bx.mk hany2
        clear hany hany2 ht
        generalize bstr (l[k]).ty = X0 at *
        generalize bstr (l[k]).val = X2 at *
        generalize (l[k]).k = X1 at *
        generalize bstr a.ty = Y0 at *
        generalize bstr a.val = Y2 at *
        generalize a.k = Y1 at *
        cases hq : sameT a.val (l[k]).val with
        | true =>
          rw [hq] at hm HAN HAN2
          have HRT := Bx.mk (show R = true by rw [HAN2.out]; rfl)
          clear hq HAN HAN2
          go_wp2_with (go_at_call 105; refine (hm _).mono ?_; rintro e w2 ⟨rfl, hb2⟩)
          have HFIN := Bx.mk (HB3.out _ (HB2.out _ _ hb2))
          go_ret
          exact ⟨by rw [HRT.out]; rfl, HFIN.out⟩
        | false =>
          rw [hq] at hm HAN HAN2
          have HRT := Bx.mk (show l.any (fun x => amatch x a) = (l.drop (k + 1)).any (fun x => amatch x a) by rw [HAN.out, Bool.false_or])
          clear hq HAN HAN2
          go_wp2_with (go_at_call 105; refine (hm _).mono ?_; rintro e w2 ⟨rfl, hb2⟩)
          have HFIN := Bx.mk (HB2.out _ _ hb2)
          go_roundw
          case rel => exact ⟨k + 1, by omega, by go_num, HRT, HFIN.out⟩
          case measure => simp [intOf]; omega
      · rw [decide_eq_false ht] at hty hany2 hany
        have HRT := Bx.mk (show l.any (fun x => amatch x a) = (l.drop (k + 1)).any (fun x => amatch x a) by rw [hany.out, Bool.false_and, Bool.false_or])
        clear hany hany2 ht hm
        generalize bstr (l[k]).ty = X0 at *
        generalize bstr (l[k]).val = X2 at *
        generalize (l[k]).k = X1 at *
        generalize bstr a.ty = Y0 at *
        generalize bstr a.val = Y2 at *
        generalize a.k = Y1 at *
        go_wp2
        go_roundw
        case rel => exact ⟨k + 1, by omega, by go_num, HRT, HBEL.out.alloc (by have := HBEL.out.size; have := HZ.out; omega) _⟩
        case measure => simp [intOf]; omega
    · obtain rfl : k = l.length := by omega
      have HFIN := Bx.mk hBw
      have HRF := Bx.mk (show R = false by rw [HR.out, hany.out, List.drop_length]; rfl)
      clear hany hBw hbel hsz
      go_wp2
      go_ret
      exact ⟨by rw [HRF.out]; rfl, HFIN.out⟩

set_option maxRecDepth 10000 in
set_option maxHeartbeats 1000000 in
theorem rhas_any (w : World) (v : Value) (l : List Attr) (a : Attr) (hv : Rd w encA v l) (hl : l.length ≤ 1000000) (hs : ∀ x ∈ l, x.val.length ≤ 1000000) (ha : a.val.length ≤ 1000000) :
    Calls Try.prog 92 #[v, attrV a] w fun e w' => e = .returned (.bool (l.any fun x => amatch x a)) ∧ Below w.heap.size w w' := by
  obtain ⟨R, hR⟩ : ∃ R, R = l.any fun x => amatch x a := ⟨_, rfl⟩
  rw [← hR]
  have HR := Bx.mk hR
  obtain ⟨ad, c, rfl, -⟩ := hv.form
  have HCELL := Bx.mk (show ∀ (W : World), Below w.heap.size w W → ∀ k (hk : k < l.length), ∃ b o, ad = some ⟨b, o, none⟩ ∧ W.cell? ⟨b, o + k * 3, none⟩ = some (.string (bstr (l[k]).ty)) ∧ W.cell? ⟨b, o + k * 3 + 1, none⟩ = some (.int .i64 (l[k]).k) ∧ W.cell? ⟨b, o + k * 3 + 2, none⟩ = some (.string (bstr (l[k]).val)) from fun W hW k hk => by
    obtain ⟨b, o, c, hv', _, hlt, hc⟩ := hv.cells encA_ok (by omega)
    simp only [Value.slice.injEq] at hv'
    have q := hc W (fun k' hk' => hW.block k' (hv.lt k' hk')) k hk
    exact ⟨b, o, hv'.1, q 0 _ (by omega) rfl, q 1 _ (by omega) rfl, q 2 _ (by omega) rfl⟩)
  have HS := Bx.mk (show ∀ k (h : k < l.length), (l[k]).val.length ≤ 1000000 from fun k h => hs _ (List.getElem_mem h))
  have HA := Bx.mk ha
  clear hv hs hR ha
  unfold attrV
  obtain ⟨W0, hW0⟩ : ∃ W0, W0 = w.alloc (.cells #[.string (bstr a.ty), .int .i64 a.k, .string (bstr a.val)] 69) := ⟨_, rfl⟩
  have HBW0 := Bx.mk (show Below w.heap.size w W0 by rw [hW0]; exact (Below.refl _ _).alloc (Nat.le_refl _) _)
  have HP := Bx.mk (show ∀ W, Below (w.heap.size + 1) W0 W → W.cell? ⟨w.heap.size, 0, none⟩ = some (.string (bstr a.ty)) ∧ W.cell? ⟨w.heap.size, 1, none⟩ = some (.int .i64 a.k) ∧ W.cell? ⟨w.heap.size, 2, none⟩ = some (.string (bstr a.val)) from fun W hW => by
    subst hW0
    refine ⟨?_, ?_, ?_⟩ <;> (rw [hW.cell (by simp), World.cell?_alloc_at _ _ _ _ rfl]; rfl))
  have HZ := Bx.mk (show W0.heap.size = w.heap.size + 1 by rw [hW0]; simp)
  go_enter Try.func92, Try.ntmps92
  go_wp2
  rw [← hW0]
  clear hW0
  go_loopw [9] (fun i wr => ∃ k : Nat, k ≤ l.length ∧ i = .int .i64 k ∧ Bx (l.any (fun x => amatch x a) = (l.drop k).any (fun x => amatch x a)) ∧ Below (w.heap.size + 1) W0 wr) (fun i _ => l.length - (intOf i).toNat)
  case atStart => exact ⟨0, by omega, rfl, ⟨by rw [List.drop_zero]⟩, Below.refl _ _⟩
  case round =>
    obtain ⟨k, hk, rfl, hany, hbel⟩ := hrel
    have hBw : Below w.heap.size w wr := HBW0.out.trans (hbel.mono (by omega))
    have hsz : w.heap.size < wr.heap.size := by have := hbel.size; have := HZ.out; omega
    have HBEL := Bx.mk hbel
    by_cases hlt : k < l.length
    · obtain ⟨b, o, rfl, c0, c1, c2⟩ := HCELL.out wr hBw k hlt
      obtain ⟨q0, q1, q2⟩ := HP.out wr hbel
      have HBw := Bx.mk hBw
      have hst : l.drop k = l[k] :: l.drop (k + 1) := List.drop_eq_getElem_cons hlt
      rw [hst, List.any_cons] at hany
      have hm := fun W => rtmatch_any W (l[k]).val a.val (HS.out k hlt) HA.out
      have hty := bstr_beq (l[k]).ty a.ty
      have ham : amatch l[k] a = (decide ((l[k]).ty = a.ty) && sameT (l[k]).val a.val) := by rw [amatch]
      rw [ham] at hany
      have hany2 := HR.out.trans hany.out
      clear hst ham hBw hbel
      have HB2 := Bx.mk (show ∀ (o : Obj) W, Below (wr.alloc o).heap.size (wr.alloc o) W → Below (w.heap.size + 1) W0 W from fun o W h => (HBEL.out.alloc (by omega) o).trans (h.mono (by simp; omega)))
      have HB3 := Bx.mk (show ∀ W, Below (w.heap.size + 1) W0 W → Below w.heap.size w W from fun W h => HBW0.out.trans (h.mono (by omega)))
      by_cases ht : (l[k]).ty = a.ty
      · rw [decide_eq_true ht] at hty hany2 hany
        simp only [Bool.true_and] at hany2 hany
        have HAN := Bx.mk hany.out
        have HAN2 := Bx.mk hany2
        clear hany hany2 ht
        generalize bstr (l[k]).ty = X0 at *
        generalize bstr (l[k]).val = X2 at *
        generalize (l[k]).k = X1 at *
        generalize bstr a.ty = Y0 at *
        generalize bstr a.val = Y2 at *
        generalize a.k = Y1 at *
        cases hq : sameT (l[k]).val a.val with
        | true =>
          rw [hq] at hm HAN HAN2
          have HRT := Bx.mk (show R = true by rw [HAN2.out]; rfl)
          clear hq HAN HAN2
          go_wp2_with (go_at_call 100; refine (hm _).mono ?_; rintro e w2 ⟨rfl, hb2⟩)
          have HFIN := Bx.mk (HB3.out _ (HB2.out _ _ hb2))
          go_ret
          exact ⟨by rw [HRT.out]; rfl, HFIN.out⟩
        | false =>
          rw [hq] at hm HAN HAN2
          have HRT := Bx.mk (show l.any (fun x => amatch x a) = (l.drop (k + 1)).any (fun x => amatch x a) by rw [HAN.out, Bool.false_or])
          clear hq HAN HAN2
          go_wp2_with (go_at_call 100; refine (hm _).mono ?_; rintro e w2 ⟨rfl, hb2⟩)
          have HFIN := Bx.mk (HB2.out _ _ hb2)
          go_roundw
          case rel => exact ⟨k + 1, by omega, by go_num, HRT, HFIN.out⟩
          case measure => simp [intOf]; omega
      · rw [decide_eq_false ht] at hty hany2 hany
        have HRT := Bx.mk (show l.any (fun x => amatch x a) = (l.drop (k + 1)).any (fun x => amatch x a) by rw [hany.out, Bool.false_and, Bool.false_or])
        clear hany hany2 ht hm
        generalize bstr (l[k]).ty = X0 at *
        generalize bstr (l[k]).val = X2 at *
        generalize (l[k]).k = X1 at *
        generalize bstr a.ty = Y0 at *
        generalize bstr a.val = Y2 at *
        generalize a.k = Y1 at *
        go_wp2
        go_roundw
        case rel => exact ⟨k + 1, by omega, by go_num, HRT, HBEL.out.alloc (by have := HBEL.out.size; have := HZ.out; omega) _⟩
        case measure => simp [intOf]; omega
    · obtain rfl : k = l.length := by omega
      have HFIN := Bx.mk hBw
      have HRF := Bx.mk (show R = false by rw [HR.out, hany.out, List.drop_length]; rfl)
      clear hany hBw hbel hsz
      go_wp2
      go_ret
      exact ⟨by rw [HRF.out]; rfl, HFIN.out⟩

set_option maxRecDepth 10000 in
set_option maxHeartbeats 1000000 in
theorem psame_any (w : World) (va vb : Value) (x y : Attr) (ha : Rd w encA va [x]) (hb : Rd w encA vb [y]) (hx : x.val.length ≤ 1000000) (hy : y.val.length ≤ 1000000) :
    Calls Try.prog 98 #[va, vb] w fun e w' => e = .returned (.bool (amatch x y)) ∧ Below w.heap.size w w' := by
  have h1 := Bx.mk (fun W (hW : Below w.heap.size w W) => phas_any W vb [y] x (hb.below hW) (by simp) (by simpa using hy) hx)
  have h2 := Bx.mk (fun W (hW : Below w.heap.size w W) => phas_any W va [x] y (ha.below hW) (by simp) (by simpa using hx) hy)
  have e1 : ([y].any fun z => amatch z x) = amatch x y := by rw [amatch_comm]; simp
  have e2 : ([x].any fun z => amatch z y) = amatch x y := by simp
  simp only [e1, e2] at h1 h2
  clear e1 e2
  obtain ⟨b0, o0, c0, hva, -, hlt0, hc0⟩ := ha.cells encA_ok (by simp)
  obtain ⟨b1, o1, c1, hvb, -, hlt1, hc1⟩ := hb.cells encA_ok (by simp)
  have f0 := hc0 w (fun k hk => rfl) 0 (by simp) 0 _ (by omega) rfl
  have f1 := hc0 w (fun k hk => rfl) 0 (by simp) 1 _ (by omega) rfl
  have f2 := hc0 w (fun k hk => rfl) 0 (by simp) 2 _ (by omega) rfl
  have g0 := hc1 w (fun k hk => rfl) 0 (by simp) 0 _ (by omega) rfl
  have g1 := hc1 w (fun k hk => rfl) 0 (by simp) 1 _ (by omega) rfl
  have g2 := hc1 w (fun k hk => rfl) 0 (by simp) 2 _ (by omega) rfl
  simp only [Nat.zero_mul, Nat.zero_add, Nat.add_zero, List.getElem_cons_zero] at f0 f1 f2 g0 g1 g2
  have HG := Bx.mk (show ∀ W, Below w.heap.size w W → W.cell? ⟨b1, o1, none⟩ = some (.string (bstr y.ty)) ∧ W.cell? ⟨b1, o1 + 1, none⟩ = some (.int .i64 y.k) ∧ W.cell? ⟨b1, o1 + 2, none⟩ = some (.string (bstr y.val)) from fun W hW => ⟨(hW.cell (p := ⟨b1, o1, none⟩) hlt1).trans g0, (hW.cell (p := ⟨b1, o1 + 1, none⟩) hlt1).trans g1, (hW.cell (p := ⟨b1, o1 + 2, none⟩) hlt1).trans g2⟩)
  change va = .slice _ 1 c0 at hva
  change vb = .slice _ 1 c1 at hvb
  subst hva hvb
  unfold attrV at h1 h2
  clear hc0 hc1 ha hb hx hy hlt0 hlt1 g0 g1 g2
  generalize bstr x.ty = X0 at *
  generalize bstr x.val = X2 at *
  generalize x.k = X1 at *
  generalize bstr y.ty = Y0 at *
  generalize bstr y.val = Y2 at *
  generalize y.k = Y1 at *
  generalize amatch x y = R at *
  go_enter Try.func98, Try.ntmps98
  go_wp2
  go_loopw [13] (fun i wr => (i = .int .i64 0 ∧ w = wr) ∨ (i = .int .i64 1 ∧ R = true ∧ Below w.heap.size w wr)) (fun i _ => 1 - (intOf i).toNat)
  case atStart => exact .inl ⟨rfl, rfl⟩
  case round =>
    rcases hrel with ⟨rfl, rfl⟩ | ⟨rfl, rfl, hbel⟩
    · cases R with
      | true =>
        go_wp2_with fail
        go_at_call 102
        refine (h1.out _ (Below.refl _ _)).mono ?_
        rintro e w1 ⟨rfl, hb1⟩
        obtain ⟨g0, g1, g2⟩ := HG.out w1 hb1
        have HB1 := Bx.mk hb1
        have h3 := h2.out w1 hb1
        clear hb1 h1 h2 f0 f1 f2 HG
        go_wp2_with fail
        go_at_call 102
        refine h3.mono ?_
        rintro e w2 ⟨rfl, hb2⟩
        have HB2 := Bx.mk (HB1.out.trans (hb2.mono HB1.out.size))
        clear hb2 h3
        go_wp2
        go_roundw
        case rel => exact .inr ⟨rfl, by trivial, HB2.out⟩
        case measure => simp [intOf]
      | false =>
        go_wp2_with fail
        go_at_call 102
        refine (h1.out _ (Below.refl _ _)).mono ?_
        rintro e w1 ⟨rfl, hb1⟩
        have HB1 := Bx.mk hb1
        clear hb1 h1 h2 f0 f1 f2 HG
        go_wp2
        go_ret
        exact ⟨rfl, HB1.out⟩
    · have HB1 := Bx.mk hbel
      clear hbel h1 h2 f0 f1 f2 HG
      go_wp2
      go_ret
      exact ⟨rfl, HB1.out⟩

set_option maxRecDepth 10000 in
set_option maxHeartbeats 1000000 in
theorem rsame_any (w : World) (va vb : Value) (x y : Attr) (ha : Rd w encA va [x]) (hb : Rd w encA vb [y]) (hx : x.val.length ≤ 1000000) (hy : y.val.length ≤ 1000000) :
    Calls Try.prog 76 #[va, vb] w fun e w' => e = .returned (.bool (amatch x y)) ∧ Below w.heap.size w w' := by
  have h1 := Bx.mk (fun W (hW : Below w.heap.size w W) => rhas_any W vb [y] x (hb.below hW) (by simp) (by simpa using hy) hx)
  have h2 := Bx.mk (fun W (hW : Below w.heap.size w W) => rhas_any W va [x] y (ha.below hW) (by simp) (by simpa using hx) hy)
  have e1 : ([y].any fun z => amatch z x) = amatch x y := by rw [amatch_comm]; simp
  have e2 : ([x].any fun z => amatch z y) = amatch x y := by simp
  simp only [e1, e2] at h1 h2
  clear e1 e2
  obtain ⟨b0, o0, c0, hva, -, hlt0, hc0⟩ := ha.cells encA_ok (by simp)
  obtain ⟨b1, o1, c1, hvb, -, hlt1, hc1⟩ := hb.cells encA_ok (by simp)
  have f0 := hc0 w (fun k hk => rfl) 0 (by simp) 0 _ (by omega) rfl
  have f1 := hc0 w (fun k hk => rfl) 0 (by simp) 1 _ (by omega) rfl
  have f2 := hc0 w (fun k hk => rfl) 0 (by simp) 2 _ (by omega) rfl
  have g0 := hc1 w (fun k hk => rfl) 0 (by simp) 0 _ (by omega) rfl
  have g1 := hc1 w (fun k hk => rfl) 0 (by simp) 1 _ (by omega) rfl
  have g2 := hc1 w (fun k hk => rfl) 0 (by simp) 2 _ (by omega) rfl
  simp only [Nat.zero_mul, Nat.zero_add, Nat.add_zero, List.getElem_cons_zero] at f0 f1 f2 g0 g1 g2
  have HG := Bx.mk (show ∀ W, Below w.heap.size w W → W.cell? ⟨b1, o1, none⟩ = some (.string (bstr y.ty)) ∧ W.cell? ⟨b1, o1 + 1, none⟩ = some (.int .i64 y.k) ∧ W.cell? ⟨b1, o1 + 2, none⟩ = some (.string (bstr y.val)) from fun W hW => ⟨(hW.cell (p := ⟨b1, o1, none⟩) hlt1).trans g0, (hW.cell (p := ⟨b1, o1 + 1, none⟩) hlt1).trans g1, (hW.cell (p := ⟨b1, o1 + 2, none⟩) hlt1).trans g2⟩)
  change va = .slice _ 1 c0 at hva
  change vb = .slice _ 1 c1 at hvb
  subst hva hvb
  unfold attrV at h1 h2
  clear hc0 hc1 ha hb hx hy hlt0 hlt1 g0 g1 g2
  generalize bstr x.ty = X0 at *
  generalize bstr x.val = X2 at *
  generalize x.k = X1 at *
  generalize bstr y.ty = Y0 at *
  generalize bstr y.val = Y2 at *
  generalize y.k = Y1 at *
  generalize amatch x y = R at *
  go_enter Try.func76, Try.ntmps76
  go_wp2
  go_loopw [13] (fun i wr => (i = .int .i64 0 ∧ w = wr) ∨ (i = .int .i64 1 ∧ R = true ∧ Below w.heap.size w wr)) (fun i _ => 1 - (intOf i).toNat)
  case atStart => exact .inl ⟨rfl, rfl⟩
  case round =>
    rcases hrel with ⟨rfl, rfl⟩ | ⟨rfl, rfl, hbel⟩
    · cases R with
      | true =>
        go_wp2_with fail
        go_at_call 92
        refine (h1.out _ (Below.refl _ _)).mono ?_
        rintro e w1 ⟨rfl, hb1⟩
        obtain ⟨g0, g1, g2⟩ := HG.out w1 hb1
        have HB1 := Bx.mk hb1
        have h3 := h2.out w1 hb1
        clear hb1 h1 h2 f0 f1 f2 HG
        go_wp2_with fail
        go_at_call 92
        refine h3.mono ?_
        rintro e w2 ⟨rfl, hb2⟩
        have HB2 := Bx.mk (HB1.out.trans (hb2.mono HB1.out.size))
        clear hb2 h3
        go_wp2
        go_roundw
        case rel => exact .inr ⟨rfl, by trivial, HB2.out⟩
        case measure => simp [intOf]
      | false =>
        go_wp2_with fail
        go_at_call 92
        refine (h1.out _ (Below.refl _ _)).mono ?_
        rintro e w1 ⟨rfl, hb1⟩
        have HB1 := Bx.mk hb1
        clear hb1 h1 h2 f0 f1 f2 HG
        go_wp2
        go_ret
        exact ⟨rfl, HB1.out⟩
    · have HB1 := Bx.mk hbel
      clear hbel h1 h2 f0 f1 f2 HG
      go_wp2
      go_ret
      exact ⟨rfl, HB1.out⟩
end Go.Proofs.Ytpagoinnkknkfaa.Pb

namespace Go.Proofs.Ytpagoinnkknkfaa.Pb
open Go Go.RowKit Go.Proofs.Ytpagoinnkknkfaa.Slc
set_option linter.unusedVariables false
set_option linter.unusedSimpArgs false

theorem cell_alloc_one (w : World) (v : Value) (t : TypeId) : (w.alloc (.cells #[v] t)).cell? ⟨w.heap.size, 0, none⟩ = some v := by rw [World.cell?_alloc_at _ _ _ _ rfl]; rfl

set_option maxRecDepth 10000 in
set_option maxHeartbeats 1000000 in
theorem pwithin_any (w : World) (v1 v2 : Value) (n m : Nm) (h1 : NameAt w v1 n) (h2 : NameAt w v2 m) (hl : n.length = m.length) (hn : n.Ok) (hm : m.Ok) :
    Calls Try.prog 88 #[.agg #[v1], .agg #[v2]] w fun e w' => e = .returned (.bool (nmatch n m)) ∧ Below w.heap.size w w' := by
  obtain ⟨R, hR⟩ : ∃ R, R = nmatch n m := ⟨_, rfl⟩
  rw [← hR]
  have HR := Bx.mk hR
  have H1 := Bx.mk h1
  have H2 := Bx.mk h2
  obtain ⟨vs1, hr1, hl1, hx1⟩ := h1
  obtain ⟨vs2, hr2, hl2, hx2⟩ := h2
  obtain ⟨ad1, c1, rfl, -⟩ := hr1.form
  obtain ⟨ad2, c2, rfl, -⟩ := hr2.form
  obtain ⟨L, hL⟩ : ∃ L, L = n.length := ⟨_, rfl⟩
  have HLN := Bx.mk hL
  have HLM := Bx.mk (hL.trans hl)
  clear hL hl
  have HC1 := Bx.mk (show ∀ (W : World), Below w.heap.size w W → ∀ k (hk : k < L), ∃ b o, ∃ u : Sl, ad1 = some ⟨b, o, none⟩ ∧ W.cell? ⟨b, o + k, none⟩ = some u.val ∧ b < w.heap.size ∧ Rd W encA u.val [n[k]'(by have := HLN.out; omega)] from fun W hW k hk => by
    obtain ⟨b, o, c, hv', _, hlt, hc⟩ := hr1.cells encV1_ok (by have := HLN.out; omega)
    simp only [Value.slice.injEq] at hv'
    have q := hc W (fun k' hk' => hW.block k' (hr1.lt k' hk')) k (by have := HLN.out; omega) 0 _ (by omega) rfl
    rw [Nat.mul_one, Nat.add_zero] at q
    exact ⟨b, o, _, hv'.1, q, hlt, (hx1 k (by have := HLN.out; omega)).below hW⟩)
  have HC2 := Bx.mk (show ∀ (W : World), Below w.heap.size w W → ∀ k (hk : k < L), ∃ b o, ∃ u : Sl, ad2 = some ⟨b, o, none⟩ ∧ W.cell? ⟨b, o + k, none⟩ = some u.val ∧ b < w.heap.size ∧ Rd W encA u.val [m[k]'(by have := HLM.out; omega)] from fun W hW k hk => by
    obtain ⟨b, o, c, hv', _, hlt, hc⟩ := hr2.cells encV1_ok (by have := HLM.out; omega)
    simp only [Value.slice.injEq] at hv'
    have q := hc W (fun k' hk' => hW.block k' (hr2.lt k' hk')) k (by have := HLM.out; omega) 0 _ (by omega) rfl
    rw [Nat.mul_one, Nat.add_zero] at q
    exact ⟨b, o, _, hv'.1, q, hlt, (hx2 k (by have := HLM.out; omega)).below hW⟩)
  have HS1 := Bx.mk (show ∀ k (h : k < L), (n[k]'(by have := HLN.out; omega)).val.length ≤ 1000000 from fun k h => hn.2 _ (List.getElem_mem _))
  have HS2 := Bx.mk (show ∀ k (h : k < L), (m[k]'(by have := HLM.out; omega)).val.length ≤ 1000000 from fun k h => hm.2 _ (List.getElem_mem _))
  have hLb : L ≤ 1000 := by rw [HLN.out]; exact hn.1
  have e1 : vs1.length = L := by have := HLN.out; omega
  have e2 : vs2.length = L := by have := HLM.out; omega
  rw [e1, e2]
  have hlt1 := hr1.lt
  have hlt2 := hr2.lt
  rw [e1] at hlt1
  rw [e2] at hlt2
  clear hr1 hr2 hl1 hl2 hx1 hx2 hn hm hR e1 e2 H1 H2
  obtain ⟨W0, hW0⟩ : ∃ W0, W0 = (w.alloc (.cells #[.slice ad1 L c1] 36)).alloc (.cells #[.slice ad2 L c2] 36) := ⟨_, rfl⟩
  have HBW0 := Bx.mk (show Below w.heap.size w W0 by rw [hW0]; exact ((Below.refl _ _).alloc (Nat.le_refl _) _).alloc (by simp) _)
  have HP := Bx.mk (show ∀ W, Below (w.heap.size + 2) W0 W → W.cell? ⟨w.heap.size, 0, none⟩ = some (.slice ad1 L c1) ∧ W.cell? ⟨w.heap.size + 1, 0, none⟩ = some (.slice ad2 L c2) from fun W hW => by
    subst hW0
    refine ⟨?_, ?_⟩
    · rw [hW.cell (by simp), World.cell?_alloc_past _ _ _ (by simp), World.cell?_alloc_at _ _ _ _ rfl]; rfl
    · rw [hW.cell (by simp), World.cell?_alloc_at _ _ _ _ (by simp)]; rfl)
  have HZ := Bx.mk (show W0.heap.size = w.heap.size + 2 by rw [hW0]; simp)
  clear hlt1 hlt2
  go_enter Try.func88, Try.ntmps88
  go_wp2
  rw [← hW0]
  clear hW0
  go_loopw [16] (fun i wr => ∃ k : Nat, k ≤ L ∧ i = .int .i64 k ∧ Bx ((n.take k).map attrK = (m.take k).map attrK) ∧ Below (w.heap.size + 2) W0 wr) (fun i _ => L - (intOf i).toNat)
  case atStart => exact ⟨0, by omega, rfl, ⟨by simp⟩, Below.refl _ _⟩
  case round =>
    obtain ⟨k, hk, rfl, hall, hbel⟩ := hrel
    have hBw : Below w.heap.size w wr := HBW0.out.trans (hbel.mono (by omega))
    have hsz : w.heap.size + 1 < wr.heap.size := by have := hbel.size; have := HZ.out; omega
    have HBEL := Bx.mk hbel
    have HBw := Bx.mk hBw
    by_cases hlt : k < L
    · obtain ⟨b1, o1, u1, rfl, q1, hb1, r1⟩ := HC1.out wr hBw k hlt
      obtain ⟨b2, o2, u2, rfl, q2, hb2, r2⟩ := HC2.out wr hBw k hlt
      obtain ⟨p1, p2⟩ := HP.out wr hbel
      have z1 : b1 < wr.heap.size := by have := hBw.size; omega
      have z2 : b2 < wr.heap.size := by have := hBw.size; omega
      have hC := Bx.mk (fun (e : Ext wr) => psame_any e.out u1.val u2.val _ _ (r1.below e.bel) (r2.below e.bel) (HS1.out k hlt) (HS2.out k hlt))
      have E1 : ∀ e : Ext wr, e.out.cell? ⟨b1, o1 + k, none⟩ = some u1.val := fun e => (e.cell z1).trans q1
      have E2 : ∀ e : Ext wr, e.out.cell? ⟨b2, o2 + k, none⟩ = some u2.val := fun e => (e.cell z2).trans q2
      have E3 : ∀ e : Ext wr, e.out.cell? ⟨w.heap.size, 0, none⟩ = some (.slice (some ⟨b1, o1, none⟩) L c1) := fun e => (e.cell (by omega)).trans p1
      have E4 : ∀ e : Ext wr, e.out.cell? ⟨w.heap.size + 1, 0, none⟩ = some (.slice (some ⟨b2, o2, none⟩) L c2) := fun e => (e.cell (by omega)).trans p2
      have HNX := Bx.mk (show amatch (n[k]'(by have := HLN.out; omega)) (m[k]'(by have := HLM.out; omega)) = true → (n.take (k + 1)).map attrK = (m.take (k + 1)).map attrK from fun h => by
        rw [amatch_key, decide_eq_true_eq] at h
        rw [List.take_succ_eq_append_getElem (by have := HLN.out; omega), List.take_succ_eq_append_getElem (by have := HLM.out; omega), List.map_append, List.map_append, hall.out, List.map_singleton, List.map_singleton, h])
      have HNO := Bx.mk (show amatch (n[k]'(by have := HLN.out; omega)) (m[k]'(by have := HLM.out; omega)) = false → R = false from fun h => by
        rw [amatch_key, decide_eq_false_iff_not] at h
        rw [HR.out, nmatch, decide_eq_false_iff_not]
        intro q
        apply h
        have := congrArg (fun (l : List (B × B)) => l[k]?) q
        simp only [List.getElem?_map] at this
        rw [List.getElem?_eq_getElem (by have := HLN.out; omega), List.getElem?_eq_getElem (by have := HLM.out; omega)] at this
        simpa using this)
      generalize hrr : amatch (n[k]'(by have := HLN.out; omega)) (m[k]'(by have := HLM.out; omega)) = r at *
      clear hrr q1 q2 p1 p2 r1 r2 z1 z2 hb1 hb2 hall hbel hBw hsz
      have hk0 : (k : Int) < L := by omega
      go_wp2_with fail
      generalize u1.val = U1 at *
      generalize u2.val = U2 at *
      generalize hwr : wr = wr0 at *
      refine wp_region_self (by kernel_rfl) (by kernel_rfl) ?_
      repeat (go_big_quiet_step (fail))
      go_big_quiet_step ((go_at_call 98; exact ext_of (hC.out _)))
      repeat (go_big_quiet_step (fail))
      refine wpQuiet_nil ?_
      rintro _ ⟨e1, rfl⟩
      have HB1 := Bx.mk (HBw.out.trans (e1.bel.mono HBw.out.size))
      have HB2 := Bx.mk (HBEL.out.trans (e1.bel.mono (by have := HBEL.out.size; have := HZ.out; omega)))
      clear E1 E2 E3 E4 hC
      generalize e1.out = w2 at *
      cases r with
      | true =>
        go_wp2
        go_roundw
        case rel => exact ⟨k + 1, by omega, by go_num, ⟨HNX.out rfl⟩, HB2.out⟩
        case measure => simp [intOf]; omega
      | false =>
        have HRF := Bx.mk (HNO.out rfl)
        go_wp2
        go_ret
        exact ⟨by rw [HRF.out]; rfl, HB1.out⟩
    · obtain rfl : k = L := by omega
      have HFIN := Bx.mk hBw
      have HRF := Bx.mk (show R = true by
        have := hall.out
        rw [List.take_of_length_le (by have := HLN.out; omega), List.take_of_length_le (by have := HLM.out; omega)] at this
        rw [HR.out, nmatch, this]; simp)
      clear hall hBw hbel hsz
      go_wp2
      go_ret
      exact ⟨by rw [HRF.out]; rfl, HFIN.out⟩

set_option maxRecDepth 10000 in
set_option maxHeartbeats 1000000 in
theorem rwithin_any (w : World) (v1 v2 : Value) (n m : Nm) (h1 : NameAt w v1 n) (h2 : NameAt w v2 m) (hl : n.length = m.length) (hn : n.Ok) (hm : m.Ok) :
    Calls Try.prog 67 #[.agg #[v1], .agg #[v2]] w fun e w' => e = .returned (.bool (nmatch n m)) ∧ Below w.heap.size w w' := by
  obtain ⟨R, hR⟩ : ∃ R, R = nmatch n m := ⟨_, rfl⟩
  rw [← hR]
  have HR := Bx.mk hR
  have H1 := Bx.mk h1
  have H2 := Bx.mk h2
  obtain ⟨vs1, hr1, hl1, hx1⟩ := h1
  obtain ⟨vs2, hr2, hl2, hx2⟩ := h2
  obtain ⟨ad1, c1, rfl, -⟩ := hr1.form
  obtain ⟨ad2, c2, rfl, -⟩ := hr2.form
  obtain ⟨L, hL⟩ : ∃ L, L = n.length := ⟨_, rfl⟩
  have HLN := Bx.mk hL
  have HLM := Bx.mk (hL.trans hl)
  clear hL hl
  have HC1 := Bx.mk (show ∀ (W : World), Below w.heap.size w W → ∀ k (hk : k < L), ∃ b o, ∃ u : Sl, ad1 = some ⟨b, o, none⟩ ∧ W.cell? ⟨b, o + k, none⟩ = some u.val ∧ b < w.heap.size ∧ Rd W encA u.val [n[k]'(by have := HLN.out; omega)] from fun W hW k hk => by
    obtain ⟨b, o, c, hv', _, hlt, hc⟩ := hr1.cells encV1_ok (by have := HLN.out; omega)
    simp only [Value.slice.injEq] at hv'
    have q := hc W (fun k' hk' => hW.block k' (hr1.lt k' hk')) k (by have := HLN.out; omega) 0 _ (by omega) rfl
    rw [Nat.mul_one, Nat.add_zero] at q
    exact ⟨b, o, _, hv'.1, q, hlt, (hx1 k (by have := HLN.out; omega)).below hW⟩)
  have HC2 := Bx.mk (show ∀ (W : World), Below w.heap.size w W → ∀ k (hk : k < L), ∃ b o, ∃ u : Sl, ad2 = some ⟨b, o, none⟩ ∧ W.cell? ⟨b, o + k, none⟩ = some u.val ∧ b < w.heap.size ∧ Rd W encA u.val [m[k]'(by have := HLM.out; omega)] from fun W hW k hk => by
    obtain ⟨b, o, c, hv', _, hlt, hc⟩ := hr2.cells encV1_ok (by have := HLM.out; omega)
    simp only [Value.slice.injEq] at hv'
    have q := hc W (fun k' hk' => hW.block k' (hr2.lt k' hk')) k (by have := HLM.out; omega) 0 _ (by omega) rfl
    rw [Nat.mul_one, Nat.add_zero] at q
    exact ⟨b, o, _, hv'.1, q, hlt, (hx2 k (by have := HLM.out; omega)).below hW⟩)
  have HS1 := Bx.mk (show ∀ k (h : k < L), (n[k]'(by have := HLN.out; omega)).val.length ≤ 1000000 from fun k h => hn.2 _ (List.getElem_mem _))
  have HS2 := Bx.mk (show ∀ k (h : k < L), (m[k]'(by have := HLM.out; omega)).val.length ≤ 1000000 from fun k h => hm.2 _ (List.getElem_mem _))
  have hLb : L ≤ 1000 := by rw [HLN.out]; exact hn.1
  have e1 : vs1.length = L := by have := HLN.out; omega
  have e2 : vs2.length = L := by have := HLM.out; omega
  rw [e1, e2]
  have hlt1 := hr1.lt
  have hlt2 := hr2.lt
  rw [e1] at hlt1
  rw [e2] at hlt2
  clear hr1 hr2 hl1 hl2 hx1 hx2 hn hm hR e1 e2 H1 H2
  obtain ⟨W0, hW0⟩ : ∃ W0, W0 = (w.alloc (.cells #[.slice ad1 L c1] 36)).alloc (.cells #[.slice ad2 L c2] 36) := ⟨_, rfl⟩
  have HBW0 := Bx.mk (show Below w.heap.size w W0 by rw [hW0]; exact ((Below.refl _ _).alloc (Nat.le_refl _) _).alloc (by simp) _)
  have HP := Bx.mk (show ∀ W, Below (w.heap.size + 2) W0 W → W.cell? ⟨w.heap.size, 0, none⟩ = some (.slice ad1 L c1) ∧ W.cell? ⟨w.heap.size + 1, 0, none⟩ = some (.slice ad2 L c2) from fun W hW => by
    subst hW0
    refine ⟨?_, ?_⟩
    · rw [hW.cell (by simp), World.cell?_alloc_past _ _ _ (by simp), World.cell?_alloc_at _ _ _ _ rfl]; rfl
    · rw [hW.cell (by simp), World.cell?_alloc_at _ _ _ _ (by simp)]; rfl)
  have HZ := Bx.mk (show W0.heap.size = w.heap.size + 2 by rw [hW0]; simp)
  clear hlt1 hlt2
  go_enter Try.func67, Try.ntmps67
  go_wp2
  rw [← hW0]
  clear hW0
  go_loopw [16] (fun i wr => ∃ k : Nat, k ≤ L ∧ i = .int .i64 k ∧ Bx ((n.take k).map attrK = (m.take k).map attrK) ∧ Below (w.heap.size + 2) W0 wr) (fun i _ => L - (intOf i).toNat)
  case atStart => exact ⟨0, by omega, rfl, ⟨by simp⟩, Below.refl _ _⟩
  case round =>
    obtain ⟨k, hk, rfl, hall, hbel⟩ := hrel
    have hBw : Below w.heap.size w wr := HBW0.out.trans (hbel.mono (by omega))
    have hsz : w.heap.size + 1 < wr.heap.size := by have := hbel.size; have := HZ.out; omega
    have HBEL := Bx.mk hbel
    have HBw := Bx.mk hBw
    by_cases hlt : k < L
    · obtain ⟨b1, o1, u1, rfl, q1, hb1, r1⟩ := HC1.out wr hBw k hlt
      obtain ⟨b2, o2, u2, rfl, q2, hb2, r2⟩ := HC2.out wr hBw k hlt
      obtain ⟨p1, p2⟩ := HP.out wr hbel
      have z1 : b1 < wr.heap.size := by have := hBw.size; omega
      have z2 : b2 < wr.heap.size := by have := hBw.size; omega
      have hC := Bx.mk (fun (e : Ext wr) => rsame_any e.out u1.val u2.val _ _ (r1.below e.bel) (r2.below e.bel) (HS1.out k hlt) (HS2.out k hlt))
      have E1 : ∀ e : Ext wr, e.out.cell? ⟨b1, o1 + k, none⟩ = some u1.val := fun e => (e.cell z1).trans q1
      have E2 : ∀ e : Ext wr, e.out.cell? ⟨b2, o2 + k, none⟩ = some u2.val := fun e => (e.cell z2).trans q2
      have E3 : ∀ e : Ext wr, e.out.cell? ⟨w.heap.size, 0, none⟩ = some (.slice (some ⟨b1, o1, none⟩) L c1) := fun e => (e.cell (by omega)).trans p1
      have E4 : ∀ e : Ext wr, e.out.cell? ⟨w.heap.size + 1, 0, none⟩ = some (.slice (some ⟨b2, o2, none⟩) L c2) := fun e => (e.cell (by omega)).trans p2
      have HNX := Bx.mk (show amatch (n[k]'(by have := HLN.out; omega)) (m[k]'(by have := HLM.out; omega)) = true → (n.take (k + 1)).map attrK = (m.take (k + 1)).map attrK from fun h => by
        rw [amatch_key, decide_eq_true_eq] at h
        rw [List.take_succ_eq_append_getElem (by have := HLN.out; omega), List.take_succ_eq_append_getElem (by have := HLM.out; omega), List.map_append, List.map_append, hall.out, List.map_singleton, List.map_singleton, h])
      have HNO := Bx.mk (show amatch (n[k]'(by have := HLN.out; omega)) (m[k]'(by have := HLM.out; omega)) = false → R = false from fun h => by
        rw [amatch_key, decide_eq_false_iff_not] at h
        rw [HR.out, nmatch, decide_eq_false_iff_not]
        intro q
        apply h
        have := congrArg (fun (l : List (B × B)) => l[k]?) q
        simp only [List.getElem?_map] at this
        rw [List.getElem?_eq_getElem (by have := HLN.out; omega), List.getElem?_eq_getElem (by have := HLM.out; omega)] at this
        simpa using this)
      generalize hrr : amatch (n[k]'(by have := HLN.out; omega)) (m[k]'(by have := HLM.out; omega)) = r at *
      clear hrr q1 q2 p1 p2 r1 r2 z1 z2 hb1 hb2 hall hbel hBw hsz
      have hk0 : (k : Int) < L := by omega
      go_wp2_with fail
      generalize u1.val = U1 at *
      generalize u2.val = U2 at *
      generalize hwr : wr = wr0 at *
      refine wp_region_self (by kernel_rfl) (by kernel_rfl) ?_
      repeat (go_big_quiet_step (fail))
      go_big_quiet_step ((go_at_call 76; exact ext_of (hC.out _)))
      repeat (go_big_quiet_step (fail))
      refine wpQuiet_nil ?_
      rintro _ ⟨e1, rfl⟩
      have HB1 := Bx.mk (HBw.out.trans (e1.bel.mono HBw.out.size))
      have HB2 := Bx.mk (HBEL.out.trans (e1.bel.mono (by have := HBEL.out.size; have := HZ.out; omega)))
      clear E1 E2 E3 E4 hC
      generalize e1.out = w2 at *
      cases r with
      | true =>
        go_wp2
        go_roundw
        case rel => exact ⟨k + 1, by omega, by go_num, ⟨HNX.out rfl⟩, HB2.out⟩
        case measure => simp [intOf]; omega
      | false =>
        have HRF := Bx.mk (HNO.out rfl)
        go_wp2
        go_ret
        exact ⟨by rw [HRF.out]; rfl, HB1.out⟩
    · obtain rfl : k = L := by omega
      have HFIN := Bx.mk hBw
      have HRF := Bx.mk (show R = true by
        have := hall.out
        rw [List.take_of_length_le (by have := HLN.out; omega), List.take_of_length_le (by have := HLM.out; omega)] at this
        rw [HR.out, nmatch, this]; simp)
      clear hall hBw hbel hsz
      go_wp2
      go_ret
      exact ⟨by rw [HRF.out]; rfl, HFIN.out⟩

set_option maxRecDepth 10000 in
set_option maxHeartbeats 1000000 in
theorem pmatch_any (w : World) (v1 v2 : Value) (n m : Nm) (h1 : NameAt w v1 n) (h2 : NameAt w v2 m) (hn : n.Ok) (hm : m.Ok) :
    Calls Try.prog 71 #[.agg #[v1], .agg #[v2]] w fun e w' => e = .returned (.bool (nmatch n m)) ∧ Below w.heap.size w w' := by
  have H1 := Bx.mk h1
  have H2 := Bx.mk h2
  obtain ⟨vs1, hr1, hl1, hx1⟩ := h1
  obtain ⟨vs2, hr2, hl2, hx2⟩ := h2
  obtain ⟨ad1, c1, rfl, -⟩ := hr1.form
  obtain ⟨ad2, c2, rfl, -⟩ := hr2.form
  rw [hl1] at H1
  rw [hl2] at H2
  rw [hl1, hl2]
  have HBW := Bx.mk (show Below w.heap.size w ((w.alloc (.cells #[.slice ad1 n.length c1] 36)).alloc (.cells #[.slice ad2 m.length c2] 36)) from ((Below.refl _ _).alloc (Nat.le_refl _) _).alloc (by simp) _)
  have HC := Bx.mk (fun (hl : n.length = m.length) => pwithin_any _ _ _ n m (H1.out.below HBW.out) (H2.out.below HBW.out) hl hn hm)
  have b1 := hn.1
  have b2 := hm.1
  clear hr1 hr2 hx1 hx2 hl1 hl2 H1 H2 hn hm
  by_cases hl : n.length = m.length
  · have hc := HC.out hl
    have t0 : ((n.length : Int) == (m.length : Int)) = true := by simp [hl]
    generalize nmatch n m = R at *
    clear HC hl
    generalize n.length = L1 at *
    generalize m.length = L2 at *
    go_enter Try.func71, Try.ntmps71
    go_wp2_with (go_at_call 88; refine hc.mono ?_; rintro e w2 ⟨rfl, hb2⟩)
    have HFIN := Bx.mk (HBW.out.trans (hb2.mono HBW.out.size))
    clear hb2
    go_wp2
    go_ret
    exact ⟨rfl, HFIN.out⟩
  · have t0 : ((n.length : Int) == (m.length : Int)) = false := by simp; omega
    have hq : nmatch n m = false := by
      unfold nmatch
      rw [decide_eq_false_iff_not]
      intro q; apply hl
      have := congrArg List.length q
      simpa using this
    rw [hq]
    clear HC hl hq
    generalize n.length = L1 at *
    generalize m.length = L2 at *
    go_enter Try.func71, Try.ntmps71
    go_wp2
    go_ret
    exact ⟨rfl, HBW.out⟩

set_option maxRecDepth 10000 in
set_option maxHeartbeats 1000000 in
theorem rmatch_any (w : World) (v1 v2 : Value) (n m : Nm) (h1 : NameAt w v1 n) (h2 : NameAt w v2 m) (hn : n.Ok) (hm : m.Ok) :
    Calls Try.prog 54 #[.agg #[v1], .agg #[v2]] w fun e w' => e = .returned (.bool (nmatch n m)) ∧ Below w.heap.size w w' := by
  have H1 := Bx.mk h1
  have H2 := Bx.mk h2
  obtain ⟨vs1, hr1, hl1, hx1⟩ := h1
  obtain ⟨vs2, hr2, hl2, hx2⟩ := h2
  obtain ⟨ad1, c1, rfl, -⟩ := hr1.form
  obtain ⟨ad2, c2, rfl, -⟩ := hr2.form
  rw [hl1] at H1
  rw [hl2] at H2
  rw [hl1, hl2]
  have HBW := Bx.mk (show Below w.heap.size w ((w.alloc (.cells #[.slice ad1 n.length c1] 36)).alloc (.cells #[.slice ad2 m.length c2] 36)) from ((Below.refl _ _).alloc (Nat.le_refl _) _).alloc (by simp) _)
  have HC := Bx.mk (fun (hl : n.length = m.length) => rwithin_any _ _ _ n m (H1.out.below HBW.out) (H2.out.below HBW.out) hl hn hm)
  have b1 := hn.1
  have b2 := hm.1
  clear hr1 hr2 hx1 hx2 hl1 hl2 H1 H2 hn hm
  by_cases hl : n.length = m.length
  · have hc := HC.out hl
    have t0 : ((n.length : Int) == (m.length : Int)) = true := by simp [hl]
    generalize nmatch n m = R at *
    clear HC hl
    generalize n.length = L1 at *
    generalize m.length = L2 at *
    go_enter Try.func54, Try.ntmps54
    go_wp2_with (go_at_call 67; refine hc.mono ?_; rintro e w2 ⟨rfl, hb2⟩)
    have HFIN := Bx.mk (HBW.out.trans (hb2.mono HBW.out.size))
    clear hb2
    go_wp2
    go_ret
    exact ⟨rfl, HFIN.out⟩
  · have t0 : ((n.length : Int) == (m.length : Int)) = false := by simp; omega
    have hq : nmatch n m = false := by
      unfold nmatch
      rw [decide_eq_false_iff_not]
      intro q; apply hl
      have := congrArg List.length q
      simpa using this
    rw [hq]
    clear HC hl hq
    generalize n.length = L1 at *
    generalize m.length = L2 at *
    go_enter Try.func54, Try.ntmps54
    go_wp2
    go_ret
    exact ⟨rfl, HBW.out⟩
end Go.Proofs.Ytpagoinnkknkfaa.Pb

namespace Go.Proofs.Ytpagoinnkknkfaa.Pb
open Go Go.RowKit Go.Proofs.Ytpagoinnkknkfaa.Slc
set_option linter.unusedVariables false
set_option linter.unusedSimpArgs false

theorem about_eq (a b : En) : about a b = (decide (a.s = b.s) && nmatch a.iss b.iss) := by
  unfold about keyE nmatch; rw [Bool.eq_iff_iff]; simp
def encBox (x : Et) : Obj := .cells #[.int .i64 x.e.s, .int .i64 x.e.t, .int .i64 x.e.r, .int .i64 x.e.v, x.u.val] 44
theorem encBox_eq (x : Et) : encBox x = .cells (encE x).toArray 44 := rfl

set_option maxRecDepth 10000 in
set_option maxHeartbeats 1000000 in
theorem psameE_any (w : World) (x y : Et) (hx : EtAt w x) (hy : EtAt w y) :
    Calls Try.prog 61 #[entV x, entV y] w fun e w' => e = .returned (.bool (about x.e y.e)) ∧ Below w.heap.size w w' := by
  have hab := about_eq x.e y.e
  have HBW := Bx.mk (show Below w.heap.size w ((w.alloc (encBox x)).alloc (encBox y)) from ((Below.refl _ _).alloc (Nat.le_refl _) _).alloc (by simp) _)
  have hc := pmatch_any ((w.alloc (encBox x)).alloc (encBox y)) x.u.val y.u.val x.e.iss y.e.iss (hx.1.below HBW.out) (hy.1.below HBW.out) hx.2 hy.2
  unfold encBox at hc HBW
  unfold entV
  clear hx hy
  generalize x.u.val = U1 at *
  generalize y.u.val = U2 at *
  generalize x.e.s = S1 at *
  generalize y.e.s = S2 at *
  generalize x.e.t = T1 at *
  generalize y.e.t = T2 at *
  generalize x.e.r = R1 at *
  generalize y.e.r = R2 at *
  generalize x.e.v = V1 at *
  generalize y.e.v = V2 at *
  generalize about x.e y.e = Q at *
  by_cases h : S1 = S2
  · rw [decide_eq_true h, Bool.true_and] at hab
    rw [← hab] at hc
    have t0 : (S1 == S2) = true := by simpa using h
    clear hab h
    go_enter Try.func61, Try.ntmps61
    go_wp2_with (go_at_call 71; refine hc.mono ?_; rintro e w2 ⟨rfl, hb2⟩)
    have HFIN := Bx.mk (HBW.out.trans (hb2.mono HBW.out.size))
    clear hb2
    go_wp2
    go_ret
    exact ⟨rfl, HFIN.out⟩
  · rw [decide_eq_false h, Bool.false_and] at hab
    have t0 : (S1 == S2) = false := by simpa using h
    have HAB := Bx.mk hab
    clear hab h hc
    go_enter Try.func61, Try.ntmps61
    go_wp2
    go_ret
    exact ⟨by rw [HAB.out]; rfl, HBW.out⟩

set_option maxRecDepth 10000 in
set_option maxHeartbeats 1000000 in
theorem rabout_any (w : World) (x y : Et) (hx : EtAt w x) (hy : EtAt w y) :
    Calls Try.prog 39 #[entV x, entV y] w fun e w' => e = .returned (.bool (about x.e y.e)) ∧ Below w.heap.size w w' := by
  have hab := about_eq x.e y.e
  have HBW := Bx.mk (show Below w.heap.size w ((w.alloc (encBox x)).alloc (encBox y)) from ((Below.refl _ _).alloc (Nat.le_refl _) _).alloc (by simp) _)
  have hc := rmatch_any ((w.alloc (encBox x)).alloc (encBox y)) x.u.val y.u.val x.e.iss y.e.iss (hx.1.below HBW.out) (hy.1.below HBW.out) hx.2 hy.2
  unfold encBox at hc HBW
  unfold entV
  clear hx hy
  generalize x.u.val = U1 at *
  generalize y.u.val = U2 at *
  generalize x.e.s = S1 at *
  generalize y.e.s = S2 at *
  generalize x.e.t = T1 at *
  generalize y.e.t = T2 at *
  generalize x.e.r = R1 at *
  generalize y.e.r = R2 at *
  generalize x.e.v = V1 at *
  generalize y.e.v = V2 at *
  generalize about x.e y.e = Q at *
  by_cases h : S1 = S2
  · rw [decide_eq_true h, Bool.true_and] at hab
    rw [← hab] at hc
    have t0 : (S1 == S2) = true := by simpa using h
    clear hab h
    go_enter Try.func39, Try.ntmps39
    go_wp2_with (go_at_call 54; refine hc.mono ?_; rintro e w2 ⟨rfl, hb2⟩)
    have HFIN := Bx.mk (HBW.out.trans (hb2.mono HBW.out.size))
    clear hb2
    go_wp2
    go_ret
    exact ⟨rfl, HFIN.out⟩
  · rw [decide_eq_false h, Bool.false_and] at hab
    have t0 : (S1 == S2) = false := by simpa using h
    have HAB := Bx.mk hab
    clear hab h hc
    go_enter Try.func39, Try.ntmps39
    go_wp2
    go_ret
    exact ⟨by rw [HAB.out]; rfl, HBW.out⟩

/-- what find hands back -/
def optV (o : Option Et) : Value := match o with
  | some x => .tuple #[entV x, .bool true]
  | none => .tuple #[.agg #[.int .i64 0, .int .i64 0, .int .i64 0, .int .i64 0, .slice none 0 0], .bool false]
set_option maxRecDepth 10000 in
set_option maxHeartbeats 2000000 in
theorem pfind_any (w : World) (v : Value) (l : List Et) (y : Et) (hl : EL w v l) (hy : EtAt w y) (hn : l.length ≤ 1000000) :
    Calls Try.prog 49 #[v, entV y] w fun e w' => e = .returned (optV (findT l y.e)) ∧ Below w.heap.size w w' := by
  obtain ⟨R, hR⟩ : ∃ R, R = findT l y.e := ⟨_, rfl⟩
  rw [← hR]
  have HR := Bx.mk hR
  obtain ⟨ad, c, rfl, -⟩ := hl.rd.form
  have HL := Bx.mk hl
  have HY := Bx.mk hy
  have HC := Bx.mk hl.cells.2
  clear hl hy hR
  obtain ⟨W0, hW0⟩ : ∃ W0, W0 = (w.alloc (encBox y)).alloc (.cells #[.int .i64 0, .int .i64 0, .int .i64 0, .int .i64 0, .slice none 0 0] 44) := ⟨_, rfl⟩
  have HBW0 := Bx.mk (show Below w.heap.size w W0 by rw [hW0]; exact ((Below.refl _ _).alloc (Nat.le_refl _) _).alloc (by simp) _)
  have HP := Bx.mk (show ∀ W, Below (w.heap.size + 2) W0 W → W.heap[w.heap.size]? = some (encBox y) ∧ W.heap[w.heap.size + 1]? = some (.cells #[.int .i64 0, .int .i64 0, .int .i64 0, .int .i64 0, .slice none 0 0] 44) from fun W hW => by
    subst hW0
    refine ⟨?_, ?_⟩
    · rw [hW.block _ (by omega), heap_alloc_old _ _ (by simp)]; exact heap_alloc_new _ _
    · rw [hW.block _ (by omega)]
      have := heap_alloc_new (w.alloc (encBox y)) (.cells #[.int .i64 0, .int .i64 0, .int .i64 0, .int .i64 0, .slice none 0 0] 44)
      rwa [World.size_alloc] at this)
  have HZ := Bx.mk (show W0.heap.size = w.heap.size + 2 by rw [hW0]; simp)
  unfold encBox at hW0 HP
  have HYV := Bx.mk (show entV y = .agg #[.int .i64 y.e.s, .int .i64 y.e.t, .int .i64 y.e.r, .int .i64 y.e.v, y.u.val] from rfl)
  rw [HYV.out]
  go_enter Try.func49, Try.ntmps49
  go_wp2
  rw [← hW0]
  clear hW0
  go_loopw [10] (fun i wr => ∃ k : Nat, k ≤ l.length ∧ i = .int .i64 k ∧ Bx (findT l y.e = findT (l.drop k) y.e) ∧ Below (w.heap.size + 2) W0 wr) (fun i _ => l.length - (intOf i).toNat)
  case atStart => exact ⟨0, by omega, rfl, ⟨by rw [List.drop_zero]⟩, Below.refl _ _⟩
  case round =>
    obtain ⟨k, hk, rfl, hfd, hbel⟩ := hrel
    have hBw : Below w.heap.size w wr := HBW0.out.trans (hbel.mono (by omega))
    have hsz : w.heap.size + 2 ≤ wr.heap.size := by have := hbel.size; have := HZ.out; omega
    have hsz0 : w.heap.size < wr.heap.size := by omega
    have HBEL := Bx.mk hbel
    have HBw := Bx.mk hBw
    obtain ⟨p0, p1⟩ := HP.out wr hbel
    by_cases hlt : k < l.length
    · obtain ⟨b, o, rfl, hbl, c0, c1, c2, c3, c4⟩ := HC.out wr hBw k hlt
      have hst : l.drop k = l[k] :: l.drop (k + 1) := List.drop_eq_getElem_cons hlt
      have hmem : l[k] ∈ l := List.getElem_mem hlt
      obtain ⟨z, hz⟩ : ∃ z, z = l[k] := ⟨_, rfl⟩
      rw [← hz] at c0 c1 c2 c3 c4 hst hmem
      rw [hst, findT, findT, List.find?_cons] at hfd
      have hBA := Bx.mk (HBw.out.alloc HBw.out.size (encBox z))
      have hcall := psameE_any (wr.alloc (encBox z)) z y ((HL.out.at_ z hmem).below hBA.out) (HY.out.below hBA.out)
      have HOPT := Bx.mk (show findT l y.e = (match about z.e y.e with | true => some z | false => findT (l.drop (k + 1)) y.e) from hfd.out)
      unfold entV encBox at hcall
      have q0 := cell_of_row _ _ 0 _ _ _ p0
      have q1 := cell_of_row _ _ 1 _ _ _ p0
      have q2 := cell_of_row _ _ 2 _ _ _ p0
      have q3 := cell_of_row _ _ 3 _ _ _ p0
      have q4 := cell_of_row _ _ 4 _ _ _ p0
      simp only [List.getElem?_toArray, List.getElem?_cons_zero, List.getElem?_cons_succ] at q0 q1 q2 q3 q4
      clear hst hz hmem hfd hBw hbel hbl p0 p1
      have HB2 := Bx.mk (show ∀ W, Below (wr.alloc (encBox z)).heap.size (wr.alloc (encBox z)) W → Below (w.heap.size + 2) W0 W from fun W h => (HBEL.out.alloc hsz _).trans (h.mono (by simp; omega)))
      unfold encBox at HB2
      cases hq : about z.e y.e with
      | true =>
        rw [hq] at hcall
        have HOPT2 := Bx.mk (show R = some z by rw [HR.out, HOPT.out, hq])
        have HRV := Bx.mk (show optV R = .tuple #[.agg #[.int .i64 z.e.s, .int .i64 z.e.t, .int .i64 z.e.r, .int .i64 z.e.v, z.u.val], .bool true] by rw [HOPT2.out]; rfl)
        clear hq HOPT HOPT2 hBA
        have hU1 : ∃ a n c, z.u.val = .slice a n c := ⟨_, _, _, rfl⟩
        generalize z.u.val = U1 at *
        obtain ⟨ua, un, uc, rfl⟩ := hU1
        generalize y.u.val = U2 at *
        generalize z.e.s = S1 at *
        generalize y.e.s = S2 at *
        generalize z.e.t = T1 at *
        generalize y.e.t = T2 at *
        generalize z.e.r = R1 at *
        generalize y.e.r = R2 at *
        generalize z.e.v = V1 at *
        generalize y.e.v = V2 at *
        go_wp2_with fail
        go_at_call 61
        refine hcall.mono ?_
        rintro e w2 ⟨rfl, hb2⟩
        have hbel2 := HB2.out w2 hb2
        obtain ⟨-, p1⟩ := HP.out w2 hbel2
        have HFIN := Bx.mk (HBW0.out.trans (hbel2.mono (by omega)))
        have m0 := cell_of_row _ _ 0 _ _ _ p1
        have m1 := cell_of_row _ _ 1 _ _ _ p1
        have m2 := cell_of_row _ _ 2 _ _ _ p1
        have m3 := cell_of_row _ _ 3 _ _ _ p1
        have m4 := cell_of_row _ _ 4 _ _ _ p1
        simp only [List.getElem?_toArray, List.getElem?_cons_zero, List.getElem?_cons_succ] at m0 m1 m2 m3 m4
        have fr : ∀ i, w2.frozen? ⟨w.heap.size + 1, i, none⟩ = false := fun i => by simp [World.frozen?, p1]
        have hcp : w2.cell? ⟨wr.heap.size, 0, none⟩ = some (.int .i64 S1) ∧ w2.cell? ⟨wr.heap.size, 1, none⟩ = some (.int .i64 T1) ∧ w2.cell? ⟨wr.heap.size, 2, none⟩ = some (.int .i64 R1) ∧ w2.cell? ⟨wr.heap.size, 3, none⟩ = some (.int .i64 V1) ∧ w2.cell? ⟨wr.heap.size, 4, none⟩ = some (.slice ua un uc) := by
          refine ⟨?_, ?_, ?_, ?_, ?_⟩ <;> (rw [hb2.cell (by simp), World.cell?_alloc_at _ _ _ _ rfl]; rfl)
        obtain ⟨n0, n1, n2, n3, n4⟩ := hcp
        clear hb2 hbel2 p1 q0 q1 q2 q3 q4 c0 c1 c2 c3 c4 hcall
        go_wp2
        refine bodyPost_ret (v := .tuple #[.agg #[.int .i64 S1, .int .i64 T1, .int .i64 R1, .int .i64 V1, .slice ua un uc], .bool true]) (by simp [results, Try.results49, go_sem, m0, m1, m2, m3, m4, fr]) rfl ⟨by rw [HRV.out], ?_⟩
        exact ((((HFIN.out.setCell (p := ⟨w.heap.size + 1, 0, none⟩) (by simp) _).setCell (p := ⟨w.heap.size + 1, 1, none⟩) (by simp) _).setCell (p := ⟨w.heap.size + 1, 2, none⟩) (by simp) _).setCell (p := ⟨w.heap.size + 1, 3, none⟩) (by simp) _).setCell (p := ⟨w.heap.size + 1, 4, none⟩) (by simp) _
      | false =>
        rw [hq] at hcall
        have HOPT2 := Bx.mk (show findT l y.e = findT (l.drop (k + 1)) y.e by rw [HOPT.out, hq])
        clear hq HOPT hBA
        have hU1 : ∃ a n c, z.u.val = .slice a n c := ⟨_, _, _, rfl⟩
        generalize z.u.val = U1 at *
        obtain ⟨ua, un, uc, rfl⟩ := hU1
        generalize y.u.val = U2 at *
        generalize z.e.s = S1 at *
        generalize y.e.s = S2 at *
        generalize z.e.t = T1 at *
        generalize y.e.t = T2 at *
        generalize z.e.r = R1 at *
        generalize y.e.r = R2 at *
        generalize z.e.v = V1 at *
        generalize y.e.v = V2 at *
        go_wp2_with fail
        go_at_call 61
        refine hcall.mono ?_
        rintro e w2 ⟨rfl, hb2⟩
        have HBL2 := Bx.mk (HB2.out w2 hb2)
        clear hb2 q0 q1 q2 q3 q4 c0 c1 c2 c3 c4 hcall
        go_wp2
        go_roundw
        case rel => exact ⟨k + 1, by omega, by go_num, HOPT2, HBL2.out⟩
        case measure => simp [intOf]; omega
    · obtain rfl : k = l.length := by omega
      have HRN := Bx.mk (show R = none by rw [HR.out, hfd.out, List.drop_length]; rfl)
      have HRV := Bx.mk (show optV R = .tuple #[.agg #[.int .i64 0, .int .i64 0, .int .i64 0, .int .i64 0, .slice none 0 0], .bool false] by rw [HRN.out]; rfl)
      have m0 := cell_of_row _ _ 0 _ _ _ p1
      have m1 := cell_of_row _ _ 1 _ _ _ p1
      have m2 := cell_of_row _ _ 2 _ _ _ p1
      have m3 := cell_of_row _ _ 3 _ _ _ p1
      have m4 := cell_of_row _ _ 4 _ _ _ p1
      simp only [List.getElem?_toArray, List.getElem?_cons_zero, List.getElem?_cons_succ] at m0 m1 m2 m3 m4
      have fr : ∀ i, wr.frozen? ⟨w.heap.size + 1, i, none⟩ = false := fun i => by simp [World.frozen?, p1]
      clear hbel hBw p0 p1 hfd
      go_wp2
      refine bodyPost_ret (v := .tuple #[.agg #[.int .i64 0, .int .i64 0, .int .i64 0, .int .i64 0, .slice none 0 0], .bool false]) (by simp [results, Try.results49, go_sem, m0, m1, m2, m3, m4, fr]) rfl ⟨by rw [HRV.out], ?_⟩
      exact ((((HBw.out.setCell (p := ⟨w.heap.size + 1, 0, none⟩) (by simp) _).setCell (p := ⟨w.heap.size + 1, 1, none⟩) (by simp) _).setCell (p := ⟨w.heap.size + 1, 2, none⟩) (by simp) _).setCell (p := ⟨w.heap.size + 1, 3, none⟩) (by simp) _).setCell (p := ⟨w.heap.size + 1, 4, none⟩) (by simp) _
end Go.Proofs.Ytpagoinnkknkfaa.Pb
