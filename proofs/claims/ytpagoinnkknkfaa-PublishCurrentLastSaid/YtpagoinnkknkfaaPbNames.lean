/-
  Names that match, of both texts. (Written by wip/gen/gen_pbn.py.)
-/
import Derived.Test.YtpagoinnkknkfaaPbLower
namespace Go.Proofs.Ytpagoinnkknkfaa.Pb
open Go Go.RowKit Go.Proofs.Ytpagoinnkknkfaa.Slc
set_option linter.unusedVariables false
set_option linter.unusedSimpArgs false

def sameT (a b : B) : Bool := decide (foldP a [] false = foldP b [] false)
theorem sameT_comm (a b : B) : sameT a b = sameT b a := by unfold sameT; rw [Bool.eq_iff_iff]; simp [eq_comm]
theorem bstr_beq (a b : B) : ((bstr a).toList == (bstr b).toList) = decide (a = b) := by
  rw [ByteArray.toList_eq, ByteArray.toList_eq, Bool.eq_iff_iff]
  simp [bstr]
def amatch (a b : Attr) : Bool := decide (a.ty = b.ty) && sameT a.val b.val
theorem amatch_comm (a b : Attr) : amatch a b = amatch b a := by
  unfold amatch; rw [sameT_comm]; congr 1; rw [Bool.eq_iff_iff]; simp [eq_comm]
theorem amatch_key (a b : Attr) : amatch a b = decide (attrK a = attrK b) := by
  unfold amatch sameT attrK; rw [Bool.eq_iff_iff]; simp
def attrV (a : Attr) : Value := .agg #[.string (bstr a.ty), .int .i64 a.k, .string (bstr a.val)]
def nmatch (n m : Nm) : Bool := decide (n.map attrK = m.map attrK)

theorem tmatch_any (w : World) (a b : B) (ha : a.length ≤ 1000000) (hb : b.length ≤ 1000000) :
    Calls Try.prog 105 #[.string (bstr a), .string (bstr b)] w fun e w' => e = .returned (.bool (sameT a b)) ∧ Below w.heap.size w w' := by
  have h1 := fun W => fold_any W a ha
  have h2 := fun W => fold_any W b hb
  have hq := bstr_beq (foldP a [] false) (foldP b [] false)
  have hq2 : ((bstr (foldP a [] false)).toList == (bstr (foldP b [] false)).toList) = sameT a b := hq
  clear hq
  generalize bstr (foldP a [] false) = X at *
  generalize bstr (foldP b [] false) = Y at *
  generalize sameT a b = R at *
  generalize bstr a = sa at *
  generalize bstr b = sb at *
  go_enter Try.func105, Try.ntmps105
  go_wp2_with fail
  go_at_call 107
  refine (h1 _).mono ?_
  rintro e w1 ⟨rfl, hb1⟩
  have HB1 := Bx.mk hb1
  clear hb1 h1
  go_wp2_with fail
  go_at_call 107
  refine (h2 _).mono ?_
  rintro e w2 ⟨rfl, hb2⟩
  have HB2 := Bx.mk (HB1.out.trans (hb2.mono HB1.out.size))
  clear hb2 h2
  go_wp2
  go_ret
  exact ⟨rfl, HB2.out⟩

theorem rtmatch_any (w : World) (a b : B) (ha : a.length ≤ 1000000) (hb : b.length ≤ 1000000) :
    Calls Try.prog 100 #[.string (bstr a), .string (bstr b)] w fun e w' => e = .returned (.bool (sameT a b)) ∧ Below w.heap.size w w' := by
  have h1 := fun W => rfold_any W a ha
  have h2 := fun W => rfold_any W b hb
  have hq := bstr_beq (foldP a [] false) (foldP b [] false)
  have hq2 : ((bstr (foldP a [] false)).toList == (bstr (foldP b [] false)).toList) = sameT a b := hq
  clear hq
  generalize bstr (foldP a [] false) = X at *
  generalize bstr (foldP b [] false) = Y at *
  generalize sameT a b = R at *
  generalize bstr a = sa at *
  generalize bstr b = sb at *
  go_enter Try.func100, Try.ntmps100
  go_wp2_with fail
  go_at_call 104
  refine (h1 _).mono ?_
  rintro e w1 ⟨rfl, hb1⟩
  have HB1 := Bx.mk hb1
  clear hb1 h1
  go_wp2_with fail
  go_at_call 104
  refine (h2 _).mono ?_
  rintro e w2 ⟨rfl, hb2⟩
  have HB2 := Bx.mk (HB1.out.trans (hb2.mono HB1.out.size))
  clear hb2 h2
  go_wp2
  go_ret
  exact ⟨rfl, HB2.out⟩

set_option maxRecDepth 10000 in
set_option maxHeartbeats 1000000 in
theorem phas_any (w : World) (v : Value) (l : List Attr) (a : Attr) (hv : Rd w encA v l) (hl : l.length ≤ 1000000) (hs : ∀ x ∈ l, x.val.length ≤ 1000000) (ha : a.val.length ≤ 1000000) :
    Calls Try.prog 102 #[v, attrV a] w fun e w' => e = .returned (.bool (l.any fun x => amatch x a)) ∧ Below w.heap.size w w' := by
  obtain ⟨R, hR⟩ : ∃ R, R = l.any fun x => amatch x a := ⟨_, rfl⟩
  rw [← hR]
  have HR := Bx.mk hR
  obtain ⟨ad, c, rfl, -⟩ := hv.form
  have HCELL := Bx.mk (show ∀ (W : World), Below w.heap.size w W → ∀ k (hk : k < l.length), ∃ b o, ad = some ⟨b, o, none⟩ ∧ W.cell? ⟨b, o + k * 3, none⟩ = some (.string (bstr (l[k]).ty)) ∧ W.cell? ⟨b, o + k * 3 + 1, none⟩ = some (.int .i64 (l[k]).k) ∧ W.cell? ⟨b, o + k * 3 + 2, none⟩ = some (.string (bstr (l[k]).val)) from fun W hW k hk => by
    obtain ⟨b, o, c, hv', _, hlt, hc⟩ := hv.cells encA_ok (by omega)
    simp only [Value.slice.injEq] at hv'
    have q := hc W (fun k' hk' => hW.block k' (hv.lt k' hk')) k hk
    exact ⟨b, o, hv'.1, q 0 _ (by omega) rfl, q 1 _ (by omega) rfl, q 2 _ (by omega) rfl⟩)
  have HS := Bx.mk (show ∀ k (h : k < l.length), (l[k]).val.length ≤ 1000000 from fun k h => hs _ (List.getElem_mem h))
  have HA := Bx.mk ha
  clear hv hs hR ha
  unfold attrV
  obtain ⟨W0, hW0⟩ : ∃ W0, W0 = w.alloc (.cells #[.string (bstr a.ty), .int .i64 a.k, .string (bstr a.val)] 69) := ⟨_, rfl⟩
  have HBW0 := Bx.mk (show Below w.heap.size w W0 by rw [hW0]; exact (Below.refl _ _).alloc (Nat.le_refl _) _)
  have HP := Bx.mk (show ∀ W, Below (w.heap.size + 1) W0 W → W.cell? ⟨w.heap.size, 0, none⟩ = some (.string (bstr a.ty)) ∧ W.cell? ⟨w.heap.size, 1, none⟩ = some (.int .i64 a.k) ∧ W.cell? ⟨w.heap.size, 2, none⟩ = some (.string (bstr a.val)) from fun W hW => by
    subst hW0
    refine ⟨?_, ?_, ?_⟩ <;> (rw [hW.cell (by simp), World.cell?_alloc_at _ _ _ _ rfl]; rfl))
  have HZ := Bx.mk (show W0.heap.size = w.heap.size + 1 by rw [hW0]; simp)
  go_enter Try.func102, Try.ntmps102
  go_wp2
  rw [← hW0]
  clear hW0
  go_loopw [9] (fun i wr => ∃ k : Nat, k ≤ l.length ∧ i = .int .i64 k ∧ Bx (l.any (fun x => amatch x a) = (l.drop k).any (fun x => amatch x a)) ∧ Below (w.heap.size + 1) W0 wr) (fun i _ => l.length - (intOf i).toNat)
  case atStart => exact ⟨0, by omega, rfl, ⟨by rw [List.drop_zero]⟩, Below.refl _ _⟩
  case round =>
    obtain ⟨k, hk, rfl, hany, hbel⟩ := hrel
    have hBw : Below w.heap.size w wr := HBW0.out.trans (hbel.mono (by omega))
    have hsz : w.heap.size < wr.heap.size := by have := hbel.size; have := HZ.out; omega
    have HBEL := Bx.mk hbel
    by_cases hlt : k < l.length
    · obtain ⟨b, o, rfl, c0, c1, c2⟩ := HCELL.out wr hBw k hlt
      obtain ⟨q0, q1, q2⟩ := HP.out wr hbel
      have HBw := Bx.mk hBw
      have hst : l.drop k = l[k] :: l.drop (k + 1) := List.drop_eq_getElem_cons hlt
      rw [hst, List.any_cons] at hany
      have hm := fun W => tmatch_any W a.val (l[k]).val HA.out (HS.out k hlt)
      have hty := bstr_beq a.ty (l[k]).ty
      have ham : amatch l[k] a = (decide (a.ty = (l[k]).ty) && sameT a.val (l[k]).val) := by rw [amatch_comm, amatch]
      rw [ham] at hany
      have hany2 := HR.out.trans hany.out
      clear hst ham hBw hbel
      have HB2 := Bx.mk (show ∀ (o : Obj) W, Below (wr.alloc o).heap.size (wr.alloc o) W → Below (w.heap.size + 1) W0 W from fun o W h => (HBEL.out.alloc (by omega) o).trans (h.mono (by simp; omega)))
      have HB3 := Bx.mk (show ∀ W, Below (w.heap.size + 1) W0 W → Below w.heap.size w W from fun W h => HBW0.out.trans (h.mono (by omega)))
      by_cases ht : a.ty = (l[k]).ty
      · rw [decide_eq_true ht] at hty hany2 hany
        simp only [Bool.true_and] at hany2 hany
        have HAN := Bx.mk hany.out
        have HAN2 := Bx.mk hany2
        clear hany hany2 ht
        generalize bstr (l[k]).ty = X0 at *
        generalize bstr (l[k]).val = X2 at *
        generalize (l[k]).k = X1 at *
        generalize bstr a.ty = Y0 at *
        generalize bstr a.val = Y2 at *
        generalize a.k = Y1 at *
        cases hq : sameT a.val (l[k]).val with
        | true =>
          rw [hq] at hm HAN HAN2
          have HRT := Bx.mk (show R = true by rw [HAN2.out]; rfl)
          clear hq HAN HAN2
          go_wp2_with (go_at_call 105; refine (hm _).mono ?_; rintro e w2 ⟨rfl, hb2⟩)
          have HFIN := Bx.mk (HB3.out _ (HB2.out _ _ hb2))
          go_ret
          exact ⟨by rw [HRT.out]; rfl, HFIN.out⟩
        | false =>
          rw [hq] at hm HAN HAN2
          have HRT := Bx.mk (show l.any (fun x => amatch x a) = (l.drop (k + 1)).any (fun x => amatch x a) by rw [HAN.out, Bool.false_or])
          clear hq HAN HAN2
          go_wp2_with (go_at_call 105; refine (hm _).mono ?_; rintro e w2 ⟨rfl, hb2⟩)
          have HFIN := Bx.mk (HB2.out _ _ hb2)
          go_roundw
          case rel => exact ⟨k + 1, by omega, by go_num, HRT, HFIN.out⟩
          case measure => simp [intOf]; omega
      · rw [decide_eq_false ht] at hty hany2 hany
        have HRT := Bx.mk (show l.any (fun x => amatch x a) = (l.drop (k + 1)).any (fun x => amatch x a) by rw [hany.out, Bool.false_and, Bool.false_or])
        clear hany hany2 ht hm
        generalize bstr (l[k]).ty = X0 at *
        generalize bstr (l[k]).val = X2 at *
        generalize (l[k]).k = X1 at *
        generalize bstr a.ty = Y0 at *
        generalize bstr a.val = Y2 at *
        generalize a.k = Y1 at *
        go_wp2
        go_roundw
        case rel => exact ⟨k + 1, by omega, by go_num, HRT, HBEL.out.alloc (by have := HBEL.out.size; have := HZ.out; omega) _⟩
        case measure => simp [intOf]; omega
    · obtain rfl : k = l.length := by omega
      have HFIN := Bx.mk hBw
      have HRF := Bx.mk (show R = false by rw [HR.out, hany.out, List.drop_length]; rfl)
      clear hany hBw hbel hsz
      go_wp2
      go_ret
      exact ⟨by rw [HRF.out]; rfl, HFIN.out⟩

set_option maxRecDepth 10000 in
set_option maxHeartbeats 1000000 in
theorem rhas_any (w : World) (v : Value) (l : List Attr) (a : Attr) (hv : Rd w encA v l) (hl : l.length ≤ 1000000) (hs : ∀ x ∈ l, x.val.length ≤ 1000000) (ha : a.val.length ≤ 1000000) :
    Calls Try.prog 92 #[v, attrV a] w fun e w' => e = .returned (.bool (l.any fun x => amatch x a)) ∧ Below w.heap.size w w' := by
  obtain ⟨R, hR⟩ : ∃ R, R = l.any fun x => amatch x a := ⟨_, rfl⟩
  rw [← hR]
  have HR := Bx.mk hR
  obtain ⟨ad, c, rfl, -⟩ := hv.form
  have HCELL := Bx.mk (show ∀ (W : World), Below w.heap.size w W → ∀ k (hk : k < l.length), ∃ b o, ad = some ⟨b, o, none⟩ ∧ W.cell? ⟨b, o + k * 3, none⟩ = some (.string (bstr (l[k]).ty)) ∧ W.cell? ⟨b, o + k * 3 + 1, none⟩ = some (.int .i64 (l[k]).k) ∧ W.cell? ⟨b, o + k * 3 + 2, none⟩ = some (.string (bstr (l[k]).val)) from fun W hW k hk => by
    obtain ⟨b, o, c, hv', _, hlt, hc⟩ := hv.cells encA_ok (by omega)
    simp only [Value.slice.injEq] at hv'
    have q := hc W (fun k' hk' => hW.block k' (hv.lt k' hk')) k hk
    exact ⟨b, o, hv'.1, q 0 _ (by omega) rfl, q 1 _ (by omega) rfl, q 2 _ (by omega) rfl⟩)
  have HS := Bx.mk (show ∀ k (h : k < l.length), (l[k]).val.length ≤ 1000000 from fun k h => hs _ (List.getElem_mem h))
  have HA := Bx.mk ha
  clear hv hs hR ha
  unfold attrV
  obtain ⟨W0, hW0⟩ : ∃ W0, W0 = w.alloc (.cells #[.string (bstr a.ty), .int .i64 a.k, .string (bstr a.val)] 69) := ⟨_, rfl⟩
  have HBW0 := Bx.mk (show Below w.heap.size w W0 by rw [hW0]; exact (Below.refl _ _).alloc (Nat.le_refl _) _)
  have HP := Bx.mk (show ∀ W, Below (w.heap.size + 1) W0 W → W.cell? ⟨w.heap.size, 0, none⟩ = some (.string (bstr a.ty)) ∧ W.cell? ⟨w.heap.size, 1, none⟩ = some (.int .i64 a.k) ∧ W.cell? ⟨w.heap.size, 2, none⟩ = some (.string (bstr a.val)) from fun W hW => by
    subst hW0
    refine ⟨?_, ?_, ?_⟩ <;> (rw [hW.cell (by simp), World.cell?_alloc_at _ _ _ _ rfl]; rfl))
  have HZ := Bx.mk (show W0.heap.size = w.heap.size + 1 by rw [hW0]; simp)
  go_enter Try.func92, Try.ntmps92
  go_wp2
  rw [← hW0]
  clear hW0
  go_loopw [9] (fun i wr => ∃ k : Nat, k ≤ l.length ∧ i = .int .i64 k ∧ Bx (l.any (fun x => amatch x a) = (l.drop k).any (fun x => amatch x a)) ∧ Below (w.heap.size + 1) W0 wr) (fun i _ => l.length - (intOf i).toNat)
  case atStart => exact ⟨0, by omega, rfl, ⟨by rw [List.drop_zero]⟩, Below.refl _ _⟩
  case round =>
    obtain ⟨k, hk, rfl, hany, hbel⟩ := hrel
    have hBw : Below w.heap.size w wr := HBW0.out.trans (hbel.mono (by omega))
    have hsz : w.heap.size < wr.heap.size := by have := hbel.size; have := HZ.out; omega
    have HBEL := Bx.mk hbel
    by_cases hlt : k < l.length
    · obtain ⟨b, o, rfl, c0, c1, c2⟩ := HCELL.out wr hBw k hlt
      obtain ⟨q0, q1, q2⟩ := HP.out wr hbel
      have HBw := Bx.mk hBw
      have hst : l.drop k = l[k] :: l.drop (k + 1) := List.drop_eq_getElem_cons hlt
      rw [hst, List.any_cons] at hany
      have hm := fun W => rtmatch_any W (l[k]).val a.val (HS.out k hlt) HA.out
      have hty := bstr_beq (l[k]).ty a.ty
      have ham : amatch l[k] a = (decide ((l[k]).ty = a.ty) && sameT (l[k]).val a.val) := by rw [amatch]
      rw [ham] at hany
      have hany2 := HR.out.trans hany.out
      clear hst ham hBw hbel
      have HB2 := Bx.mk (show ∀ (o : Obj) W, Below (wr.alloc o).heap.size (wr.alloc o) W → Below (w.heap.size + 1) W0 W from fun o W h => (HBEL.out.alloc (by omega) o).trans (h.mono (by simp; omega)))
      have HB3 := Bx.mk (show ∀ W, Below (w.heap.size + 1) W0 W → Below w.heap.size w W from fun W h => HBW0.out.trans (h.mono (by omega)))
      by_cases ht : (l[k]).ty = a.ty
      · rw [decide_eq_true ht] at hty hany2 hany
        simp only [Bool.true_and] at hany2 hany
        have HAN := Bx.mk hany.out
        have HAN2 := Bx.mk hany2
        clear hany hany2 ht
        generalize bstr (l[k]).ty = X0 at *
        generalize bstr (l[k]).val = X2 at *
        generalize (l[k]).k = X1 at *
        generalize bstr a.ty = Y0 at *
        generalize bstr a.val = Y2 at *
        generalize a.k = Y1 at *
        cases hq : sameT (l[k]).val a.val with
        | true =>
          rw [hq] at hm HAN HAN2
          have HRT := Bx.mk (show R = true by rw [HAN2.out]; rfl)
          clear hq HAN HAN2
          go_wp2_with (go_at_call 100; refine (hm _).mono ?_; rintro e w2 ⟨rfl, hb2⟩)
          have HFIN := Bx.mk (HB3.out _ (HB2.out _ _ hb2))
          go_ret
          exact ⟨by rw [HRT.out]; rfl, HFIN.out⟩
        | false =>
          rw [hq] at hm HAN HAN2
          have HRT := Bx.mk (show l.any (fun x => amatch x a) = (l.drop (k + 1)).any (fun x => amatch x a) by rw [HAN.out, Bool.false_or])
          clear hq HAN HAN2
          go_wp2_with (go_at_call 100; refine (hm _).mono ?_; rintro e w2 ⟨rfl, hb2⟩)
          have HFIN := Bx.mk (HB2.out _ _ hb2)
          go_roundw
          case rel => exact ⟨k + 1, by omega, by go_num, HRT, HFIN.out⟩
          case measure => simp [intOf]; omega
      · rw [decide_eq_false ht] at hty hany2 hany
        have HRT := Bx.mk (show l.any (fun x => amatch x a) = (l.drop (k + 1)).any (fun x => amatch x a) by rw [hany.out, Bool.false_and, Bool.false_or])
        clear hany hany2 ht hm
        generalize bstr (l[k]).ty = X0 at *
        generalize bstr (l[k]).val = X2 at *
        generalize (l[k]).k = X1 at *
        generalize bstr a.ty = Y0 at *
        generalize bstr a.val = Y2 at *
        generalize a.k = Y1 at *
        go_wp2
        go_roundw
        case rel => exact ⟨k + 1, by omega, by go_num, HRT, HBEL.out.alloc (by have := HBEL.out.size; have := HZ.out; omega) _⟩
        case measure => simp [intOf]; omega
    · obtain rfl : k = l.length := by omega
      have HFIN := Bx.mk hBw
      have HRF := Bx.mk (show R = false by rw [HR.out, hany.out, List.drop_length]; rfl)
      clear hany hBw hbel hsz
      go_wp2
      go_ret
      exact ⟨by rw [HRF.out]; rfl, HFIN.out⟩

set_option maxRecDepth 10000 in
set_option maxHeartbeats 1000000 in
theorem psame_any (w : World) (va vb : Value) (x y : Attr) (ha : Rd w encA va [x]) (hb : Rd w encA vb [y]) (hx : x.val.length ≤ 1000000) (hy : y.val.length ≤ 1000000) :
    Calls Try.prog 98 #[va, vb] w fun e w' => e = .returned (.bool (amatch x y)) ∧ Below w.heap.size w w' := by
  have h1 := Bx.mk (fun W (hW : Below w.heap.size w W) => phas_any W vb [y] x (hb.below hW) (by simp) (by simpa using hy) hx)
  have h2 := Bx.mk (fun W (hW : Below w.heap.size w W) => phas_any W va [x] y (ha.below hW) (by simp) (by simpa using hx) hy)
  have e1 : ([y].any fun z => amatch z x) = amatch x y := by rw [amatch_comm]; simp
  have e2 : ([x].any fun z => amatch z y) = amatch x y := by simp
  simp only [e1, e2] at h1 h2
  clear e1 e2
  obtain ⟨b0, o0, c0, hva, -, hlt0, hc0⟩ := ha.cells encA_ok (by simp)
  obtain ⟨b1, o1, c1, hvb, -, hlt1, hc1⟩ := hb.cells encA_ok (by simp)
  have f0 := hc0 w (fun k hk => rfl) 0 (by simp) 0 _ (by omega) rfl
  have f1 := hc0 w (fun k hk => rfl) 0 (by simp) 1 _ (by omega) rfl
  have f2 := hc0 w (fun k hk => rfl) 0 (by simp) 2 _ (by omega) rfl
  have g0 := hc1 w (fun k hk => rfl) 0 (by simp) 0 _ (by omega) rfl
  have g1 := hc1 w (fun k hk => rfl) 0 (by simp) 1 _ (by omega) rfl
  have g2 := hc1 w (fun k hk => rfl) 0 (by simp) 2 _ (by omega) rfl
  simp only [Nat.zero_mul, Nat.zero_add, Nat.add_zero, List.getElem_cons_zero] at f0 f1 f2 g0 g1 g2
  have HG := Bx.mk (show ∀ W, Below w.heap.size w W → W.cell? ⟨b1, o1, none⟩ = some (.string (bstr y.ty)) ∧ W.cell? ⟨b1, o1 + 1, none⟩ = some (.int .i64 y.k) ∧ W.cell? ⟨b1, o1 + 2, none⟩ = some (.string (bstr y.val)) from fun W hW => ⟨(hW.cell (p := ⟨b1, o1, none⟩) hlt1).trans g0, (hW.cell (p := ⟨b1, o1 + 1, none⟩) hlt1).trans g1, (hW.cell (p := ⟨b1, o1 + 2, none⟩) hlt1).trans g2⟩)
  change va = .slice _ 1 c0 at hva
  change vb = .slice _ 1 c1 at hvb
  subst hva hvb
  unfold attrV at h1 h2
  clear hc0 hc1 ha hb hx hy hlt0 hlt1 g0 g1 g2
  generalize bstr x.ty = X0 at *
  generalize bstr x.val = X2 at *
  generalize x.k = X1 at *
  generalize bstr y.ty = Y0 at *
  generalize bstr y.val = Y2 at *
  generalize y.k = Y1 at *
  generalize amatch x y = R at *
  go_enter Try.func98, Try.ntmps98
  go_wp2
  go_loopw [13] (fun i wr => (i = .int .i64 0 ∧ w = wr) ∨ (i = .int .i64 1 ∧ R = true ∧ Below w.heap.size w wr)) (fun i _ => 1 - (intOf i).toNat)
  case atStart => exact .inl ⟨rfl, rfl⟩
  case round =>
    rcases hrel with ⟨rfl, rfl⟩ | ⟨rfl, rfl, hbel⟩
    · cases R with
      | true =>
        go_wp2_with fail
        go_at_call 102
        refine (h1.out _ (Below.refl _ _)).mono ?_
        rintro e w1 ⟨rfl, hb1⟩
        obtain ⟨g0, g1, g2⟩ := HG.out w1 hb1
        have HB1 := Bx.mk hb1
        have h3 := h2.out w1 hb1
        clear hb1 h1 h2 f0 f1 f2 HG
        go_wp2_with fail
        go_at_call 102
        refine h3.mono ?_
        rintro e w2 ⟨rfl, hb2⟩
        have HB2 := Bx.mk (HB1.out.trans (hb2.mono HB1.out.size))
        clear hb2 h3
        go_wp2
        go_roundw
        case rel => exact .inr ⟨rfl, by trivial, HB2.out⟩
        case measure => simp [intOf]
      | false =>
        go_wp2_with fail
        go_at_call 102
        refine (h1.out _ (Below.refl _ _)).mono ?_
        rintro e w1 ⟨rfl, hb1⟩
        have HB1 := Bx.mk hb1
        clear hb1 h1 h2 f0 f1 f2 HG
        go_wp2
        go_ret
        exact ⟨rfl, HB1.out⟩
    · have HB1 := Bx.mk hbel
      clear hbel h1 h2 f0 f1 f2 HG
      go_wp2
      go_ret
      exact ⟨rfl, HB1.out⟩

set_option maxRecDepth 10000 in
set_option maxHeartbeats 1000000 in
theorem rsame_any (w : World) (va vb : Value) (x y : Attr) (ha : Rd w encA va [x]) (hb : Rd w encA vb [y]) (hx : x.val.length ≤ 1000000) (hy : y.val.length ≤ 1000000) :
    Calls Try.prog 76 #[va, vb] w fun e w' => e = .returned (.bool (amatch x y)) ∧ Below w.heap.size w w' := by
  have h1 := Bx.mk (fun W (hW : Below w.heap.size w W) => rhas_any W vb [y] x (hb.below hW) (by simp) (by simpa using hy) hx)
  have h2 := Bx.mk (fun W (hW : Below w.heap.size w W) => rhas_any W va [x] y (ha.below hW) (by simp) (by simpa using hx) hy)
  have e1 : ([y].any fun z => amatch z x) = amatch x y := by rw [amatch_comm]; simp
  have e2 : ([x].any fun z => amatch z y) = amatch x y := by simp
  simp only [e1, e2] at h1 h2
  clear e1 e2
  obtain ⟨b0, o0, c0, hva, -, hlt0, hc0⟩ := ha.cells encA_ok (by simp)
  obtain ⟨b1, o1, c1, hvb, -, hlt1, hc1⟩ := hb.cells encA_ok (by simp)
  have f0 := hc0 w (fun k hk => rfl) 0 (by simp) 0 _ (by omega) rfl
  have f1 := hc0 w (fun k hk => rfl) 0 (by simp) 1 _ (by omega) rfl
  have f2 := hc0 w (fun k hk => rfl) 0 (by simp) 2 _ (by omega) rfl
  have g0 := hc1 w (fun k hk => rfl) 0 (by simp) 0 _ (by omega) rfl
  have g1 := hc1 w (fun k hk => rfl) 0 (by simp) 1 _ (by omega) rfl
  have g2 := hc1 w (fun k hk => rfl) 0 (by simp) 2 _ (by omega) rfl
  simp only [Nat.zero_mul, Nat.zero_add, Nat.add_zero, List.getElem_cons_zero] at f0 f1 f2 g0 g1 g2
  have HG := Bx.mk (show ∀ W, Below w.heap.size w W → W.cell? ⟨b1, o1, none⟩ = some (.string (bstr y.ty)) ∧ W.cell? ⟨b1, o1 + 1, none⟩ = some (.int .i64 y.k) ∧ W.cell? ⟨b1, o1 + 2, none⟩ = some (.string (bstr y.val)) from fun W hW => ⟨(hW.cell (p := ⟨b1, o1, none⟩) hlt1).trans g0, (hW.cell (p := ⟨b1, o1 + 1, none⟩) hlt1).trans g1, (hW.cell (p := ⟨b1, o1 + 2, none⟩) hlt1).trans g2⟩)
  change va = .slice _ 1 c0 at hva
  change vb = .slice _ 1 c1 at hvb
  subst hva hvb
  unfold attrV at h1 h2
  clear hc0 hc1 ha hb hx hy hlt0 hlt1 g0 g1 g2
  generalize bstr x.ty = X0 at *
  generalize bstr x.val = X2 at *
  generalize x.k = X1 at *
  generalize bstr y.ty = Y0 at *
  generalize bstr y.val = Y2 at *
  generalize y.k = Y1 at *
  generalize amatch x y = R at *
  go_enter Try.func76, Try.ntmps76
  go_wp2
  go_loopw [13] (fun i wr => (i = .int .i64 0 ∧ w = wr) ∨ (i = .int .i64 1 ∧ R = true ∧ Below w.heap.size w wr)) (fun i _ => 1 - (intOf i).toNat)
  case atStart => exact .inl ⟨rfl, rfl⟩
  case round =>
    rcases hrel with ⟨rfl, rfl⟩ | ⟨rfl, rfl, hbel⟩
    · cases R with
      | true =>
        go_wp2_with fail
        go_at_call 92
        refine (h1.out _ (Below.refl _ _)).mono ?_
        rintro e w1 ⟨rfl, hb1⟩
        obtain ⟨g0, g1, g2⟩ := HG.out w1 hb1
        have HB1 := Bx.mk hb1
        have h3 := h2.out w1 hb1
        clear hb1 h1 h2 f0 f1 f2 HG
        go_wp2_with fail
        go_at_call 92
        refine h3.mono ?_
        rintro e w2 ⟨rfl, hb2⟩
        have HB2 := Bx.mk (HB1.out.trans (hb2.mono HB1.out.size))
        clear hb2 h3
        go_wp2
        go_roundw
        case rel => exact .inr ⟨rfl, by trivial, HB2.out⟩
        case measure => simp [intOf]
      | false =>
        go_wp2_with fail
        go_at_call 92
        refine (h1.out _ (Below.refl _ _)).mono ?_
        rintro e w1 ⟨rfl, hb1⟩
        have HB1 := Bx.mk hb1
        clear hb1 h1 h2 f0 f1 f2 HG
        go_wp2
        go_ret
        exact ⟨rfl, HB1.out⟩
    · have HB1 := Bx.mk hbel
      clear hbel h1 h2 f0 f1 f2 HG
      go_wp2
      go_ret
      exact ⟨rfl, HB1.out⟩
end Go.Proofs.Ytpagoinnkknkfaa.Pb
