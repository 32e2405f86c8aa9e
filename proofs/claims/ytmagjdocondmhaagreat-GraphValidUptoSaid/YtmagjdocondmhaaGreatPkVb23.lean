/- packed -/
import Derived.Test.YtmagjdocondmhaaGreatPkVb22
import Derived.Test.YtmagjdocondmhaaGreatPkVb08
import Derived.Test.YtmagjdocondmhaaGreatPkVb20
import Derived.Test.YtmagjdocondmhaaGreatPkVb16
import Derived.Test.YtmagjdocondmhaaGreatPkVb07
import Derived.Test.YtmagjdocondmhaaGreatRows
set_option linter.unusedVariables false
set_option linter.unusedSimpArgs false
namespace Go.Proofs.YtmagjdocondmhaaGreat.Tr.Gr
open Go Go.RowKit Go.Proofs.YtmagjdocondmhaaGreat.Slc Go.Proofs.YtmagjdocondmhaaGreat.St Go.Proofs.YtmagjdocondmhaaGreat.Mp Go.Proofs.YtmagjdocondmhaaGreat.Tr Go.Proofs.YtmagjdocondmhaaGreat.Rg
attribute [local go_sem] Oper.semAt_some
def vsz (n : Vx) : Nat := 1 + n.par.length + n.ex.length
def lsz (l : List Vt) : Nat := (l.map fun x => vsz x.n).sum
def gsz (g : List Lv) : Nat := (g.map fun L => lsz L.vs).sum
def shortF (l : List B) : Bool := decide (l.length ≤ 20) && shortL l
def shortV (n : Vx) : Bool := decide (n.pol.length ≤ 100) && shortF n.ex
def smallG (g : List Lv) : Bool := (g.all fun L => L.vs.all fun x => shortV x.n) && (decide (g.length ≤ 10) && decide (gsz g ≤ 200))
theorem lsz_snoc (l : List Vt) (x : Vt) : lsz (l ++ [x]) = lsz l + vsz x.n := by simp [lsz]
theorem gsz_snoc (g : List Lv) (L : Lv) : gsz (g ++ [L]) = gsz g + lsz L.vs := by simp [gsz]
theorem lsz_take : ∀ (l : List Vt) (k : Nat), lsz (l.take k) ≤ lsz l
 | [], k => by simp
 | x :: l, 0 => by simp [lsz]
 | x :: l, k + 1 => by
  have := lsz_take l k
  rw [List.take_succ_cons]
  simp only [lsz, List.map_cons, List.sum_cons] at *
  omega
theorem gsz_take : ∀ (g : List Lv) (k : Nat), gsz (g.take k) ≤ gsz g
 | [], k => by simp
 | x :: l, 0 => by simp [gsz]
 | x :: l, k + 1 => by
  have := gsz_take l k
  rw [List.take_succ_cons]
  simp only [gsz, List.map_cons, List.sum_cons] at *
  omega
theorem gsz_mem : ∀ (g : List Lv) (L : Lv), L ∈ g → lsz L.vs ≤ gsz g
 | y :: g, L, h => by
  simp only [gsz, List.map_cons, List.sum_cons]
  rcases List.mem_cons.1 h with rfl | h
  ·omega
  ·have := gsz_mem g L h; unfold gsz at this; omega
theorem lsz_mem : ∀ (l : List Vt) (x : Vt), x ∈ l → vsz x.n ≤ lsz l
 | y :: l, x, h => by
  simp only [lsz, List.map_cons, List.sum_cons]
  rcases List.mem_cons.1 h with rfl | h
  ·omega
  ·have := lsz_mem l x h; unfold lsz at this; omega
theorem lsz_len : ∀ (l : List Vt), l.length ≤ lsz l
 | [] => Nat.le_refl _
 | y :: l => by
  have := lsz_len l
  simp only [lsz, List.map_cons, List.sum_cons, List.length_cons, vsz] at *
  omega
def VrAt (w : World) (x : Vt) : Prop := Rq w x.u.val x.n.ex ∧ Ri w x.q.val x.n.par ∧ x.n.pol.length ≤ 1048576 ∧ ∀ b ∈ x.n.ex, b.length ≤ 1048576
structure GR (w : World) (v : Value) (g : List Lv) : Prop where
 rd : Rd w encL v g
 lv : ∀ L ∈ g, RqIn w (fun k => k < w.heap.size) encV L.s.val L.vs ∧ ∀ x ∈ L.vs, VrAt w x
 len : g.length ≤ 1048576
 sz : gsz g ≤ 1048576
theorem GR.gq {w : World} {v : Value} {g : List Lv} (h : GR w v g) (hs : smallG g = true) : GQ w v g ∧ g.length ≤ 10 ∧ ∀ L ∈ g, L.vs.length ≤ 200 ∧ ∀ x ∈ L.vs, x.n.ex.length ≤ 20 ∧ x.n.par.length ≤ 200 := by
 unfold smallG at hs
 simp only [Bool.and_eq_true, List.all_eq_true, decide_eq_true_eq] at hs
 obtain ⟨h1, h2, h3⟩ := hs
 have key : ∀ L ∈ g, L.vs.length ≤ 200 ∧ ∀ x ∈ L.vs, x.n.ex.length ≤ 20 ∧ x.n.par.length ≤ 200 := fun L hL => by
  have a1 := gsz_mem g L hL
  have a2 := lsz_len L.vs
  refine ⟨by omega, fun x hx => ?_⟩
  have a3 := lsz_mem L.vs x hx
  unfold vsz at a3
  have a4 := h1 L hL x hx
  unfold shortV shortF at a4
  simp only [Bool.and_eq_true, decide_eq_true_eq] at a4
  exact ⟨a4.2.1, by omega⟩
 refine ⟨⟨h.rd, fun L hL => ⟨(h.lv L hL).1, fun x hx => ?_⟩⟩, h2, key⟩
 obtain ⟨b1, b2, b3, b4⟩ := (h.lv L hL).2 x hx
 have a4 := h1 L hL x hx
 unfold shortV shortF shortL at a4
 simp only [Bool.and_eq_true, decide_eq_true_eq, List.all_eq_true] at a4
 have a5 := (key L hL).2 x hx
 exact ⟨b1, b2, ⟨by omega, fun b hb => by have := a4.2.2 b hb; omega⟩, by omega, by omega⟩
set_option maxRecDepth 100000 in
set_option maxHeartbeats 2000000 in
theorem few_q (w : World) (v : Value) (l : List B) (n m : Nat) (h : Rq w v l) (hl : l.length ≤ 9223372036854775807) (hx : ∀ b ∈ l, b.length ≤ 9223372036854775807) (hn : n ≤ 1000000) (hm : m ≤ 1000000) :
  Calls Tryz.prog 33 #[v, .int .i64 n, .int .i64 m] w fun e w' => e = .returned (.bool (fewB l n m)) ∧ w = w' := by
 obtain ⟨ad, c, rfl, -⟩ := h.form
 have HC := Bx.mk ((strs_cells_q h).2 w (Below.refl _ _))
 have HX := Bx.mk hx
 obtain ⟨R, hR⟩ : ∃ R, R = fewB l n m := ⟨_, rfl⟩
 rw [← hR]
 have HR := Bx.mk hR
 obtain ⟨N, hN⟩ : ∃ N, N = l.length := ⟨_, rfl⟩
 have HN := Bx.mk hN
 rw [← hN] at hl ⊢
 clear hR hN h hx
 by_cases hq : N ≤ n
 ·have t1 : decide ((N : Int) > (n : Int)) = false := by rw [decide_eq_false_iff_not]; omega
  have t2 : decide (n < N) = false := by rw [decide_eq_false_iff_not]; omega
  have HR2 := Bx.mk (show R = l.all fun b => decide (b.length ≤ m) by rw [HR.out]; unfold fewB; rw [← HN.out, decide_eq_true hq, Bool.true_and])
  go_enter Tryz.func33, Tryz.ntmps33
  go_wp2_with fail
  go_loop [8, 15] (fun _ i => ∃ k : Nat, k ≤ N ∧ i = .int .i64 (k : Int) ∧ Bx (((l.take k).all fun b => decide (b.length ≤ m)) = true)) (fun _ i => N - (intOf i).toNat)
  case atStart => exact ⟨0, Nat.zero_le _, rfl, ⟨rfl⟩⟩
  case round =>
   obtain ⟨k, hk, rfl, hok⟩ := hrel
   by_cases hlt : k < N
   ·have hkl : k < l.length := by rw [← HN.out]; exact hlt
    obtain ⟨b2, o2, rfl, -, d0⟩ := HC.out k hkl
    have HTM := Bx.mk (List.take_succ_eq_append_getElem hkl)
    have HME := Bx.mk (List.getElem_mem hkl)
    obtain ⟨y, hy⟩ : ∃ y, y = l[k] := ⟨_, rfl⟩
    rw [← hy] at d0 HTM HME
    have hys : (bstr y).size = y.length := bstr_size _
    have hyl := HX.out y HME.out
    obtain ⟨Y, hY⟩ : ∃ Y, Y = y.length := ⟨_, rfl⟩
    have HY := Bx.mk hY
    rw [← hY] at hys hyl
    generalize bstr y = YS at *
    clear hy hkl hY
    by_cases hq2 : Y ≤ m
    ·have t3 : decide ((Y : Int) > (m : Int)) = false := by rw [decide_eq_false_iff_not]; omega
     have t4 : decide (m < Y) = false := by rw [decide_eq_false_iff_not]; omega
     have HN2 := Bx.mk (show ((l.take (k + 1)).all fun b => decide (b.length ≤ m)) = true by
      rw [HTM.out, List.all_append, hok.out]; simp [← HY.out, hq2])
     go_wp2_with fail
     go_round
     case rel => exact ⟨k + 1, by omega, by go_num, HN2⟩
     case measure => simp [intOf]; omega
    ·have t3 : decide ((Y : Int) > (m : Int)) = true := by rw [decide_eq_true_eq]; omega
     have t4 : decide (m < Y) = true := by rw [decide_eq_true_eq]; omega
     have HF := Bx.mk (show R = false by
      rw [HR2.out, List.all_eq_false]
      exact ⟨y, HME.out, by simp [← HY.out, hq2]⟩)
     go_wp2_with fail
     go_ret
     exact ⟨by rw [HF.out]; rfl, rfl⟩
   ·obtain rfl : k = N := by omega
    have HF := Bx.mk (show R = true by rw [HR2.out]; have := hok.out; rw [HN.out, List.take_length] at this; exact this)
    go_wp2_with fail
    go_ret
    exact ⟨by rw [HF.out]; rfl, rfl⟩
 ·have t1 : decide ((N : Int) > (n : Int)) = true := by rw [decide_eq_true_eq]; omega
  have t2 : decide (n < N) = true := by rw [decide_eq_true_eq]; omega
  have HR2 := Bx.mk (show R = false by rw [HR.out]; unfold fewB; rw [← HN.out, decide_eq_false hq, Bool.false_and])
  go_enter Tryz.func33, Tryz.ntmps33
  go_wp2_with fail
  go_ret
  exact ⟨by rw [HR2.out]; rfl, rfl⟩
theorem few_short (l : List B) : fewB l 20 100 = shortF l := rfl
set_option maxRecDepth 100000 in
set_option maxHeartbeats 8000000 in
theorem gsmall_any (w : World) (v : Value) (g : List Lv) (h : GR w v g) :
  Calls Tryz.prog 10 #[v] w fun e w' => e = .returned (.bool (smallG g)) ∧ Below w.heap.size w w' := by
 obtain ⟨ad, c, rfl, -⟩ := h.rd.form
 have HG := Bx.mk h
 have HC := Bx.mk (ls_cells h.rd).2
 obtain ⟨R, hR⟩ : ∃ R, R = smallG g := ⟨_, rfl⟩
 have HR := Bx.mk hR
 rw [← hR]
 obtain ⟨N, hN⟩ : ∃ N, N = g.length := ⟨_, rfl⟩
 have HN := Bx.mk hN
 have hNb : N ≤ 1048576 := by rw [hN]; exact h.len
 rw [← hN]
 have HB0 := Bx.mk (Below.refl w.heap.size w)
 clear h hR hN
 go_enter Tryz.func10, Tryz.ntmps10
 go_wp2_with fail
 go_loopw [3, 4] (fun nv iv wr => ∃ k s : Nat, k ≤ N ∧ iv = .int .i64 k ∧ nv = .int .i64 s ∧ s ≤ 1048576 ∧ Bx (s = gsz (g.take k)) ∧ Bx ((g.take k).all (fun L => L.vs.all fun x => shortV x.n) = true) ∧ Bx (Below w.heap.size w wr)) (fun _ iv _ => N - (intOf iv).toNat)
 case atStart => exact ⟨0, 0, by omega, rfl, rfl, by omega, ⟨rfl⟩, ⟨rfl⟩, HB0⟩
 case round =>
  clear HB0
  obtain ⟨k, s, hk, rfl, rfl, hsb, hS, hA, hB⟩ := hrel
  by_cases hlt : k < N
  ·have HKL := Bx.mk (show k < g.length by rw [← HN.out]; exact hlt)
   have HCL := Bx.mk (fun (W : World) (hW : Below w.heap.size w W) => HC.out W (fun q hq _ => hW.block q hq) k HKL.out)
   obtain ⟨gb, go, rfl, -, l0⟩ := HCL.out wr hB.out
   have HTK := Bx.mk (List.take_succ_eq_append_getElem HKL.out)
   have HLV := Bx.mk (HG.out.lv _ (List.getElem_mem HKL.out))
   have HSL := Bx.mk (show s + lsz (g[k]'HKL.out).vs ≤ 1048576 by
    have h1 := gsz_take g (k + 1)
    rw [HTK.out, gsz_snoc, ← hS.out] at h1
    have := HG.out.sz
    omega)
   have HBAD := Bx.mk (show ((g[k]'HKL.out).vs.all fun x => shortV x.n) = false → R = false from fun hf => by
    rw [HR.out]; unfold smallG; rw [Bool.and_eq_false_iff]; left
    rw [List.all_eq_false]
    exact ⟨_, List.getElem_mem HKL.out, by rw [hf]; simp⟩)
   obtain ⟨L, hL⟩ : ∃ L, L = g[k]'HKL.out := ⟨_, rfl⟩
   rw [← hL] at l0 HTK HLV HSL HBAD HCL
   have HL0 := Bx.mk (show ∀ W, Below w.heap.size w W → W.cell? ⟨gb, go + k, none⟩ = some L.s.val from fun W hW => by
    obtain ⟨b', o', e, -, hc⟩ := HCL.out W hW
    simp only [Option.some.injEq, Addr.mk.injEq, and_true] at e
    obtain ⟨rfl, rfl⟩ := e
    exact hc)
   obtain ⟨la, lc, hls, -⟩ := RqIn.form HLV.out.1
   rw [hls] at l0 HLV HL0
   obtain ⟨NV, hNV⟩ : ∃ NV, NV = L.vs.length := ⟨_, rfl⟩
   have HNV := Bx.mk hNV
   rw [← hNV] at l0 HL0
   have hNVb : NV ≤ 1048576 := by rw [hNV]; have := lsz_len L.vs; have := HSL.out; omega
   have HS0 := Bx.mk (show s = gsz (g.take k) + lsz (L.vs.take 0) by rw [hS.out]; simp [lsz])
   have HB1 := hB
   clear hL hls hNV hS hB HCL
   go_wp2_with fail
   clear l0
   go_loopw [3, 5] (fun nv iv wz => ∃ j s : Nat, j ≤ NV ∧ iv = .int .i64 j ∧ nv = .int .i64 s ∧ s ≤ 1048576 ∧ Bx (s = gsz (g.take k) + lsz (L.vs.take j)) ∧ Bx ((L.vs.take j).all (fun x => shortV x.n) = true) ∧ Bx (Below w.heap.size w wz)) (fun _ iv _ => NV - (intOf iv).toNat)
   case atStart => exact ⟨0, s, by omega, rfl, rfl, hsb, HS0, ⟨rfl⟩, HB1⟩
   case round =>
    clear HS0 HB1
    obtain ⟨j, s, hj, rfl, rfl, hsb, hS, hAj, hB⟩ := hrel
    have l0 := HL0.out wr hB.out
    by_cases hlt2 : j < NV
    ·have hjl : j < L.vs.length := by rw [← HNV.out]; exact hlt2
     have hrd : Rd w encV (.slice la L.vs.length lc) L.vs := HLV.out.1.rd (by omega)
     obtain ⟨b, o, rfl, -, c0, c1, c2⟩ := (vs_cells hrd).2 wr (fun q hq _ => hB.out.block q hq) j hjl
     have hat := (HLV.out.2 _ (List.getElem_mem hjl))
     have HTJ := Bx.mk (List.take_succ_eq_append_getElem hjl)
     have HMJ := Bx.mk (List.getElem_mem hjl)
     obtain ⟨x, hx⟩ : ∃ x, x = L.vs[j] := ⟨_, rfl⟩
     rw [← hx] at c0 c1 c2 hat HTJ HMJ
     obtain ⟨ua, uc, hu, -⟩ := hat.1.form
     obtain ⟨pa, pc, hp, -⟩ := RqIn.form hat.2.1
     have HUQ := Bx.mk (hu ▸ hat.1)
     have hpol := hat.2.2.1
     have HEX := Bx.mk hat.2.2.2
     have HVS := Bx.mk (show s + vsz x.n ≤ 1048576 by
      have h1 := lsz_take L.vs (j + 1)
      rw [HTJ.out, lsz_snoc] at h1
      have h2 := HSL.out
      have h3 := gsz_take g (k + 1)
      rw [HTK.out, gsz_snoc] at h3
      have h4 := HG.out.sz
      have := hS.out
      omega)
     rw [hu] at c1
     rw [hp] at c2
     obtain ⟨EN, hEN⟩ : ∃ EN, EN = x.n.ex.length := ⟨_, rfl⟩
     obtain ⟨PN, hPN⟩ : ∃ PN, PN = x.n.par.length := ⟨_, rfl⟩
     have HEN := Bx.mk hEN
     rw [← hEN] at c1
     rw [← hPN] at c2
     have hsum : s + (1 + PN + EN) ≤ 1048576 := by have := HVS.out; unfold vsz at this; omega
     have HSN := Bx.mk (show s + (1 + PN + EN) = gsz (g.take k) + lsz (L.vs.take (j + 1)) by
      rw [HTJ.out, lsz_snoc, hS.out]; unfold vsz; omega)
     have HSH := Bx.mk (show shortV x.n = true → ((L.vs.take (j + 1)).all fun x => shortV x.n) = true from fun hq => by
      rw [HTJ.out, List.all_append, hAj.out]; simp [hq])
     have HBD := Bx.mk (show shortV x.n = false → R = false from fun hq => HBAD.out (by
      rw [List.all_eq_false]
      exact ⟨x, HMJ.out, by rw [hq]; simp⟩))
     have hps : (bstr x.n.pol).size = x.n.pol.length := bstr_size _
     obtain ⟨PL, hPL⟩ : ∃ PL, PL = x.n.pol.length := ⟨_, rfl⟩
     have HPL := Bx.mk hPL
     rw [← hPL] at hps hpol
     generalize bstr x.n.pol = SB at *
     clear hat hu hp hEN hPN hx hjl hrd hPL
     obtain ⟨W2, hW2⟩ : ∃ W2, W2 = wr.alloc (.cells #[.string SB, .slice ua EN uc, .slice pa PN pc] 65) := ⟨_, rfl⟩
     have hb2 : Below wr.heap.size wr W2 := by rw [hW2]; exact (Below.refl _ _).alloc (Nat.le_refl _) _
     obtain ⟨q2, hq2⟩ : ∃ q, q = wr.heap.size := ⟨_, rfl⟩
     have hr2 : W2.heap[q2]? = some (.cells #[.string SB, .slice ua EN uc, .slice pa PN pc] 65 (0, 0)) := by rw [hW2, hq2]; exact heap_alloc_new _ _
     have m0 := cell_of_row _ _ 0 _ _ _ hr2
     have m1 := cell_of_row _ _ 1 _ _ _ hr2
     have m2 := cell_of_row _ _ 2 _ _ _ hr2
     simp only [List.getElem?_toArray, List.getElem?_cons_zero, List.getElem?_cons_succ] at m0 m1 m2
     have HB2 := Bx.mk (hB.out.trans (hb2.mono hB.out.size))
     clear hb2 hr2
     go_upto_region 9 with fail
     rw [← hW2, ← hq2]
     clear hW2 hq2 c0 c1 c2 l0
     by_cases hp100 : PL > 100
     ·have t1 : decide ((PL : Int) > 100) = true := decide_eq_true (by omega)
      have HRF := Bx.mk (HBD.out (by unfold shortV; rw [← HPL.out, decide_eq_false (by omega)]; rfl))
      clear hp100
      go_wp2_with fail
      go_ret
      exact ⟨by rw [HRF.out]; rfl, HB2.out⟩
     ·have t1 : decide ((PL : Int) > 100) = false := decide_eq_false (by omega)
      have hfew := few_q W2 (.slice ua EN uc) x.n.ex 20 100 (by have := HUQ.out.below HB2.out; rw [HEN.out]; exact this) (by have := HEN.out; omega) (fun b hb => by have := HEX.out b hb; omega) (by omega) (by omega)
      rw [few_short] at hfew
      have HSF := Bx.mk (show shortV x.n = shortF x.n.ex by unfold shortV; rw [← HPL.out, decide_eq_true (by omega : PL ≤ 100), Bool.true_and])
      obtain ⟨fb, hfb⟩ : ∃ fb, fb = shortF x.n.ex := ⟨_, rfl⟩
      have HFB := Bx.mk hfb
      rw [← hfb] at hfew
      clear hp100 hfb
      go_wp2_with fail
      go_at_call 33
      refine hfew.mono ?_
      rintro e W3 ⟨rfl, rfl⟩
      clear hfew
      cases fb with
      | false =>
       have HRF := Bx.mk (HBD.out (by rw [HSF.out, ← HFB.out]))
       go_wp2_with fail
       go_ret
       exact ⟨by rw [HRF.out]; rfl, HB2.out⟩
      | true =>
       have HSN2 := Bx.mk (HSH.out (by rw [HSF.out, ← HFB.out]))
       go_wp2_with fail
       go_roundw
       case rel => exact ⟨j + 1, s + (1 + PN + EN), by omega, by go_num, by go_num, by omega, HSN, HSN2, HB2⟩
       case measure => simp [intOf]; omega
    ·obtain rfl : j = NV := by omega
     have HSF := Bx.mk (show s = gsz (g.take (k + 1)) by rw [HTK.out, gsz_snoc, hS.out, HNV.out, List.take_length])
     have HAF := Bx.mk (show ((g.take (k + 1)).all fun L => L.vs.all fun x => shortV x.n) = true by
      rw [HTK.out, List.all_append, hA.out]
      have := hAj.out
      rw [HNV.out, List.take_length] at this
      simp [this])
     clear hS hAj
     go_wp2_with fail
     go_roundw
     case rel => exact ⟨k + 1, s, by omega, by go_num, rfl, hsb, HSF, HAF, hB⟩
     case measure => simp [intOf]; omega
  ·obtain rfl : k = N := by omega
   have HRF := Bx.mk (show R = (decide ((k : Int) ≤ 10) && decide ((s : Int) ≤ 200)) by
    have h1 := hA.out
    have h2 := hS.out
    rw [HN.out, List.take_length] at h1 h2
    rw [HR.out]
    unfold smallG
    rw [h1, ← h2, ← HN.out, Bool.true_and]
    congr 1 <;> (apply decide_eq_decide.2; omega))
   obtain ⟨R1, hR1⟩ : ∃ R1, R1 = decide ((k : Int) ≤ 10) := ⟨_, rfl⟩
   obtain ⟨R2, hR2⟩ : ∃ R2, R2 = decide ((s : Int) ≤ 200) := ⟨_, rfl⟩
   rw [← hR1, ← hR2] at HRF
   have t1 : decide ((k : Int) ≤ 10) = R1 := hR1.symm
   have t2 : decide ((s : Int) ≤ 200) = R2 := hR2.symm
   clear hR1 hR2
   cases R1 with
   | false =>
    have u1 : ¬ (k : Int) ≤ 10 := of_decide_eq_false t1
    clear t2
    go_wp2_with fail
    go_ret
    exact ⟨by rw [HRF.out]; rfl, hB.out⟩
   | true =>
    have u1 : (k : Int) ≤ 10 := of_decide_eq_true t1
    cases R2 with
    | false =>
     have u2 : ¬ (s : Int) ≤ 200 := of_decide_eq_false t2
     go_wp2_with fail
     go_ret
     exact ⟨by rw [HRF.out]; rfl, hB.out⟩
    | true =>
     have u2 : (s : Int) ≤ 200 := of_decide_eq_true t2
     go_wp2_with fail
     go_ret
     exact ⟨by rw [HRF.out]; rfl, hB.out⟩
theorem root_lens {l : List Lv} (h : gxs l = rootG) : l.length ≤ 100000 ∧ ∀ L ∈ l, L.vs.length ≤ 100000 := by
 have h1 : l.length = 1 := by rw [← gxs_len l, h]; rfl
 refine ⟨by omega, fun L hL => ?_⟩
 have h2 : vxs L.vs ∈ gxs l := List.mem_map.2 ⟨L, hL, rfl⟩
 rw [h] at h2
 have h3 : ∀ q ∈ rootG, q.length ≤ 1 := by decide
 have h4 := h3 _ h2
 rw [vxs_len] at h4
 omega
set_option maxRecDepth 100000 in
set_option maxHeartbeats 8000000 in
theorem law_valid (v : Value) (zs : List Int) (rv : Value) (rg : List Lv) (w : World) (hI : Ints w .i64 v zs) (hR : GR w rv rg) :
  Calls Tryz.prog 3 #[v, rv] w fun e w' => e = .returned (.bool true) ∧ Below w.heap.size w w' := by
 have haw := gawake_any
 have hsm := gsmall_any w rv rg hR
 have HR0 := Bx.mk hR
 have HI0 := Bx.mk hI
 obtain ⟨ra, rc, rfl, -⟩ := hR.rd.form
 clear hR hI
 go_enter Tryz.func3, Tryz.ntmps3
 go_wp2_with fail
 go_at_call 10
 refine hsm.mono ?_
 rintro e w0 ⟨rfl, hb0⟩
 have HB0 := Bx.mk hb0
 clear hsm hb0
 cases hs : smallG rg with
 | false =>
  clear hs
  go_wp2_with fail
  go_at_call 11
  refine (haw _).mono ?_
  rintro e w11 ⟨rfl, hb11⟩
  have HB11 := Bx.mk (HB0.out.trans (hb11.mono HB0.out.size))
  clear haw hb11
  go_wp2_with fail
  go_ret
  exact ⟨rfl, HB11.out⟩
 | true =>
  have hnew := new_any w v zs w0 HI0.out HB0.out
  have HRQ := Bx.mk (HR0.out.gq hs)
  clear hs HR0
  go_wp2_with fail
  refine hnew.mono ?_
  rintro e w1 ⟨rfl, hb1, hD1⟩
  clear hnew
  have hb1' := HB0.out.trans (hb1.mono HB0.out.size)
  obtain ⟨g, hg⟩ : ∃ g, g = w0.heap.size := ⟨_, rfl⟩
  rw [← hg] at hD1 ⊢
  have hgr := ggrown_any w v zs w1 g hD1 hb1'
  clear hg hb1 hb1' hD1 HB0
  go_wp2_with fail
  go_at_call 13
  refine hgr.mono ?_
  rintro e w2 ⟨tv, l, rfl, hT, hG⟩
  clear hgr
  have HG := Bx.mk hG
  obtain ⟨ta, tc, rfl, -⟩ := hT.tr.own.rd.form
  have hch := gchanged_any w v zs w2 g (.slice ta l.length tc) l hT hG
  clear hT hG
  go_wp2_with fail
  go_at_call 14
  refine hch.mono ?_
  rintro e w4 ⟨cv, cl, rfl, hcl, hT4, hg4, hbd⟩
  clear hch
  have HB4 := Bx.mk hT4.bel
  have HRW := Bx.mk (HRQ.out.1.below hT4.bel)
  have HG4 := Bx.mk hT4.tr.gl.q
  have HC4 := Bx.mk hcl
  obtain ⟨ca, cc, hcv, -⟩ := hcl.rd.form
  subst hcv
  have HGN := Bx.mk (show l.length ≤ 100000 ∧ ∀ L ∈ l, L.vs.length ≤ 100000 from ⟨by have := HG.out.lens.1; omega, fun L hL => by have := (HG.out.lens.2 L hL).1; omega⟩)
  have HCN := Bx.mk (show cl.length ≤ 100000 ∧ ∀ L ∈ cl, L.vs.length ≤ 100000 from ⟨by have := hbd.1; omega, fun L hL => by have := (hbd.2 L hL).1; omega⟩)
  have HRN := Bx.mk (show rg.length ≤ 100000 ∧ ∀ L ∈ rg, L.vs.length ≤ 100000 from ⟨by have := HRQ.out.2.1; omega, fun L hL => by have := (HRQ.out.2.2 L hL).1; omega⟩)
  clear hcl hT4 hg4 hbd HG HRQ HI0
  obtain ⟨R1, hR1⟩ : ∃ q, q = gvalidB (gxs l) := ⟨_, rfl⟩
  obtain ⟨R2, hR2⟩ : ∃ q, q = gvalidB (gxs cl) := ⟨_, rfl⟩
  obtain ⟨R3, hR3⟩ : ∃ q, q = gvalidB (gxs rg) := ⟨_, rfl⟩
  obtain ⟨Z1, hZ1⟩ : ∃ q, q = sizG (gxs l) := ⟨_, rfl⟩
  obtain ⟨Z3, hZ3⟩ : ∃ q, q = sizG (gxs rg) := ⟨_, rfl⟩
  have HS := Bx.mk (And.intro hR1 (And.intro hR2 (And.intro hR3 (And.intro hZ1 hZ3))))
  clear hR1 hR2 hR3 hZ1 hZ3
  have t1 : (R1 == R1) = true := by simp
  have t2 : (R2 == R2) = true := by simp
  have t3 : (R3 == R3) = true := by simp
  have HB_4 := Bx.mk (Below.refl w4.heap.size w4)
  have hc := gvalid_q w4 (.slice ta l.length tc) l (HG4.out.below HB_4.out) HGN.out.1 HGN.out.2
  rw [← HS.out.1] at hc
  go_wp2_with fail
  go_at_call 15
  refine hc.mono ?_
  rintro e w5 ⟨rfl, hb⟩
  have HB_5 := Bx.mk (HB_4.out.trans (hb.mono HB_4.out.size))
  clear hc hb
  have hc := rgvalid_q w5 (.slice ta l.length tc) l (HG4.out.below HB_5.out) HGN.out.1 HGN.out.2
  rw [← HS.out.1] at hc
  go_wp2_with fail
  go_at_call 16
  refine hc.mono ?_
  rintro e w6 ⟨rfl, hb⟩
  have HB_6 := Bx.mk (HB_5.out.trans (hb.mono HB_5.out.size))
  clear hc hb
  have hc := gvalid_q w6 (.slice ca cl.length cc) cl (HC4.out.below HB_6.out) HCN.out.1 HCN.out.2
  rw [← HS.out.2.1] at hc
  go_wp2_with fail
  go_at_call 15
  refine hc.mono ?_
  rintro e w7 ⟨rfl, hb⟩
  have HB_7 := Bx.mk (HB_6.out.trans (hb.mono HB_6.out.size))
  clear hc hb
  have hc := rgvalid_q w7 (.slice ca cl.length cc) cl (HC4.out.below HB_7.out) HCN.out.1 HCN.out.2
  rw [← HS.out.2.1] at hc
  go_wp2_with fail
  go_at_call 16
  refine hc.mono ?_
  rintro e w8 ⟨rfl, hb⟩
  have HB_8 := Bx.mk (HB_7.out.trans (hb.mono HB_7.out.size))
  clear hc hb
  have hc := gvalid_q w8 (.slice ra rg.length rc) rg (HRW.out.below HB_8.out) HRN.out.1 HRN.out.2
  rw [← HS.out.2.2.1] at hc
  go_wp2_with fail
  go_at_call 15
  refine hc.mono ?_
  rintro e w9 ⟨rfl, hb⟩
  have HB_9 := Bx.mk (HB_8.out.trans (hb.mono HB_8.out.size))
  clear hc hb
  have hc := rgvalid_q w9 (.slice ra rg.length rc) rg (HRW.out.below HB_9.out) HRN.out.1 HRN.out.2
  rw [← HS.out.2.2.1] at hc
  go_wp2_with fail
  go_at_call 16
  refine hc.mono ?_
  rintro e w10 ⟨rfl, hb⟩
  have HB_10 := Bx.mk (HB_9.out.trans (hb.mono HB_9.out.size))
  clear hc hb
  have hc := gsize_any w10 (.slice ta l.length tc) l (HG4.out.below HB_10.out) HGN.out.1 HGN.out.2
  rw [← HS.out.2.2.2.1] at hc
  go_wp2_with fail
  go_at_call 17
  refine hc.mono ?_
  rintro e w11 ⟨rfl, hb⟩
  have HB_11 := Bx.mk (HB_10.out.trans (hb.mono HB_10.out.size))
  clear hc hb
  have hc := rgsize_any w11 (.slice ta l.length tc) l (HG4.out.below HB_11.out) HGN.out.1 HGN.out.2
  rw [← HS.out.2.2.2.1] at hc
  go_wp2_with fail
  go_at_call 18
  refine hc.mono ?_
  rintro e w12 ⟨rfl, hb⟩
  have HB_12 := Bx.mk (HB_11.out.trans (hb.mono HB_11.out.size))
  clear hc hb
  have hc := gsize_any w12 (.slice ra rg.length rc) rg (HRW.out.below HB_12.out) HRN.out.1 HRN.out.2
  rw [← HS.out.2.2.2.2] at hc
  go_wp2_with fail
  go_at_call 17
  refine hc.mono ?_
  rintro e w13 ⟨rfl, hb⟩
  have HB_13 := Bx.mk (HB_12.out.trans (hb.mono HB_12.out.size))
  clear hc hb
  have hc := rgsize_any w13 (.slice ra rg.length rc) rg (HRW.out.below HB_13.out) HRN.out.1 HRN.out.2
  rw [← HS.out.2.2.2.2] at hc
  go_wp2_with fail
  go_at_call 18
  refine hc.mono ?_
  rintro e w14 ⟨rfl, hb⟩
  have HB_14 := Bx.mk (HB_13.out.trans (hb.mono HB_13.out.size))
  clear hc hb
  have hc := groot_any w14
  go_wp2_with fail
  go_at_call 20
  refine hc.mono ?_
  rintro e w15 ⟨p1, l1, rfl, ho1, hx1, hb⟩
  have HB_15 := Bx.mk (HB_14.out.trans (hb.mono HB_14.out.size))
  have HO1 := Bx.mk ho1.gl.q
  have HX1 := Bx.mk hx1
  obtain ⟨a1, c1, hv1, -⟩ := ho1.own.rd.form
  subst hv1
  clear hc hb ho1 hx1
  have hc := rgroot_any w15
  go_wp2_with fail
  go_at_call 21
  refine hc.mono ?_
  rintro e w16 ⟨p2, l2, rfl, ho2, hx2, hb, -⟩
  have HB_16 := Bx.mk (HB_15.out.trans (hb.mono HB_15.out.size))
  obtain ⟨a2, c2, hv2, -⟩ := ho2.own.rd.form
  subst hv2
  have HLR := Bx.mk (root_lens HX1.out)
  have hc2 := sameg_any w16 (.slice a1 l1.length c1) (.slice a2 l2.length c2) l1 l2 (HO1.out.below hb) ho2.gl.q (by rw [HX1.out, hx2]) HLR.out.1 HLR.out.2
  clear hc hb ho2 hx2
  go_wp2_with fail
  go_at_call 19
  refine hc2.mono ?_
  rintro e w17 ⟨rfl, hb⟩
  have HB_17 := Bx.mk (HB_16.out.trans (hb.mono HB_16.out.size))
  clear hc2 hb
  go_wp2_with fail
  go_at_call 11
  refine (haw _).mono ?_
  rintro e w99 ⟨rfl, hb⟩
  have HB99 := Bx.mk (HB4.out.trans ((HB_17.out.trans (hb.mono HB_17.out.size)).mono HB4.out.size))
  clear haw hb
  go_wp2_with fail
  go_ret
  exact ⟨rfl, HB99.out⟩
end Go.Proofs.YtmagjdocondmhaaGreat.Tr.Gr
namespace Go.Proofs.YtmagjdocondmhaaGreat.Tr.Gr
open Go Go.ChangeShapes Go.WideShapes Go.RowKit Go.Deep Go.Proofs.YtmagjdocondmhaaGreat.Slc Go.Proofs.YtmagjdocondmhaaGreat.Mp Go.Proofs.YtmagjdocondmhaaGreat.Tr
set_option maxRecDepth 10000
theorem bulk_one {H : Type} (d : DataW H) : 1 ≤ Rows.uptoBulk d := by
 cases d with
 | lit l => cases l <;> simp [Rows.uptoBulk]
 | nil => simp [Rows.uptoBulk]
 | ptr d => simp [Rows.uptoBulk]
 | slice elems spare => simp [Rows.uptoBulk]
 | agg parts => simp [Rows.uptoBulk]
 | iface t d => simp [Rows.uptoBulk]
 | map entries => simp [Rows.uptoBulk]
 | held h => simp [Rows.uptoBulk]
theorem bulk_part {H : Type} {d : DataW H} {l : List (DataW H)} (h : d ∈ l) : Rows.uptoBulk d ≤ Rows.uptoBulkAll l := by
 induction l with
 | nil => cases h
 | cons x r ih =>
  simp only [Rows.uptoBulkAll]
  rcases List.mem_cons.1 h with e | e
  ·subst e; omega
  ·have := ih e; omega
theorem bulk_len {H : Type} (l : List (DataW H)) : l.length ≤ Rows.uptoBulkAll l := by
 induction l with
 | nil => simp [Rows.uptoBulkAll]
 | cons x r ih => have := bulk_one x; simp only [Rows.uptoBulkAll, List.length_cons]; omega
theorem bulk_sum {H α : Type} {f : α → Nat} : ∀ (l : List α) (ds : List (DataW H)), l.length = ds.length → (∀ i (h : i < l.length) (h' : i < ds.length), f l[i] ≤ Rows.uptoBulk ds[i]) → (l.map f).sum ≤ Rows.uptoBulkAll ds
 | [], ds, _, _ => by simp
 | x :: l, [], h, _ => by simp at h
 | x :: l, d :: ds, h, hp => by
  have h0 := hp 0 (by simp) (by simp)
  have ih := bulk_sum l ds (by simpa using h) fun i h1 h2 => by
   have := hp (i + 1) (by simp; omega) (by simp; omega)
   simp only [List.getElem_cons_succ] at this
   exact this
  simp only [List.getElem_cons_zero] at h0
  simp only [List.map_cons, List.sum_cons, Rows.uptoBulkAll]
  omega
theorem slice_trod {H α : Type} {enc : TypeId × Value → H} {W : World} {ec : α → List Value} {z : Nat} (E : Enc z ec) {t e : TypeId} (ht : Tryz.prog.underlying t = some (.slice e)) (hz : Tryz.prog.cellsOf e = z) (Pr : α → DataW H → Prop)
  (hel : ∀ {fuel : Nat} {cs : List Value} {x : DataW H × List MemPlace}, DataW.trod enc Tryz.prog W 0 (fun _ => true) true fuel e cs = some x → ∃ a : α, cs = ec a ∧ Pr a x.1)
  {fuel : Nat} {cs : List Value} {x : DataW H × List MemPlace} (h : DataW.trod enc Tryz.prog W 0 (fun _ => true) true fuel t cs = some x) :
  ∃ (u : Sl) (l : List α) (ds : List (DataW H)), cs = [u.val] ∧ RqIn W (fun k => k < W.heap.size) ec u.val l ∧ (u.ad = none → u.c = 0) ∧ l.length = ds.length ∧ (∀ i (h : i < l.length) (h' : i < ds.length), Pr l[i] ds[i]) ∧ Rows.uptoBulkAll ds + 1 ≤ Rows.uptoBulk x.1 := by
 rcases open_slice ht h with ⟨hcs, hx⟩ | ⟨a, len, cap, m, n, D, Pl, hcs, _, hl, hm, hmm, hx, hi⟩
 ·refine ⟨⟨none, 0, 0⟩, [], [], hcs, .inl ⟨rfl, none, 0, rfl⟩, fun _ => rfl, rfl, fun i h => by simp at h, ?_⟩
  rw [hx]
  simp [Rows.uptoBulkAll, Rows.uptoBulk]
 ·simp only [if_true] at hmm
  subst hmm
  have hC : ∀ i : Fin len, ∃ c : α, Pr c (D i.1) ∧ W.cells? 0 (a.add (i.1 * z)) z = some (ec c) := by
   intro i
   obtain ⟨cs', hc, htr⟩ := hi i.1 (by omega)
   rw [hz] at hc
   obtain ⟨c, rfl, hp⟩ := hel htr
   exact ⟨c, hp, hc⟩
  obtain ⟨g, hg⟩ := Classical.axiomOfChoice hC
  obtain ⟨bk, o, spot⟩ := a
  have hbulk : Rows.uptoBulkAll ((List.range len).map D) + 1 ≤ Rows.uptoBulk x.1 := by
   rw [hx]
   simp only [Rows.uptoBulk]
   omega
  have hpr : ∀ i (h : i < (List.ofFn g).length) (h' : i < ((List.range len).map D).length), Pr (List.ofFn g)[i] ((List.range len).map D)[i] := fun i h h' => by
   simp only [List.getElem_ofFn, List.getElem_map, List.getElem_range]
   exact (hg ⟨i, by simpa using h⟩).1
  rcases Nat.eq_zero_or_pos len with h0 | h0
  ·subst h0
   exact ⟨⟨some ⟨bk, o, spot⟩, 0, m⟩, [], [], hcs, .inl ⟨rfl, _, _, rfl⟩, (fun q => by cases q), rfl, fun i h => by simp at h, by simpa using hbulk⟩
  ·have h1 := (hg ⟨0, h0⟩).2
   obtain ⟨_, _, hcell0⟩ := World.cells?_some h1
   have hz0 : 0 < z := E.pos
   have hfirst : ∃ u0, (ec (g ⟨0, h0⟩))[0]? = some u0 := ⟨_, List.getElem?_eq_getElem (by rw [E.len]; exact hz0)⟩
   obtain ⟨u0, hu0⟩ := hfirst
   have hc0 := (hcell0 0 hz0).trans hu0
   have hspot : spot = none := by simpa [Addr.add] using World.cell?_spot hc0
   subst hspot
   have hb : bk < W.heap.size := by
    have := cell_lt hc0
    rw [add_at, add_at] at this
    exact this
   have key : ∀ k (hk : k < len), ∀ j u, (ec (g ⟨k, hk⟩))[j]? = some u → W.cell? ⟨bk, o + (k * z + j), none⟩ = some u := by
    intro k hk j u hj
    have hs := (hg ⟨k, hk⟩).2
    obtain ⟨_, _, hcell⟩ := World.cells?_some hs
    have hj8 : j < z := by have := (List.getElem?_eq_some_iff.1 hj).1; rwa [E.len] at this
    have h2 := (hcell j hj8).trans hj
    rw [add_at, add_at, Nat.add_assoc] at h2
    exact h2
   have hrd : Rd W ec (.slice (some ⟨bk, o, none⟩) len m) (List.ofFn g) := .inr ⟨bk, o, m, by rw [List.length_ofFn], hb, by simp; omega, fun j u hj => by
    obtain ⟨k, hk, i, hi2, he, hj2⟩ := flat_ix E (List.ofFn g) j u hj
    have hkl : k < len := by simpa using hk
    simp only [List.getElem_ofFn] at hj2
    rw [he]
    exact key k hkl i u hj2⟩
   exact ⟨⟨some ⟨bk, o, none⟩, len, m⟩, List.ofFn g, (List.range len).map D, hcs, .inr ⟨hrd, hrd.lt⟩, (fun q => by cases q), by simp, hpr, hbulk⟩
def VrB {H : Type} (W : World) (t : Vt) (d : DataW H) : Prop := (Rq W t.u.val t.n.ex ∧ Ri W t.q.val t.n.par ∧ t.n.pol.length ≤ Rows.uptoBulk d ∧ ∀ b ∈ t.n.ex, b.length ≤ Rows.uptoBulk d) ∧ vsz t.n ≤ Rows.uptoBulk d
theorem cells_intV : Tryz.prog.cellsOf 3 = 1 := by kernel_rfl
theorem cells_ver : Tryz.prog.cellsOf 65 = 3 := by kernel_rfl
theorem cells_lev : Tryz.prog.cellsOf 63 = 1 := by kernel_rfl
theorem ver_trod {H : Type} {enc : TypeId × Value → H} {W : World} {fuel : Nat} {cs : List Value} {x : DataW H × List MemPlace}
  (h : DataW.trod enc Tryz.prog W 0 (fun _ => true) true fuel 65 cs = some x) : ∃ t : Vt, cs = encV t ∧ VrB W t x.1 := by
 obtain ⟨ys, n, rfl, rfl, hlen, hyl, hf⟩ := DataW.trod_struct Tryz.underlying65 h
 rw [cells_ver] at hlen
 match cs, hlen with
 | [c0, c1, c2], _ =>
  match ys, hyl with
  | [y0, y1, y2], _ =>
   have f0 : DataW.trod enc Tryz.prog W 0 (fun _ => true) true n 9 (List.take (Tryz.prog.cellsOf 9) [c0, c1, c2]) = some y0 := hf 0 _ rfl
   have f1 : DataW.trod enc Tryz.prog W 0 (fun _ => true) true n 34 (List.take (Tryz.prog.cellsOf 34) [c1, c2]) = some y1 := hf 1 _ rfl
   have f2 : DataW.trod enc Tryz.prog W 0 (fun _ => true) true n 22 (List.take (Tryz.prog.cellsOf 22) [c2]) = some y2 := hf 2 _ rfl
   simp only [show Tryz.prog.cellsOf 22 = 1 from by kernel_rfl, show Tryz.prog.cellsOf 9 = 1 from by kernel_rfl, show Tryz.prog.cellsOf 34 = 1 from by kernel_rfl, List.take] at f0 f1 f2
   obtain ⟨s0, e0, x0, -⟩ := DataW.trod_string Tryz.underlying9 f0
   obtain ⟨u1, l1, ds1, e1, q1, -, hl1, hp1, hb1⟩ := slice_trod (α := B) encS_ok Tryz.underlying34 cells_str1 (fun b d => b.length + 1 ≤ Rows.uptoBulk d) (fun hh => by
    obtain ⟨s, e, hx, -⟩ := DataW.trod_string Tryz.underlying9 hh
    refine ⟨s.data.toList, ?_, ?_⟩
    ·rw [e]; show _ = [Value.string (bstr s.data.toList)]; rw [bstr_back]
    ·rw [hx]; simp [Rows.uptoBulk]) f1
   obtain ⟨u2, l2, ds2, e2, q2, -, hl2, -, hb2⟩ := slice_trod (α := Int) encI_ok Tryz.underlying22 cells_intV (fun _ _ => True) (fun hh => by
    obtain ⟨z, e, -, -⟩ := DataW.trod_int Tryz.underlying3 hh
    exact ⟨z, e, trivial⟩) f2
   simp only [List.cons.injEq, and_true] at e0 e1 e2
   subst e0 e1 e2
   have hbk : Rows.uptoBulk (DataW.agg (H := H) (List.map (fun y => y.1) [y0, y1, y2])) = Rows.uptoBulk y0.1 + (Rows.uptoBulk y1.1 + Rows.uptoBulk y2.1) + 1 := by
    simp [Rows.uptoBulk, Rows.uptoBulkAll]
   have hbs : Rows.uptoBulk y0.1 = s0.data.toList.length + 1 := by rw [x0]; simp [Rows.uptoBulk]
   have hb1' := bulk_len ds1
   have hb2' := bulk_len ds2
   refine ⟨⟨⟨s0.data.toList, l1, l2⟩, u1, u2⟩, ?_, ⟨q1.imp id fun q => q.1, q2, ?_, fun b hb => ?_⟩, ?_⟩
   ·show _ = [Value.string (bstr s0.data.toList), u1.val, u2.val]
    rw [bstr_back]
   ·show s0.data.toList.length ≤ _
    show s0.data.toList.length ≤ Rows.uptoBulk (DataW.agg (H := H) (List.map (fun y => y.1) [y0, y1, y2]))
    omega
   ·obtain ⟨i, hi, rfl⟩ := List.getElem_of_mem hb
    have hi' : i < ds1.length := by rw [← hl1]; exact hi
    have h3 : l1[i].length + 1 ≤ Rows.uptoBulk ds1[i] := hp1 i hi hi'
    have h4 : Rows.uptoBulk ds1[i] ≤ Rows.uptoBulkAll ds1 := bulk_part (List.getElem_mem hi')
    show l1[i].length ≤ Rows.uptoBulk (DataW.agg (H := H) (List.map (fun y => y.1) [y0, y1, y2]))
    omega
   ·show 1 + l2.length + l1.length ≤ Rows.uptoBulk (DataW.agg (H := H) (List.map (fun y => y.1) [y0, y1, y2]))
    omega
def LrB {H : Type} (W : World) (L : Lv) (d : DataW H) : Prop := RqIn W (fun k => k < W.heap.size) encV L.s.val L.vs ∧ (∀ x ∈ L.vs, Rq W x.u.val x.n.ex ∧ Ri W x.q.val x.n.par ∧ x.n.pol.length ≤ Rows.uptoBulk d ∧ ∀ b ∈ x.n.ex, b.length ≤ Rows.uptoBulk d) ∧ lsz L.vs ≤ Rows.uptoBulk d
theorem lev_trod {H : Type} {enc : TypeId × Value → H} {W : World} {fuel : Nat} {cs : List Value} {x : DataW H × List MemPlace}
  (h : DataW.trod enc Tryz.prog W 0 (fun _ => true) true fuel 63 cs = some x) : ∃ L : Lv, cs = encL L ∧ LrB W L x.1 := by
 obtain ⟨ys, n, rfl, rfl, hlen, hyl, hf⟩ := DataW.trod_struct Tryz.underlying63 h
 rw [cells_lev] at hlen
 match cs, hlen with
 | [c0], _ =>
  match ys, hyl with
  | [y0], _ =>
   have f0 : DataW.trod enc Tryz.prog W 0 (fun _ => true) true n 61 (List.take (Tryz.prog.cellsOf 61) [c0]) = some y0 := hf 0 _ rfl
   simp only [show Tryz.prog.cellsOf 61 = 1 from by kernel_rfl, List.take] at f0
   obtain ⟨u0, l0, ds0, e0, q0, -, hl0, hp0, hb0⟩ := slice_trod (α := Vt) encV_ok Tryz.underlying61 cells_ver (fun t d => VrB W t d) (fun hh => ver_trod hh) f0
   simp only [List.cons.injEq, and_true] at e0
   subst e0
   have hbk : Rows.uptoBulk (DataW.agg (H := H) (List.map (fun y => y.1) [y0])) = Rows.uptoBulk y0.1 + 1 := by
    simp [Rows.uptoBulk, Rows.uptoBulkAll]
   refine ⟨⟨l0, u0⟩, rfl, q0, fun t ht => ?_, ?_⟩
   ·obtain ⟨i, hi, rfl⟩ := List.getElem_of_mem ht
    have hi' : i < ds0.length := by rw [← hl0]; exact hi
    obtain ⟨⟨b1, b2, b3, b4⟩, -⟩ := (hp0 i hi hi' : VrB W l0[i] ds0[i])
    have h4 : Rows.uptoBulk ds0[i] ≤ Rows.uptoBulkAll ds0 := bulk_part (List.getElem_mem hi')
    refine ⟨b1, b2, ?_, fun b hb => ?_⟩
    ·show l0[i].n.pol.length ≤ Rows.uptoBulk (DataW.agg (H := H) (List.map (fun y => y.1) [y0]))
     omega
    ·have b5 : b.length ≤ Rows.uptoBulk ds0[i] := b4 b hb
     show b.length ≤ Rows.uptoBulk (DataW.agg (H := H) (List.map (fun y => y.1) [y0]))
     omega
   ·have hs := bulk_sum (f := fun x : Vt => vsz x.n) l0 ds0 hl0 fun i h1 h2 => (hp0 i h1 h2).2
    show lsz l0 ≤ Rows.uptoBulk (DataW.agg (H := H) (List.map (fun y => y.1) [y0]))
    unfold lsz
    omega
theorem graph_open {H : Type} {enc : TypeId × Value → H} {W : World} {b0 : Nat} {r : Reach} {v : Value} {d : DataW H} {p : List MemPlace}
  (hv : Value.okWide Tryz.prog W r b0 23 v) (h : DataW.Trod enc Tryz.prog W 0 (fun _ => true) true 23 v d p) (hk : Rows.uptoBulk d ≤ 1048576) : ∃ g : List Lv, GR W v g := by
 obtain ⟨a0, len, cap, rfl⟩ := okWide_slice Tryz.underlying23 hv
 obtain ⟨fuel, hf⟩ := h
 obtain ⟨⟨ua, un, uc⟩, l, ds, hcs, hq, hn, hl, hp, hb⟩ := slice_trod (α := Lv) encL_ok Tryz.underlying23 cells_lev (fun L d => LrB W L d) (fun hh => lev_trod hh) hf
 simp [Value.cells, Sl.val] at hcs
 obtain ⟨rfl, rfl, rfl⟩ := hcs
 have hb : Rows.uptoBulkAll ds + 1 ≤ Rows.uptoBulk d := hb
 refine ⟨l, ?_, fun L hL => ?_, ?_, ?_⟩
 ·rcases hq with ⟨rfl, a, c, he⟩ | hq
  ·simp only [Sl.val, Value.slice.injEq] at he
   obtain ⟨rfl, rfl, rfl⟩ := he
   cases a0 with
   | none => exact .inl ⟨by rw [show cap = 0 from hn rfl], rfl⟩
   | some a =>
    obtain ⟨hsp, hlt⟩ := okw_slice Tryz.underlying23 hv
    obtain ⟨bk, o, spot⟩ := a
    simp only at hsp hlt
    subst hsp
    exact .inr ⟨bk, o, cap, rfl, hlt, Nat.zero_le _, fun j u hj => by simp at hj⟩
  ·exact hq.1
 ·obtain ⟨i, hi, rfl⟩ := List.getElem_of_mem hL
  have hi' : i < ds.length := by rw [← hl]; exact hi
  obtain ⟨b1, b2, b3⟩ := hp i hi hi'
  have h4 := bulk_part (List.getElem_mem hi')
  refine ⟨b1, fun x hx => ?_⟩
  obtain ⟨c1, c2, c3, c4⟩ := b2 x hx
  exact ⟨c1, c2, by omega, fun b hb => by have := c4 b hb; omega⟩
 ·have := bulk_len ds; omega
 ·have hs := bulk_sum (f := fun L : Lv => lsz L.vs) l ds hl fun i h1 h2 => (hp i h1 h2).2.2
  unfold gsz
  omega
end Go.Proofs.YtmagjdocondmhaaGreat.Tr.Gr
