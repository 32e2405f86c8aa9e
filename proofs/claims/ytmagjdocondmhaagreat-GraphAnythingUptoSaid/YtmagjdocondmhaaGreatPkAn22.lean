/- packed -/
import Derived.Test.YtmagjdocondmhaaGreatPkAn21
import Derived.Test.YtmagjdocondmhaaGreatRows
set_option linter.unusedVariables false
set_option linter.unusedSimpArgs false
set_option maxRecDepth 100000
set_option maxHeartbeats 64000000
namespace Go.Proofs.YtmagjdocondmhaaGreat.Tr.Gr
open Go Go.RowKit Slc St Mp Tr Rg
attribute [local go_sem] Oper.semAt_some
def vsz (n : Vx) : Nat := 1 + n.par.length + n.ex.length
def lsz (l : List Vt) : Nat := (l.map fun x => vsz x.n).sum
def gsz (g : List Lv) : Nat := (g.map fun L => lsz L.vs).sum
def shortF (l : List B) : Bool := decide (l.length <= 20) && shortL l
def shortV (n : Vx) : Bool := decide (n.pol.length <= 100) && shortF n.ex
def smallG (g : List Lv) : Bool := (g.all fun L => L.vs.all fun x => shortV x.n) && (decide (g.length <= 10) && decide (gsz g <= 200))
theorem lsz_snoc (l : List Vt) (x : Vt) : lsz (l ++ [x]) = lsz l + vsz x.n := by simp [lsz]
theorem gsz_snoc (g : List Lv) (L : Lv) : gsz (g ++ [L]) = gsz g + lsz L.vs := by simp [gsz]
theorem lsz_take : ∀ (l : List Vt) (k : Nat), lsz (l.take k) <= lsz l
 | [], k => by simp
 | x :: l, 0 => by simp [lsz]
 | x :: l, k + 1 => by
  have := lsz_take l k;rw [List.take_succ_cons];simp only [lsz, List.map_cons, List.sum_cons] at *
  omega
theorem gsz_take : ∀ (g : List Lv) (k : Nat), gsz (g.take k) <= gsz g
 | [], k => by simp
 | x :: l, 0 => by simp [gsz]
 | x :: l, k + 1 => by
  have := gsz_take l k;rw [List.take_succ_cons];simp only [gsz, List.map_cons, List.sum_cons] at *
  omega
theorem gsz_mem : ∀ (g : List Lv) (L : Lv), L ∈ g -> lsz L.vs <= gsz g
 | y :: g, L, h => by
  simp only [gsz, List.map_cons, List.sum_cons]
  rcases List.mem_cons.1 h with rfl | h
  ·omega
  ·have := gsz_mem g L h; unfold gsz at this; omega
theorem lsz_mem : ∀ (l : List Vt) (x : Vt), x ∈ l -> vsz x.n <= lsz l
 | y :: l, x, h => by
  simp only [lsz, List.map_cons, List.sum_cons]
  rcases List.mem_cons.1 h with rfl | h
  ·omega
  ·have := lsz_mem l x h; unfold lsz at this; omega
theorem lsz_len : ∀ (l : List Vt), l.length <= lsz l
 | [] => zR _
 | y :: l => by
  have := lsz_len l;simp only [lsz, List.map_cons, List.sum_cons, List.length_cons, vsz] at *
  omega
def VrAt (w : World) (x : Vt) : Prop := Rq w x.u.val x.n.ex /\ Ri w x.q.val x.n.par /\ x.n.pol.length <= 1048576 /\ ∀ b ∈ x.n.ex, b.length <= 1048576
structure GR (w : World) (v : Value) (g : List Lv) : Prop where
 rd : Rd w encL v g
 lv : ∀ L ∈ g, RqIn w (fun k => k < w.heap.size) encV L.s.val L.vs /\ ∀ x ∈ L.vs, VrAt w x
 len : g.length <= 1048576
 sz : gsz g <= 1048576
theorem GR.gq {w : World} {v : Value} {g : List Lv} (h : GR w v g) (hs : smallG g = true) : GQ w v g /\ g.length <= 10 /\ ∀ L ∈ g, L.vs.length <= 200 /\ ∀ x ∈ L.vs, x.n.ex.length <= 20 /\ x.n.par.length <= 200 := by
 unfold smallG at hs;simp only [Bool.and_eq_true, List.all_eq_true, decide_eq_true_eq] at hs
 obtain ⟨h1, h2, h3⟩ := hs
 have key : ∀ L ∈ g, L.vs.length <= 200 /\ ∀ x ∈ L.vs, x.n.ex.length <= 20 /\ x.n.par.length <= 200 := fun L hL => by
  have a1 := gsz_mem g L hL;have a2 := lsz_len L.vs;refine ⟨by omega, fun x hx => ?_⟩;have a3 := lsz_mem L.vs x hx;unfold vsz at a3;have a4 := h1 L hL x hx;unfold shortV shortF at a4;simp only [Bool.and_eq_true, decide_eq_true_eq] at a4
  exact ⟨a4.2.1, by omega⟩
 refine ⟨⟨h.rd, fun L hL => ⟨(h.lv L hL).1, fun x hx => ?_⟩⟩, h2, key⟩;obtain ⟨b1, b2, b3, b4⟩ := (h.lv L hL).2 x hx;have a4 := h1 L hL x hx;unfold shortV shortF shortL at a4;simp only [Bool.and_eq_true, decide_eq_true_eq, List.all_eq_true] at a4
 have a5 := (key L hL).2 x hx;exact ⟨b1, b2, ⟨by omega, fun b hb => by have := a4.2.2 b hb; omega⟩, by omega, by omega⟩
theorem few_q (w : World) (v : Value) (l : List B) (n m : Nat) (h : Rq w v l) (hl : l.length <= 9223372036854775807) (hx : ∀ b ∈ l, b.length <= 9223372036854775807) (hn : n <= 1000000) (hm : m <= 1000000) :
  Calls Tryz.prog 33 #[v, .int .i64 n, .int .i64 m] w fun e w' => e = .returned (.bool (fewB l n m)) /\ w = w' := by
 obtain ⟨ad, c, rfl, -⟩ := h.form;have HC := Bx.mk ((strs_cells_q h).2 w (Below.refl _ _));have HX := Bx.mk hx;obtain ⟨R, hR⟩ : ∃ R, R = fewB l n m := ⟨_, rfl⟩
 rw [<- hR];have HR := Bx.mk hR;obtain ⟨N, hN⟩ : ∃ N, N = l.length := ⟨_, rfl⟩
 have HN := Bx.mk hN;rw [<- hN] at hl |-;clear hR hN h hx;by_cases hq : N <= n
 ·have t1 : decide ((N : Int) > (n : Int)) = false := by rw [decide_eq_false_iff_not]; omega
  have t2 : decide (n < N) = false := by rw [decide_eq_false_iff_not]; omega
  have HR2 := Bx.mk (show R = l.all fun b => decide (b.length <= m) by rw [HR.out]; unfold fewB; rw [<- HN.out, zT hq, Bool.true_and]);go_enter Tryz.func33, Tryz.ntmps33;go_wp2_with fail
  go_loop [8, 15] (fun _ i => ∃ k : Nat, k <= N /\ i = .int .i64 (k : Int) /\ Bx (((l.take k).all fun b => decide (b.length <= m)) = true)) (fun _ i => N - (intOf i).toNat)
  case atStart => exact ⟨0, Nat.zero_le _, rfl, ⟨rfl⟩⟩
  case round =>
   obtain ⟨k, hk, rfl, hok⟩ := hrel;by_cases hlt : k < N
   ·have hkl : k < l.length := by rw [<- HN.out]; exact hlt
    obtain ⟨b2, o2, rfl, -, d0⟩ := HC.out k hkl;have HTM := Bx.mk (zA hkl);have HME := Bx.mk (zM hkl);obtain ⟨y, hy⟩ : ∃ y, y = l[k] := ⟨_, rfl⟩
    rw [<- hy] at d0 HTM HME;have hys : (bstr y).size = y.length := bstr_size _;have hyl := HX.out y HME.out;obtain ⟨Y, hY⟩ : ∃ Y, Y = y.length := ⟨_, rfl⟩
    have HY := Bx.mk hY;rw [<- hY] at hys hyl;generalize bstr y = YS at *;clear hy hkl hY;by_cases hq2 : Y <= m
    ·have t3 : decide ((Y : Int) > (m : Int)) = false := by rw [decide_eq_false_iff_not]; omega
     have t4 : decide (m < Y) = false := by rw [decide_eq_false_iff_not]; omega
     have HN2 := Bx.mk (show ((l.take (k + 1)).all fun b => decide (b.length <= m)) = true by
      rw [HTM.out, List.all_append, hok.out]; simp [<- HY.out, hq2])
     go_wp2_with fail
     go_round
     case rel => exact ⟨k + 1, by omega, by go_num, HN2⟩
     case measure => simp [intOf]; omega
    ·have t3 : decide ((Y : Int) > (m : Int)) = true := by rw [decide_eq_true_eq]; omega
     have t4 : decide (m < Y) = true := by rw [decide_eq_true_eq]; omega
     have HF := Bx.mk (show R = false by
      rw [HR2.out, List.all_eq_false]
      exact ⟨y, HME.out, by simp [<- HY.out, hq2]⟩)
     go_wp2_with fail
     go_ret;exact ⟨by rw [HF.out]; rfl, rfl⟩
   ·obtain rfl : k = N := by omega
    have HF := Bx.mk (show R = true by rw [HR2.out]; have := hok.out; rw [HN.out, List.take_length] at this; exact this);go_wp2_with fail
    go_ret;exact ⟨by rw [HF.out]; rfl, rfl⟩
 ·have t1 : decide ((N : Int) > (n : Int)) = true := by rw [decide_eq_true_eq]; omega
  have t2 : decide (n < N) = true := by rw [decide_eq_true_eq]; omega
  have HR2 := Bx.mk (show R = false by rw [HR.out]; unfold fewB; rw [<- HN.out, zF hq, Bool.false_and]);go_enter Tryz.func33, Tryz.ntmps33;go_wp2_with fail
  go_ret;exact ⟨by rw [HR2.out]; rfl, rfl⟩
theorem few_short (l : List B) : fewB l 20 100 = shortF l := rfl
theorem gsmall_any (w : World) (v : Value) (g : List Lv) (h : GR w v g) :
  Calls Tryz.prog 10 #[v] w fun e w' => e = .returned (.bool (smallG g)) /\ Below w.heap.size w w' := by
 obtain ⟨ad, c, rfl, -⟩ := h.rd.form;have HG := Bx.mk h;have HC := Bx.mk (ls_cells h.rd).2;obtain ⟨R, hR⟩ : ∃ R, R = smallG g := ⟨_, rfl⟩
 have HR := Bx.mk hR;rw [<- hR];obtain ⟨N, hN⟩ : ∃ N, N = g.length := ⟨_, rfl⟩
 have HN := Bx.mk hN;have hNb : N <= 1048576 := by rw [hN]; exact h.len
 rw [<- hN];have HB0 := Bx.mk (Below.refl w.heap.size w);clear h hR hN;go_enter Tryz.func10, Tryz.ntmps10;go_wp2_with fail
 go_loopw [3, 4] (fun nv iv wr => ∃ k s : Nat, k <= N /\ iv = .int .i64 k /\ nv = .int .i64 s /\ s <= 1048576 /\ Bx (s = gsz (g.take k)) /\ Bx ((g.take k).all (fun L => L.vs.all fun x => shortV x.n) = true) /\ Bx (Below w.heap.size w wr)) (fun _ iv _ => N - (intOf iv).toNat)
 case atStart => exact ⟨0, 0, by omega, rfl, rfl, by omega, ⟨rfl⟩, ⟨rfl⟩, HB0⟩
 case round =>
  clear HB0;obtain ⟨k, s, hk, rfl, rfl, hsb, hS, hA, hB⟩ := hrel;by_cases hlt : k < N
  ·have HKL := Bx.mk (show k < g.length by rw [<- HN.out]; exact hlt);have HCL := Bx.mk (fun (W : World) (hW : Below w.heap.size w W) => HC.out W (fun q hq _ => hW.block q hq) k HKL.out);obtain ⟨gb, go, rfl, -, l0⟩ := HCL.out wr hB.out;have HTK := Bx.mk (zA HKL.out);have HLV := Bx.mk (HG.out.lv _ (zM HKL.out))
   have HSL := Bx.mk (show s + lsz (g[k]'HKL.out).vs <= 1048576 by
    have h1 := gsz_take g (k + 1);rw [HTK.out, gsz_snoc, <- hS.out] at h1;have := HG.out.sz
    omega)
   have HBAD := Bx.mk (show ((g[k]'HKL.out).vs.all fun x => shortV x.n) = false -> R = false from fun hf => by
    rw [HR.out]; unfold smallG; rw [Bool.and_eq_false_iff]; left
    rw [List.all_eq_false]
    exact ⟨_, zM HKL.out, by rw [hf]; simp⟩)
   obtain ⟨L, hL⟩ : ∃ L, L = g[k]'HKL.out := ⟨_, rfl⟩
   rw [<- hL] at l0 HTK HLV HSL HBAD HCL
   have HL0 := Bx.mk (show ∀ W, Below w.heap.size w W -> W.cell? ⟨gb, go + k, none⟩ = some L.s.val from fun W hW => by
    obtain ⟨b', o', e, -, hc⟩ := HCL.out W hW;simp only [zO, Addr.mk.injEq, and_true] at e
    obtain ⟨rfl, rfl⟩ := e
    exact hc)
   obtain ⟨la, lc, hls, -⟩ := RqIn.form HLV.out.1;rw [hls] at l0 HLV HL0;obtain ⟨NV, hNV⟩ : ∃ NV, NV = L.vs.length := ⟨_, rfl⟩
   have HNV := Bx.mk hNV;rw [<- hNV] at l0 HL0;have hNVb : NV <= 1048576 := by rw [hNV]; have := lsz_len L.vs; have := HSL.out; omega
   have HS0 := Bx.mk (show s = gsz (g.take k) + lsz (L.vs.take 0) by rw [hS.out]; simp [lsz]);have HB1 := hB;clear hL hls hNV hS hB HCL;go_wp2_with fail
   clear l0;go_loopw [3, 5] (fun nv iv wz => ∃ j s : Nat, j <= NV /\ iv = .int .i64 j /\ nv = .int .i64 s /\ s <= 1048576 /\ Bx (s = gsz (g.take k) + lsz (L.vs.take j)) /\ Bx ((L.vs.take j).all (fun x => shortV x.n) = true) /\ Bx (Below w.heap.size w wz)) (fun _ iv _ => NV - (intOf iv).toNat)
   case atStart => exact ⟨0, s, by omega, rfl, rfl, hsb, HS0, ⟨rfl⟩, HB1⟩
   case round =>
    clear HS0 HB1;obtain ⟨j, s, hj, rfl, rfl, hsb, hS, hAj, hB⟩ := hrel;have l0 := HL0.out wr hB.out;by_cases hlt2 : j < NV
    ·have hjl : j < L.vs.length := by rw [<- HNV.out]; exact hlt2
     have hrd : Rd w encV (.slice la L.vs.length lc) L.vs := HLV.out.1.rd (by omega);obtain ⟨b, o, rfl, -, c0, c1, c2⟩ := (vs_cells hrd).2 wr (fun q hq _ => hB.out.block q hq) j hjl;have hat := (HLV.out.2 _ (zM hjl));have HTJ := Bx.mk (zA hjl);have HMJ := Bx.mk (zM hjl);obtain ⟨x, hx⟩ : ∃ x, x = L.vs[j] := ⟨_, rfl⟩
     rw [<- hx] at c0 c1 c2 hat HTJ HMJ;obtain ⟨ua, uc, hu, -⟩ := hat.1.form;obtain ⟨pa, pc, hp, -⟩ := RqIn.form hat.2.1;have HUQ := Bx.mk (hu ▸ hat.1);have hpol := hat.2.2.1;have HEX := Bx.mk hat.2.2.2
     have HVS := Bx.mk (show s + vsz x.n <= 1048576 by
      have h1 := lsz_take L.vs (j + 1);rw [HTJ.out, lsz_snoc] at h1;have h2 := HSL.out;have h3 := gsz_take g (k + 1);rw [HTK.out, gsz_snoc] at h3;have h4 := HG.out.sz;have := hS.out
      omega)
     rw [hu] at c1;rw [hp] at c2;obtain ⟨EN, hEN⟩ : ∃ EN, EN = x.n.ex.length := ⟨_, rfl⟩
     obtain ⟨PN, hPN⟩ : ∃ PN, PN = x.n.par.length := ⟨_, rfl⟩
     have HEN := Bx.mk hEN;rw [<- hEN] at c1;rw [<- hPN] at c2;have hsum : s + (1 + PN + EN) <= 1048576 := by have := HVS.out; unfold vsz at this; omega
     have HSN := Bx.mk (show s + (1 + PN + EN) = gsz (g.take k) + lsz (L.vs.take (j + 1)) by
      rw [HTJ.out, lsz_snoc, hS.out]; unfold vsz; omega)
     have HSH := Bx.mk (show shortV x.n = true -> ((L.vs.take (j + 1)).all fun x => shortV x.n) = true from fun hq => by
      rw [HTJ.out, List.all_append, hAj.out]; simp [hq])
     have HBD := Bx.mk (show shortV x.n = false -> R = false from fun hq => HBAD.out (by
      rw [List.all_eq_false]
      exact ⟨x, HMJ.out, by rw [hq]; simp⟩))
     have hps : (bstr x.n.pol).size = x.n.pol.length := bstr_size _;obtain ⟨PL, hPL⟩ : ∃ PL, PL = x.n.pol.length := ⟨_, rfl⟩
     have HPL := Bx.mk hPL;rw [<- hPL] at hps hpol;generalize bstr x.n.pol = SB at *;clear hat hu hp hEN hPN hx hjl hrd hPL;obtain ⟨W2, hW2⟩ : ∃ W2, W2 = wr.alloc (.cells #[.string SB, .slice ua EN uc, .slice pa PN pc] 65) := ⟨_, rfl⟩
     have hb2 : Below wr.heap.size wr W2 := (by rw [hW2]; exact (Below.refl _ _).alloc (zR _) _);obtain ⟨q2, hq2⟩ : ∃ q, q = wr.heap.size := ⟨_, rfl⟩
     have hr2 : W2.heap[q2]? = some (.cells #[.string SB, .slice ua EN uc, .slice pa PN pc] 65 (0, 0)) := (by rw [hW2, hq2]; exact heap_alloc_new _ _);have m0 := cell_of_row _ _ 0 _ _ _ hr2;have m1 := cell_of_row _ _ 1 _ _ _ hr2;have m2 := cell_of_row _ _ 2 _ _ _ hr2;simp only [List.getElem?_toArray, List.getElem?_cons_zero, List.getElem?_cons_succ] at m0 m1 m2
     have HB2 := Bx.mk (hB.out.trans (hb2.mono hB.out.size));clear hb2 hr2;go_upto_region 9 with fail
     rw [<- hW2, <- hq2];clear hW2 hq2 c0 c1 c2 l0;by_cases hp100 : PL > 100
     ·have t1 : decide ((PL : Int) > 100) = true := zT (by omega);have HRF := Bx.mk (HBD.out (by unfold shortV; rw [<- HPL.out, zF (by omega)]; rfl));clear hp100;go_wp2_with fail
      go_ret;exact ⟨by rw [HRF.out]; rfl, HB2.out⟩
     ·have t1 : decide ((PL : Int) > 100) = false := zF (by omega);have hfew := few_q W2 (.slice ua EN uc) x.n.ex 20 100 (by have := HUQ.out.below HB2.out; rw [HEN.out]; exact this) (by have := HEN.out; omega) (fun b hb => by have := HEX.out b hb; omega) (by omega) (by omega);rw [few_short] at hfew;have HSF := Bx.mk (show shortV x.n = shortF x.n.ex by unfold shortV; rw [<- HPL.out, zT (by omega : PL <= 100), Bool.true_and]);obtain ⟨fb, hfb⟩ : ∃ fb, fb = shortF x.n.ex := ⟨_, rfl⟩
      have HFB := Bx.mk hfb;rw [<- hfb] at hfew;clear hp100 hfb;go_wp2_with fail
      go_at_call 33;refine hfew.mono ?_;rintro e W3 ⟨rfl, rfl⟩;clear hfew
      cases fb with
      | false =>
       have HRF := Bx.mk (HBD.out (by rw [HSF.out, <- HFB.out]));go_wp2_with fail
       go_ret
       exact ⟨by rw [HRF.out]; rfl, HB2.out⟩
      | true =>
       have HSN2 := Bx.mk (HSH.out (by rw [HSF.out, <- HFB.out]));go_wp2_with fail
       go_roundw
       case rel => exact ⟨j + 1, s + (1 + PN + EN), by omega, by go_num, by go_num, by omega, HSN, HSN2, HB2⟩
       case measure => simp [intOf]; omega
    ·obtain rfl : j = NV := by omega
     have HSF := Bx.mk (show s = gsz (g.take (k + 1)) by rw [HTK.out, gsz_snoc, hS.out, HNV.out, List.take_length])
     have HAF := Bx.mk (show ((g.take (k + 1)).all fun L => L.vs.all fun x => shortV x.n) = true by
      rw [HTK.out, List.all_append, hA.out];have := hAj.out;rw [HNV.out, List.take_length] at this
      simp [this])
     clear hS hAj;go_wp2_with fail
     go_roundw
     case rel => exact ⟨k + 1, s, by omega, by go_num, rfl, hsb, HSF, HAF, hB⟩
     case measure => simp [intOf]; omega
  ·obtain rfl : k = N := by omega
   have HRF := Bx.mk (show R = (decide ((k : Int) <= 10) && decide ((s : Int) <= 200)) by
    have h1 := hA.out;have h2 := hS.out;rw [HN.out, List.take_length] at h1 h2;rw [HR.out];unfold smallG;rw [h1, <- h2, <- HN.out, Bool.true_and]
    congr 1 <;> (apply decide_eq_decide.2; omega))
   obtain ⟨R1, hR1⟩ : ∃ R1, R1 = decide ((k : Int) <= 10) := ⟨_, rfl⟩
   obtain ⟨R2, hR2⟩ : ∃ R2, R2 = decide ((s : Int) <= 200) := ⟨_, rfl⟩
   rw [<- hR1, <- hR2] at HRF;have t1 : decide ((k : Int) <= 10) = R1 := hR1.symm;have t2 : decide ((s : Int) <= 200) = R2 := hR2.symm;clear hR1 hR2
   cases R1 with
   | false =>
    have u1 : ¬ (k : Int) <= 10 := of_decide_eq_false t1;clear t2;go_wp2_with fail
    go_ret
    exact ⟨by rw [HRF.out]; rfl, hB.out⟩
   | true =>
    have u1 : (k : Int) <= 10 := of_decide_eq_true t1
    cases R2 with
    | false =>
     have u2 : ¬ (s : Int) <= 200 := of_decide_eq_false t2;go_wp2_with fail
     go_ret
     exact ⟨by rw [HRF.out]; rfl, hB.out⟩
    | true =>
     have u2 : (s : Int) <= 200 := of_decide_eq_true t2;go_wp2_with fail
     go_ret;exact ⟨by rw [HRF.out]; rfl, hB.out⟩
theorem allJ_of {l : List Vx} {c : Nat} (h : ∀ v ∈ l, v.ex.length <= c) : ∀ k, k <= l.length -> (allJ l k).length <= c * k
 | 0, _ => by simp [allJ]
 | k + 1, hk => by
  rw [allJ_succ];have h1 := allJ_of h k (by omega);have h2 := h l[k]! (by rw [getElem!_pos l k (by omega)]; exact zM _);rw [Nat.mul_succ];omega
theorem map_cellsG {w : World} {ad : Option Addr} {n c : Nat} {l : List (B × B)} (h : Rd w encP (.slice ad n c) l) : n = l.length /\ ∀ (W : World), Below w.heap.size w W -> ∀ k (hk : k < l.length), ∃ b o, ad = some ⟨b, o, none⟩ /\ b < w.heap.size /\ W.cell? ⟨b, o + k * 2, none⟩ = some (.string (bstr l[k].1)) /\ W.cell? ⟨b, o + k * 2 + 1, none⟩ = some (.string (bstr l[k].2)) := by
 obtain ⟨ad', c', hv, -⟩ := h.form;simp only [Value.slice.injEq] at hv
 refine ⟨hv.2.1, fun W hW k hk => ?_⟩;obtain ⟨b, o, c, hv', _, hlt, hc⟩ := h.cells encP_ok (by omega);simp only [Value.slice.injEq] at hv'
 have q := hc W (fun k' hk' => hW.block k' (h.lt k' hk')) k hk;exact ⟨b, o, hv'.1, hlt, q 0 _ (by omega) rfl, q 1 _ (by omega) rfl⟩
theorem root_all {l : List Lv} (h : gxs l = rootG) : l.length <= 10 /\ ∀ L ∈ l, L.vs.length <= 100 /\ (allJ (vxs L.vs) L.vs.length).length <= 100 := by
 have h1 : l.length = 1 := by rw [<- gxs_len l, h]; rfl
 refine ⟨by omega, fun L hL => ?_⟩;have h2 : vxs L.vs ∈ gxs l := List.mem_map.2 ⟨L, hL, rfl⟩;rw [h] at h2;have h3 : ∀ q ∈ rootG, q.length <= 1 /\ (allJ q q.length).length <= 1 := by decide
 have h4 := h3 _ h2;rw [vxs_len] at h4;omega
theorem law_anything (rv : Value) (rg : List Lv) (pv : Value) (ps : List B) (mv : Value) (ms : List (B × B)) (fl : Bool) (w : World) (hR : GR w rv rg)
  (hp : Rd w encS pv ps) (hpl : ps.length <= 9223372036854775807) (hpx : ∀ b ∈ ps, b.length <= 9223372036854775807) (hm : Rd w encP mv ms) (hmx : ∀ m ∈ ms, m.1.length <= 9223372036854775807 /\ m.2.length <= 9223372036854775807) (hml : ms.length <= 9223372036854775807) :
  Calls Tryz.prog 7 #[rv, pv, mv, .bool fl] w fun e w' => e = .returned (.bool true) /\ Below w.heap.size w w' := by
 have haw := gawake_any;have hsm := gsmall_any w rv rg hR;have HR0 := Bx.mk hR;obtain ⟨ra, rc, rfl, -⟩ := hR.rd.form;obtain ⟨pa, pc, rfl, -⟩ := hp.form;obtain ⟨ma, mc, rfl, -⟩ := hm.form;have HP := Bx.mk hp;have HPX := Bx.mk hpx;have HM := Bx.mk hm;have HMX := Bx.mk hmx;obtain ⟨M, hM⟩ : ∃ M, M = ms.length := ⟨_, rfl⟩
 have HMM := Bx.mk hM;obtain ⟨PN, hPN⟩ : ∃ PN, PN = ps.length := ⟨_, rfl⟩
 have HPN := Bx.mk hPN;rw [<- hM] at hml |-;rw [<- hPN] at hpl |-;clear hR hp hpx hm hmx hM hPN;go_enter Tryz.func7, Tryz.ntmps7;go_wp2_with fail
 go_at_call 10;refine hsm.mono ?_;rintro e w0 ⟨rfl, hb0⟩;have HB0 := Bx.mk hb0;have hfw := few_any w0 (.slice pa ps.length pc) ps 10 100 (HP.out.below hb0) (by rw [<- HPN.out]; exact hpl) HPX.out (by omega) (by omega);rw [<- HPN.out] at hfw;obtain ⟨FB, hFB⟩ : ∃ FB, FB = fewB ps 10 100 := ⟨_, rfl⟩
 rw [<- hFB] at hfw;have HFB := Bx.mk hFB;clear hsm hb0 hFB
 cases hs : smallG rg with
 | false =>
  clear hs hfw;go_wp2_with fail
  go_at_call 11;refine (haw _).mono ?_;rintro e w99 ⟨rfl, hb99⟩;have HB99 := Bx.mk (HB0.out.trans (hb99.mono HB0.out.size));clear haw hb99;go_wp2_with fail
  go_ret
  exact ⟨rfl, HB99.out⟩
 | true =>
 have HRQ := Bx.mk (HR0.out.gq hs);clear hs HR0;go_wp2_with fail
 go_at_call 33;refine hfw.mono ?_;rintro e w0' ⟨rfl, rfl⟩;clear hfw
 cases FB with
 | false =>
  go_wp2_with fail
  go_at_call 11;refine (haw _).mono ?_;rintro e w99 ⟨rfl, hb99⟩;have HB99 := Bx.mk (HB0.out.trans (hb99.mono HB0.out.size));clear haw hb99;go_wp2_with fail
  go_ret
  exact ⟨rfl, HB99.out⟩
 | true =>
 rcases Nat.lt_or_ge 10 M with hq | hq
 ·have t1 : decide ((M : Int) > 10) = true := by rw [decide_eq_true_eq]; omega
  go_wp2_with fail
  go_at_call 11;refine (haw _).mono ?_;rintro e w99 ⟨rfl, hb99⟩;have HB99 := Bx.mk (HB0.out.trans (hb99.mono HB0.out.size));clear haw hb99;go_wp2_with fail
  go_ret;exact ⟨rfl, HB99.out⟩
 have t1 : decide ((M : Int) > 10) = false := by rw [decide_eq_false_iff_not]; omega
 have HPS := Bx.mk (show PN <= 10 /\ ∀ p ∈ ps, p.length <= 1000000 by
  have := HFB.out;unfold fewB at this;have := this.symm;simp only [Bool.and_eq_true, List.all_eq_true, decide_eq_true_eq] at this
  rw [HPN.out]
  exact ⟨this.1, fun p hp => by have := this.2 p hp; omega⟩)
 have HMR := Bx.mk (show Rd w0 encP (.slice ma M mc) ms by rw [HMM.out]; exact HM.out.below HB0.out);have HMC := Bx.mk (map_cellsG HMR.out).2;have HPR := Bx.mk (show Rd w0 encS (.slice pa PN pc) ps by rw [HPN.out]; exact HP.out.below HB0.out);have HRW := Bx.mk (HRQ.out.1.below HB0.out);clear HFB HP HM HPX;go_wp2_with fail
 clear t1;go_loop [9] (fun i => ∃ k : Nat, k <= M /\ i = .int .i64 (k : Int) /\ Bx (∀ m ∈ ms.take k, m.1.length <= 1000000 /\ m.2.length <= 1000000)) (fun i => M - (intOf i).toNat)
 case atStart => exact ⟨0, Nat.zero_le _, rfl, ⟨fun m hm => by simp at hm⟩⟩
 case round =>
  obtain ⟨k, hk, rfl, hok⟩ := hrel;by_cases hlt : k < M
  ·have hkl : k < ms.length := by rw [<- HMM.out]; exact hlt
   obtain ⟨b, o, rfl, hbl, c0, c1⟩ := HMC.out w0 (Below.refl _ _) k hkl;have hx := HMX.out _ (zM hkl);have HTK := Bx.mk (zA hkl);obtain ⟨x, hxx⟩ : ∃ x, x = ms[k] := ⟨_, rfl⟩
   rw [<- hxx] at c0 c1 hx HTK;have hys : (bstr x.1).size = x.1.length := bstr_size _;have hzs : (bstr x.2).size = x.2.length := bstr_size _;have hyl := hx.1;have hzl := hx.2;obtain ⟨Y, hY⟩ : ∃ Y, Y = x.1.length := ⟨_, rfl⟩
   obtain ⟨Z, hZ⟩ : ∃ Z, Z = x.2.length := ⟨_, rfl⟩
   have HNX := Bx.mk (show Y <= 100 -> Z <= 100 -> ∀ m ∈ ms.take (k + 1), m.1.length <= 1000000 /\ m.2.length <= 1000000 from fun h1 h2 m hm => by
    rw [HTK.out, List.mem_append, zS] at hm;rcases hm with hm | rfl
    ·exact hok.out m hm
    ·omega)
   rw [<- hY] at hys hyl;rw [<- hZ] at hzs hzl;generalize bstr x.1 = YS at *;generalize bstr x.2 = ZS at *;clear hx hxx hY hZ hkl hbl;by_cases h1 : Y <= 100
   ·have t1 : decide ((Y : Int) > 100) = false := by rw [decide_eq_false_iff_not]; omega
    by_cases h2 : Z <= 100
    ·have t2 : decide ((Z : Int) > 100) = false := by rw [decide_eq_false_iff_not]; omega
     have HN2 := Bx.mk (HNX.out h1 h2);clear HNX h1 h2;go_wp2_with fail
     go_round
     case rel => exact ⟨k + 1, by omega, by go_num, HN2⟩
     case measure => simp [intOf]; omega
    ·have t2 : decide ((Z : Int) > 100) = true := by rw [decide_eq_true_eq]; omega
     clear HNX h1 h2;go_wp2_with fail
     go_at_call 11;refine (haw _).mono ?_;rintro e w99 ⟨rfl, hb99⟩;have HB99 := Bx.mk (HB0.out.trans (hb99.mono HB0.out.size));clear haw hb99;go_wp2_with fail
     go_ret;exact ⟨rfl, HB99.out⟩
   ·have t1 : decide ((Y : Int) > 100) = true := by rw [decide_eq_true_eq]; omega
    clear HNX h1;go_wp2_with fail
    go_at_call 11;refine (haw _).mono ?_;rintro e w99 ⟨rfl, hb99⟩;have HB99 := Bx.mk (HB0.out.trans (hb99.mono HB0.out.size));clear haw hb99;go_wp2_with fail
    go_ret;exact ⟨rfl, HB99.out⟩
  ·obtain rfl : k = M := by omega
   have HMS := Bx.mk (show ∀ m ∈ ms, m.1.length <= 1000000 /\ m.2.length <= 1000000 by have := hok.out; rw [HMM.out, List.take_length] at this; exact this);have HMB := Bx.mk (show ms.length <= 10 by rw [<- HMM.out]; exact hq);have HPB := Bx.mk (show ps.length <= 10 by rw [<- HPN.out]; exact HPS.out.1)
   have HLJ := Bx.mk (show ∀ L ∈ rg, L.vs.length <= 200 /\ (allJ (vxs L.vs) L.vs.length).length <= 4000 from fun L hL => by
    have h1 := HRQ.out.2.2 L hL
    have h2 := allJ_of (l := vxs L.vs) (c := 20) (fun v hv => by
     obtain ⟨x, hx, rfl⟩ := List.mem_map.1 hv
     exact (h1.2 x hx).1) L.vs.length (by rw [vxs_len]; exact zR _)
    omega)
   have HLB := Bx.mk (show LB (gxs rg) 10 200 from ⟨by rw [gxs_len]; exact HRQ.out.2.1, fun q hq => by
    obtain ⟨L, hL, rfl⟩ := List.mem_map.1 hq
    rw [vxs_len]; exact (HLJ.out L hL).1⟩)
   have HJK := Bx.mk (show ∀ k : Nat, (allJ (gxs rg)[k]! ((gxs rg)[k]!).length).length <= 4000 from fun k => by
    by_cases hk : k < rg.length
    ·rw [gxs_at' rg k hk, vxs_len]; exact (HLJ.out _ (zM hk)).2
    ·rw [getElem!_neg _ k (by rw [gxs_len]; exact hk)]; show (0 : Nat) <= 4000; omega)
   have HRL := Bx.mk (show rg.length <= 10 from HRQ.out.2.1);have HB_0 := Bx.mk (Below.refl w0.heap.size w0);clear hok hlt hk HMX HMC HRQ;have hc := genter_any w0 (.slice ra rg.length rc) (.slice pa PN pc) rg ps (HRW.out.below HB_0.out) (HPR.out.below HB_0.out) (by have := HRL.out; omega) (fun L hL => by have := (HLJ.out L hL).1; omega) (fun L hL => by have := (HLJ.out L hL).2; have := HPB.out; omega) (by have := HPB.out; omega) HPS.out.2 fl;go_wp2_with fail
   go_at_call 23;refine hc.mono ?_;rintro e w1 ⟨v1, l1, rfl, ho, hx, hb⟩;have HB_1 := Bx.mk (HB_0.out.trans (hb.mono HB_0.out.size));have HY1_1 := Bx.mk (Below.refl w1.heap.size w1);have HO1 := Bx.mk ho.gl.q;have HX1 := Bx.mk hx;obtain ⟨a1, c1, hv, -⟩ := ho.own.rd.form;subst hv;clear hc ho hx hb;have hc := rgenter_any w1 (.slice ra rg.length rc) (.slice pa PN pc) rg ps (HRW.out.below HB_1.out) (HPR.out.below HB_1.out) (by have := HRL.out; omega) (fun L hL => by have := (HLJ.out L hL).1; omega) (fun L hL => by have := (HLJ.out L hL).2; have := HPB.out; omega) (by have := HPB.out; omega) HPS.out.2 fl;go_wp2_with fail
   go_at_call 24;refine hc.mono ?_;rintro e w2 ⟨v2, l2, rfl, ho, hx, hb, -⟩;have HB_2 := Bx.mk (HB_1.out.trans (hb.mono HB_1.out.size));have HY1_2 := Bx.mk (HY1_1.out.trans (hb.mono HY1_1.out.size));have HY2_2 := Bx.mk (Below.refl w2.heap.size w2);have HO2 := Bx.mk ho.gl.q;have HX2 := Bx.mk hx;obtain ⟨a2, c2, hv, -⟩ := ho.own.rd.form;subst hv;clear hc ho hx hb;have hc := gmap_any w2 (.slice ra rg.length rc) (.slice ma _ mc) rg ms (HRW.out.below HB_2.out) (HMR.out.below HB_2.out) (by have := HRL.out; omega) (fun L hL => by have := (HLJ.out L hL).1; omega) (by have := HMB.out; omega) HMS.out fl;go_wp2_with fail
   go_at_call 26;refine hc.mono ?_;rintro e w3 ⟨v3, l3, rfl, ho, hx, hb⟩;have HB_3 := Bx.mk (HB_2.out.trans (hb.mono HB_2.out.size));have HY1_3 := Bx.mk (HY1_2.out.trans (hb.mono HY1_2.out.size));have HY2_3 := Bx.mk (HY2_2.out.trans (hb.mono HY2_2.out.size));have HY3_3 := Bx.mk (Below.refl w3.heap.size w3);have HO3 := Bx.mk ho.gl.q;have HX3 := Bx.mk hx;obtain ⟨a3, c3, hv, -⟩ := ho.own.rd.form;subst hv;clear hc ho hx hb;have hc := rgmap_any w3 (.slice ra rg.length rc) (.slice ma _ mc) rg ms (HRW.out.below HB_3.out) (HMR.out.below HB_3.out) (by have := HRL.out; omega) (fun L hL => by have := (HLJ.out L hL).1; omega) (by have := HMB.out; omega) HMS.out fl;go_wp2_with fail
   go_at_call 27;refine hc.mono ?_;rintro e w4 ⟨v4, l4, rfl, ho, hx, hb, -⟩;have HB_4 := Bx.mk (HB_3.out.trans (hb.mono HB_3.out.size));have HY1_4 := Bx.mk (HY1_3.out.trans (hb.mono HY1_3.out.size));have HY2_4 := Bx.mk (HY2_3.out.trans (hb.mono HY2_3.out.size));have HY3_4 := Bx.mk (HY3_3.out.trans (hb.mono HY3_3.out.size));have HY4_4 := Bx.mk (Below.refl w4.heap.size w4);have HO4 := Bx.mk ho.gl.q;have HX4 := Bx.mk hx;obtain ⟨a4, c4, hv, -⟩ := ho.own.rd.form;subst hv;clear hc ho hx hb;have hc := grestr2_any w4 (.slice ra rg.length rc) (.slice pa PN pc) rg ps (HRW.out.below HB_4.out) (HPR.out.below HB_4.out) (by have := HRL.out; omega) (fun L hL => by have := (HLJ.out L hL).1; omega) (by have := HPB.out; omega) HPS.out.2;go_wp2_with fail
   go_at_call 28;refine hc.mono ?_;rintro e w5 ⟨v5, l5, rfl, ho, hx, hb⟩;have HB_5 := Bx.mk (HB_4.out.trans (hb.mono HB_4.out.size));have HY1_5 := Bx.mk (HY1_4.out.trans (hb.mono HY1_4.out.size));have HY2_5 := Bx.mk (HY2_4.out.trans (hb.mono HY2_4.out.size));have HY3_5 := Bx.mk (HY3_4.out.trans (hb.mono HY3_4.out.size));have HY4_5 := Bx.mk (HY4_4.out.trans (hb.mono HY4_4.out.size));have HY5_5 := Bx.mk (Below.refl w5.heap.size w5);have HO5 := Bx.mk ho.gl.q;have HX5 := Bx.mk hx;obtain ⟨a5, c5, hv, -⟩ := ho.own.rd.form;subst hv;clear hc ho hx hb;have hc := rgrestr2_any w5 (.slice ra rg.length rc) (.slice pa PN pc) rg ps (HRW.out.below HB_5.out) (HPR.out.below HB_5.out) (by have := HRL.out; omega) (fun L hL => by have := (HLJ.out L hL).1; omega) (by have := HPB.out; omega) HPS.out.2;go_wp2_with fail
   go_at_call 29;refine hc.mono ?_;rintro e w6 ⟨v6, l6, rfl, ho, hx, hb, -⟩;have HB_6 := Bx.mk (HB_5.out.trans (hb.mono HB_5.out.size));have HY1_6 := Bx.mk (HY1_5.out.trans (hb.mono HY1_5.out.size));have HY2_6 := Bx.mk (HY2_5.out.trans (hb.mono HY2_5.out.size));have HY3_6 := Bx.mk (HY3_5.out.trans (hb.mono HY3_5.out.size));have HY4_6 := Bx.mk (HY4_5.out.trans (hb.mono HY4_5.out.size));have HY5_6 := Bx.mk (HY5_5.out.trans (hb.mono HY5_5.out.size));have HY6_6 := Bx.mk (Below.refl w6.heap.size w6);have HO6 := Bx.mk ho.gl.q;have HX6 := Bx.mk hx;obtain ⟨a6, c6, hv, -⟩ := ho.own.rd.form;subst hv;clear hc ho hx hb;have hc := groot_any w6;go_wp2_with fail
   go_at_call 20;refine hc.mono ?_;rintro e w7 ⟨v7, l7, rfl, ho, hx, hb⟩;have HB_7 := Bx.mk (HB_6.out.trans (hb.mono HB_6.out.size));have HY1_7 := Bx.mk (HY1_6.out.trans (hb.mono HY1_6.out.size));have HY2_7 := Bx.mk (HY2_6.out.trans (hb.mono HY2_6.out.size));have HY3_7 := Bx.mk (HY3_6.out.trans (hb.mono HY3_6.out.size));have HY4_7 := Bx.mk (HY4_6.out.trans (hb.mono HY4_6.out.size));have HY5_7 := Bx.mk (HY5_6.out.trans (hb.mono HY5_6.out.size));have HY6_7 := Bx.mk (HY6_6.out.trans (hb.mono HY6_6.out.size));have HY7_7 := Bx.mk (Below.refl w7.heap.size w7);have HO7 := Bx.mk ho.gl.q;have HX7 := Bx.mk hx;have HRA7 := Bx.mk (root_all hx);obtain ⟨a7, c7, hv, -⟩ := ho.own.rd.form;subst hv;clear hc ho hx hb;have hc := genter_any w7 (.slice a7 l7.length c7) (.slice pa PN pc) l7 ps (HO7.out.below HY7_7.out) (HPR.out.below HB_7.out) (by have := HRA7.out.1; omega) (fun L hL => by have := (HRA7.out.2 L hL).1; omega) (fun L hL => by have := (HRA7.out.2 L hL).2; have := HPB.out; omega) (by have := HPB.out; omega) HPS.out.2 fl;go_wp2_with fail
   go_at_call 23;refine hc.mono ?_;rintro e w8 ⟨v8, l8, rfl, ho, hx, hb⟩;have HB_8 := Bx.mk (HB_7.out.trans (hb.mono HB_7.out.size));have HY1_8 := Bx.mk (HY1_7.out.trans (hb.mono HY1_7.out.size));have HY2_8 := Bx.mk (HY2_7.out.trans (hb.mono HY2_7.out.size));have HY3_8 := Bx.mk (HY3_7.out.trans (hb.mono HY3_7.out.size));have HY4_8 := Bx.mk (HY4_7.out.trans (hb.mono HY4_7.out.size));have HY5_8 := Bx.mk (HY5_7.out.trans (hb.mono HY5_7.out.size));have HY6_8 := Bx.mk (HY6_7.out.trans (hb.mono HY6_7.out.size));have HY7_8 := Bx.mk (HY7_7.out.trans (hb.mono HY7_7.out.size));have HY8_8 := Bx.mk (Below.refl w8.heap.size w8);have HO8 := Bx.mk ho.gl.q;have HX8 := Bx.mk hx;obtain ⟨a8, c8, hv, -⟩ := ho.own.rd.form;subst hv;clear hc ho hx hb;have hc := rgroot_any w8;go_wp2_with fail
   go_at_call 21;refine hc.mono ?_;rintro e w9 ⟨v9, l9, rfl, ho, hx, hb, -⟩;have HB_9 := Bx.mk (HB_8.out.trans (hb.mono HB_8.out.size));have HY1_9 := Bx.mk (HY1_8.out.trans (hb.mono HY1_8.out.size));have HY2_9 := Bx.mk (HY2_8.out.trans (hb.mono HY2_8.out.size));have HY3_9 := Bx.mk (HY3_8.out.trans (hb.mono HY3_8.out.size));have HY4_9 := Bx.mk (HY4_8.out.trans (hb.mono HY4_8.out.size));have HY5_9 := Bx.mk (HY5_8.out.trans (hb.mono HY5_8.out.size));have HY6_9 := Bx.mk (HY6_8.out.trans (hb.mono HY6_8.out.size));have HY7_9 := Bx.mk (HY7_8.out.trans (hb.mono HY7_8.out.size));have HY8_9 := Bx.mk (HY8_8.out.trans (hb.mono HY8_8.out.size));have HY9_9 := Bx.mk (Below.refl w9.heap.size w9);have HO9 := Bx.mk ho.gl.q;have HX9 := Bx.mk hx;have HRA9 := Bx.mk (root_all hx);obtain ⟨a9, c9, hv, -⟩ := ho.own.rd.form;subst hv;clear hc ho hx hb;have hc := rgenter_any w9 (.slice a9 l9.length c9) (.slice pa PN pc) l9 ps (HO9.out.below HY9_9.out) (HPR.out.below HB_9.out) (by have := HRA9.out.1; omega) (fun L hL => by have := (HRA9.out.2 L hL).1; omega) (fun L hL => by have := (HRA9.out.2 L hL).2; have := HPB.out; omega) (by have := HPB.out; omega) HPS.out.2 fl;go_wp2_with fail
   go_at_call 24;refine hc.mono ?_;rintro e w10 ⟨v10, l10, rfl, ho, hx, hb, -⟩;have HB_10 := Bx.mk (HB_9.out.trans (hb.mono HB_9.out.size));have HY1_10 := Bx.mk (HY1_9.out.trans (hb.mono HY1_9.out.size));have HY2_10 := Bx.mk (HY2_9.out.trans (hb.mono HY2_9.out.size));have HY3_10 := Bx.mk (HY3_9.out.trans (hb.mono HY3_9.out.size));have HY4_10 := Bx.mk (HY4_9.out.trans (hb.mono HY4_9.out.size));have HY5_10 := Bx.mk (HY5_9.out.trans (hb.mono HY5_9.out.size));have HY6_10 := Bx.mk (HY6_9.out.trans (hb.mono HY6_9.out.size));have HY7_10 := Bx.mk (HY7_9.out.trans (hb.mono HY7_9.out.size));have HY8_10 := Bx.mk (HY8_9.out.trans (hb.mono HY8_9.out.size));have HY9_10 := Bx.mk (HY9_9.out.trans (hb.mono HY9_9.out.size));have HY10_10 := Bx.mk (Below.refl w10.heap.size w10);have HO10 := Bx.mk ho.gl.q;have HX10 := Bx.mk hx;obtain ⟨a10, c10, hv, -⟩ := ho.own.rd.form;subst hv;clear hc ho hx hb;have HL1 := Bx.mk (show LB (gxs l1) 11 4210 by rw [HX1.out]; exact (HLB.out.enter HJK.out ps HPB.out fl).mono (by omega) (by omega));have HL3 := Bx.mk (show LB (gxs l3) 11 4210 by rw [HX3.out]; exact (HLB.out.map ms HMB.out fl).mono (by omega) (by omega));have HL5 := Bx.mk (show LB (gxs l5) 11 4210 by rw [HX5.out]; exact (HLB.out.restr ps HPB.out).mono (by omega) (by omega));have HLR := Bx.mk (show LB rootG 10 200 from ⟨by decide, by decide⟩)
   have HJR := Bx.mk (show ∀ k : Nat, (allJ rootG[k]! (rootG[k]!).length).length <= 4000 from fun k => by
    cases k with
    | zero => show (allJ rootG[0]! (rootG[0]!).length).length <= 4000; decide
    | succ k => rw [getElem!_neg rootG (k + 1) (by show ¬ k + 1 < 1; omega)]; show (0 : Nat) <= 4000; omega)
   have HL8 := Bx.mk (show LB (gxs l8) 11 4210 by rw [HX8.out, HX7.out]; exact (HLR.out.enter HJR.out ps HPB.out fl).mono (by omega) (by omega));have HE12 := Bx.mk (show gxs l1 = gxs l2 by rw [HX1.out, HX2.out]);have HE34 := Bx.mk (show gxs l3 = gxs l4 by rw [HX3.out, HX4.out]);have HE56 := Bx.mk (show gxs l5 = gxs l6 by rw [HX5.out, HX6.out]);have HE810 := Bx.mk (show gxs l8 = gxs l10 by rw [HX8.out, HX10.out, HX7.out, HX9.out]);rw [HX7.out, HX9.out];obtain ⟨q1, hq1⟩ : ∃ q, q = (genterP (gxs rg) ps fl).2 := ⟨_, rfl⟩
   obtain ⟨q2, hq2⟩ : ∃ q, q = (gmapP (gxs rg) ms fl).2 := ⟨_, rfl⟩
   obtain ⟨q3, hq3⟩ : ∃ q, q = (gresP (gxs rg) ps).2 := ⟨_, rfl⟩
   obtain ⟨q4, hq4⟩ : ∃ q, q = (genterP rootG ps fl).2 := ⟨_, rfl⟩
   rw [<- hq1, <- hq2, <- hq3, <- hq4];have t1 : (q1 == q1) = true := by simp
   have t2 : (q2 == q2) = true := by simp
   have t3 : (q3 == q3) = true := by simp
   have t4 : (q4 == q4) = true := by simp
   clear hq1 hq2 hq3 hq4;have hc := sameg_any w10 (.slice a1 l1.length c1) (.slice a2 l2.length c2) l1 l2 (HO1.out.below HY1_10.out) (HO2.out.below HY2_10.out) HE12.out (by have := HL1.out.lv.1; omega) (fun L hL => by have := HL1.out.lv.2 L hL; omega);go_wp2_with fail
   go_at_call 19;refine hc.mono ?_;rintro e w11 ⟨rfl, hb⟩;have HB_11 := Bx.mk (HB_10.out.trans (hb.mono HB_10.out.size));have HY1_11 := Bx.mk (HY1_10.out.trans (hb.mono HY1_10.out.size));have HY2_11 := Bx.mk (HY2_10.out.trans (hb.mono HY2_10.out.size));have HY3_11 := Bx.mk (HY3_10.out.trans (hb.mono HY3_10.out.size));have HY4_11 := Bx.mk (HY4_10.out.trans (hb.mono HY4_10.out.size));have HY5_11 := Bx.mk (HY5_10.out.trans (hb.mono HY5_10.out.size));have HY6_11 := Bx.mk (HY6_10.out.trans (hb.mono HY6_10.out.size));have HY7_11 := Bx.mk (HY7_10.out.trans (hb.mono HY7_10.out.size));have HY8_11 := Bx.mk (HY8_10.out.trans (hb.mono HY8_10.out.size));have HY9_11 := Bx.mk (HY9_10.out.trans (hb.mono HY9_10.out.size));have HY10_11 := Bx.mk (HY10_10.out.trans (hb.mono HY10_10.out.size));clear hc hb;have hc := sameg_any w11 (.slice a3 l3.length c3) (.slice a4 l4.length c4) l3 l4 (HO3.out.below HY3_11.out) (HO4.out.below HY4_11.out) HE34.out (by have := HL3.out.lv.1; omega) (fun L hL => by have := HL3.out.lv.2 L hL; omega);go_wp2_with fail
   go_at_call 19;refine hc.mono ?_;rintro e w12 ⟨rfl, hb⟩;have HB_12 := Bx.mk (HB_11.out.trans (hb.mono HB_11.out.size));have HY1_12 := Bx.mk (HY1_11.out.trans (hb.mono HY1_11.out.size));have HY2_12 := Bx.mk (HY2_11.out.trans (hb.mono HY2_11.out.size));have HY3_12 := Bx.mk (HY3_11.out.trans (hb.mono HY3_11.out.size));have HY4_12 := Bx.mk (HY4_11.out.trans (hb.mono HY4_11.out.size));have HY5_12 := Bx.mk (HY5_11.out.trans (hb.mono HY5_11.out.size));have HY6_12 := Bx.mk (HY6_11.out.trans (hb.mono HY6_11.out.size));have HY7_12 := Bx.mk (HY7_11.out.trans (hb.mono HY7_11.out.size));have HY8_12 := Bx.mk (HY8_11.out.trans (hb.mono HY8_11.out.size));have HY9_12 := Bx.mk (HY9_11.out.trans (hb.mono HY9_11.out.size));have HY10_12 := Bx.mk (HY10_11.out.trans (hb.mono HY10_11.out.size));clear hc hb;have hc := sameg_any w12 (.slice a5 l5.length c5) (.slice a6 l6.length c6) l5 l6 (HO5.out.below HY5_12.out) (HO6.out.below HY6_12.out) HE56.out (by have := HL5.out.lv.1; omega) (fun L hL => by have := HL5.out.lv.2 L hL; omega);go_wp2_with fail
   go_at_call 19;refine hc.mono ?_;rintro e w13 ⟨rfl, hb⟩;have HB_13 := Bx.mk (HB_12.out.trans (hb.mono HB_12.out.size));have HY1_13 := Bx.mk (HY1_12.out.trans (hb.mono HY1_12.out.size));have HY2_13 := Bx.mk (HY2_12.out.trans (hb.mono HY2_12.out.size));have HY3_13 := Bx.mk (HY3_12.out.trans (hb.mono HY3_12.out.size));have HY4_13 := Bx.mk (HY4_12.out.trans (hb.mono HY4_12.out.size));have HY5_13 := Bx.mk (HY5_12.out.trans (hb.mono HY5_12.out.size));have HY6_13 := Bx.mk (HY6_12.out.trans (hb.mono HY6_12.out.size));have HY7_13 := Bx.mk (HY7_12.out.trans (hb.mono HY7_12.out.size));have HY8_13 := Bx.mk (HY8_12.out.trans (hb.mono HY8_12.out.size));have HY9_13 := Bx.mk (HY9_12.out.trans (hb.mono HY9_12.out.size));have HY10_13 := Bx.mk (HY10_12.out.trans (hb.mono HY10_12.out.size));clear hc hb;have hc := sameg_any w13 (.slice a8 l8.length c8) (.slice a10 l10.length c10) l8 l10 (HO8.out.below HY8_13.out) (HO10.out.below HY10_13.out) HE810.out (by have := HL8.out.lv.1; omega) (fun L hL => by have := HL8.out.lv.2 L hL; omega);go_wp2_with fail
   go_at_call 19;refine hc.mono ?_;rintro e w14 ⟨rfl, hb⟩;have HB_14 := Bx.mk (HB_13.out.trans (hb.mono HB_13.out.size));have HY1_14 := Bx.mk (HY1_13.out.trans (hb.mono HY1_13.out.size));have HY2_14 := Bx.mk (HY2_13.out.trans (hb.mono HY2_13.out.size));have HY3_14 := Bx.mk (HY3_13.out.trans (hb.mono HY3_13.out.size));have HY4_14 := Bx.mk (HY4_13.out.trans (hb.mono HY4_13.out.size));have HY5_14 := Bx.mk (HY5_13.out.trans (hb.mono HY5_13.out.size));have HY6_14 := Bx.mk (HY6_13.out.trans (hb.mono HY6_13.out.size));have HY7_14 := Bx.mk (HY7_13.out.trans (hb.mono HY7_13.out.size));have HY8_14 := Bx.mk (HY8_13.out.trans (hb.mono HY8_13.out.size));have HY9_14 := Bx.mk (HY9_13.out.trans (hb.mono HY9_13.out.size));have HY10_14 := Bx.mk (HY10_13.out.trans (hb.mono HY10_13.out.size));clear hc hb;have hc := gpol2_any w14 (.slice ra rg.length rc) rg (HRW.out.below HB_14.out) (by have := HRL.out; omega) (fun L hL => by have := (HLJ.out L hL).1; omega);have HPL := Bx.mk (show (gpolP (gxs rg)).length <= 1000000 from gpol_len HLB.out (by omega));obtain ⟨R, hR⟩ : ∃ R, R = gpolP (gxs rg) := ⟨_, rfl⟩
   rw [<- hR] at hc HPL;have HR := Bx.mk hR;clear hR;go_wp2_with fail
   go_at_call 31;refine hc.mono ?_;rintro e w15 ⟨y1, rfl, ho, hb⟩;have HB_15 := Bx.mk (HB_14.out.trans (hb.mono HB_14.out.size));have HS1 := Bx.mk ho.rd;obtain ⟨y1a, y1c, hy1, -⟩ := ho.rd.form;subst hy1;clear hc ho hb;have hc := rgpol2_any w15 (.slice ra rg.length rc) rg (HRW.out.below HB_15.out) (by have := HRL.out; omega) (fun L hL => by have := (HLJ.out L hL).1; omega);rw [<- HR.out] at hc;go_wp2_with fail
   go_at_call 32;refine hc.mono ?_;rintro e w16 ⟨y2, rfl, ho, hb⟩;have HB_16 := Bx.mk (HB_15.out.trans (hb.mono HB_15.out.size));have HS2 := Bx.mk ho.rd;have HS3 := Bx.mk (HS1.out.below hb);obtain ⟨y2a, y2c, hy2, -⟩ := ho.rd.form;subst hy2;clear hc ho hb;have hc := rsame_any w16 _ _ R R HS3.out HS2.out HPL.out;rw [zT rfl] at hc;go_wp2_with fail
   go_at_call 30;refine hc.mono ?_;rintro e w17 ⟨rfl, hb⟩;have HB_17 := Bx.mk (HB_16.out.trans (hb.mono HB_16.out.size));clear hc hb;go_wp2_with fail
   go_at_call 11;refine (haw _).mono ?_;rintro e w99 ⟨rfl, hb⟩;have HB99 := Bx.mk (HB0.out.trans ((HB_17.out.trans (hb.mono HB_17.out.size)).mono HB0.out.size));clear haw hb;go_wp2_with fail
   go_ret;exact ⟨rfl, HB99.out⟩
end Go.Proofs.YtmagjdocondmhaaGreat.Tr.Gr
namespace Go.Proofs.YtmagjdocondmhaaGreat.Tr.Gr
open Go Go.ChangeShapes Go.WideShapes Go.RowKit Go.Deep Slc Mp Tr
theorem bulk_one {H : Type} (d : DataW H) : 1 <= Rows.uptoBulk d := by
 cases d with
 | lit l => cases l <;> simp [Rows.uptoBulk]
 | nil => simp [Rows.uptoBulk]
 | ptr d => simp [Rows.uptoBulk]
 | slice elems spare => simp [Rows.uptoBulk]
 | agg parts => simp [Rows.uptoBulk]
 | iface t d => simp [Rows.uptoBulk]
 | map entries => simp [Rows.uptoBulk]
 | held h => simp [Rows.uptoBulk]
theorem bulk_part {H : Type} {d : DataW H} {l : List (DataW H)} (h : d ∈ l) : Rows.uptoBulk d <= Rows.uptoBulkAll l := by
 induction l with
 | nil => cases h
 | cons x r ih =>
  simp only [Rows.uptoBulkAll]
  rcases List.mem_cons.1 h with e | e
  ·subst e; omega
  ·have := ih e; omega
theorem bulk_len {H : Type} (l : List (DataW H)) : l.length <= Rows.uptoBulkAll l := by
 induction l with
 | nil => simp [Rows.uptoBulkAll]
 | cons x r ih => have := bulk_one x; simp only [Rows.uptoBulkAll, List.length_cons]; omega
theorem bulk_sum {H α : Type} {f : α -> Nat} : ∀ (l : List α) (ds : List (DataW H)), l.length = ds.length -> (∀ i (h : i < l.length) (h' : i < ds.length), f l[i] <= Rows.uptoBulk ds[i]) -> (l.map f).sum <= Rows.uptoBulkAll ds
 | [], ds, _, _ => by simp
 | x :: l, [], h, _ => by simp at h
 | x :: l, d :: ds, h, hp => by
  have h0 := hp 0 (by simp) (by simp)
  have ih := bulk_sum l ds (by simpa using h) fun i h1 h2 => by
   have := hp (i + 1) (by simp; omega) (by simp; omega);simp only [List.getElem_cons_succ] at this
   exact this
  simp only [List.getElem_cons_zero] at h0
  simp only [List.map_cons, List.sum_cons, Rows.uptoBulkAll]
  omega
theorem slice_trod {H α : Type} {enc : TypeId × Value -> H} {W : World} {ec : α -> List Value} {z : Nat} (E : Enc z ec) {t e : TypeId} (ht : Tryz.prog.underlying t = some (.slice e)) (hz : Tryz.prog.cellsOf e = z) (Pr : α -> DataW H -> Prop)
  (hel : ∀ {fuel : Nat} {cs : List Value} {x : DataW H × List MemPlace}, DataW.trod enc Tryz.prog W 0 (fun _ => true) true fuel e cs = some x -> ∃ a : α, cs = ec a /\ Pr a x.1)
  {fuel : Nat} {cs : List Value} {x : DataW H × List MemPlace} (h : DataW.trod enc Tryz.prog W 0 (fun _ => true) true fuel t cs = some x) :
  ∃ (u : Sl) (l : List α) (ds : List (DataW H)), cs = [u.val] /\ RqIn W (fun k => k < W.heap.size) ec u.val l /\ (u.ad = none -> u.c = 0) /\ l.length = ds.length /\ (∀ i (h : i < l.length) (h' : i < ds.length), Pr l[i] ds[i]) /\ Rows.uptoBulkAll ds + 1 <= Rows.uptoBulk x.1 := by
 rcases open_slice ht h with ⟨hcs, hx⟩ | ⟨a, len, cap, m, n, D, Pl, hcs, _, hl, hm, hmm, hx, hi⟩
 ·refine ⟨⟨none, 0, 0⟩, [], [], hcs, .inl ⟨rfl, none, 0, rfl⟩, fun _ => rfl, rfl, fun i h => by simp at h, ?_⟩;rw [hx];simp [Rows.uptoBulkAll, Rows.uptoBulk]
 ·simp only [if_true] at hmm
  subst hmm
  have hC : ∀ i : Fin len, ∃ c : α, Pr c (D i.1) /\ W.cells? 0 (a.add (i.1 * z)) z = some (ec c) := by
   intro i;obtain ⟨cs', hc, htr⟩ := hi i.1 (by omega);rw [hz] at hc;obtain ⟨c, rfl, hp⟩ := hel htr;exact ⟨c, hp, hc⟩
  obtain ⟨g, hg⟩ := Classical.axiomOfChoice hC;obtain ⟨bk, o, spot⟩ := a
  have hbulk : Rows.uptoBulkAll ((List.range len).map D) + 1 <= Rows.uptoBulk x.1 := by
   rw [hx];simp only [Rows.uptoBulk]
   omega
  have hpr : ∀ i (h : i < (List.ofFn g).length) (h' : i < ((List.range len).map D).length), Pr (List.ofFn g)[i] ((List.range len).map D)[i] := fun i h h' => by
   simp only [List.getElem_ofFn, List.getElem_map, List.getElem_range]
   exact (hg ⟨i, by simpa using h⟩).1
  rcases Nat.eq_zero_or_pos len with h0 | h0
  ·subst h0;exact ⟨⟨some ⟨bk, o, spot⟩, 0, m⟩, [], [], hcs, .inl ⟨rfl, _, _, rfl⟩, (fun q => by cases q), rfl, fun i h => by simp at h, by simpa using hbulk⟩
  ·have h1 := (hg ⟨0, h0⟩).2;obtain ⟨_, _, hcell0⟩ := World.cells?_some h1;have hz0 : 0 < z := E.pos;have hfirst : ∃ u0, (ec (g ⟨0, h0⟩))[0]? = some u0 := ⟨_, List.getElem?_eq_getElem (by rw [E.len]; exact hz0)⟩
   obtain ⟨u0, hu0⟩ := hfirst;have hc0 := (hcell0 0 hz0).trans hu0;have hspot : spot = none := by simpa [Addr.add] using World.cell?_spot hc0
   subst hspot
   have hb : bk < W.heap.size := by
    have := cell_lt hc0;rw [add_at, add_at] at this;exact this
   have key : ∀ k (hk : k < len), ∀ j u, (ec (g ⟨k, hk⟩))[j]? = some u -> W.cell? ⟨bk, o + (k * z + j), none⟩ = some u := by
    intro k hk j u hj;have hs := (hg ⟨k, hk⟩).2;obtain ⟨_, _, hcell⟩ := World.cells?_some hs;have hj8 : j < z := (by have := (List.getElem?_eq_some_iff.1 hj).1; rwa [E.len] at this);have h2 := (hcell j hj8).trans hj;rw [add_at, add_at, Nat.add_assoc] at h2;exact h2
   have hrd : Rd W ec (.slice (some ⟨bk, o, none⟩) len m) (List.ofFn g) := .inr ⟨bk, o, m, by rw [List.length_ofFn], hb, by simp; omega, fun j u hj => by
    obtain ⟨k, hk, i, hi2, he, hj2⟩ := flat_ix E (List.ofFn g) j u hj;have hkl : k < len := (by simpa using hk);simp only [List.getElem_ofFn] at hj2
    rw [he]
    exact key k hkl i u hj2⟩
   exact ⟨⟨some ⟨bk, o, none⟩, len, m⟩, List.ofFn g, (List.range len).map D, hcs, .inr ⟨hrd, hrd.lt⟩, (fun q => by cases q), by simp, hpr, hbulk⟩
def VrB {H : Type} (W : World) (t : Vt) (d : DataW H) : Prop := (Rq W t.u.val t.n.ex /\ Ri W t.q.val t.n.par /\ t.n.pol.length <= Rows.uptoBulk d /\ ∀ b ∈ t.n.ex, b.length <= Rows.uptoBulk d) /\ vsz t.n <= Rows.uptoBulk d
theorem cells_intV : Tryz.prog.cellsOf 3 = 1 := by kernel_rfl
theorem cells_ver : Tryz.prog.cellsOf 65 = 3 := by kernel_rfl
theorem cells_lev : Tryz.prog.cellsOf 63 = 1 := by kernel_rfl
theorem ver_trod {H : Type} {enc : TypeId × Value -> H} {W : World} {fuel : Nat} {cs : List Value} {x : DataW H × List MemPlace}
  (h : DataW.trod enc Tryz.prog W 0 (fun _ => true) true fuel 65 cs = some x) : ∃ t : Vt, cs = encV t /\ VrB W t x.1 := by
 obtain ⟨ys, n, rfl, rfl, hlen, hyl, hf⟩ := DataW.trod_struct Tryz.underlying65 h;rw [cells_ver] at hlen
 match cs, hlen with
 | [c0, c1, c2], _ =>
  match ys, hyl with
  | [y0, y1, y2], _ =>
   have f0 : DataW.trod enc Tryz.prog W 0 (fun _ => true) true n 9 (List.take (Tryz.prog.cellsOf 9) [c0, c1, c2]) = some y0 := hf 0 _ rfl;have f1 : DataW.trod enc Tryz.prog W 0 (fun _ => true) true n 34 (List.take (Tryz.prog.cellsOf 34) [c1, c2]) = some y1 := hf 1 _ rfl;have f2 : DataW.trod enc Tryz.prog W 0 (fun _ => true) true n 22 (List.take (Tryz.prog.cellsOf 22) [c2]) = some y2 := hf 2 _ rfl;simp only [show Tryz.prog.cellsOf 22 = 1 from by kernel_rfl, show Tryz.prog.cellsOf 9 = 1 from by kernel_rfl, show Tryz.prog.cellsOf 34 = 1 from by kernel_rfl, List.take] at f0 f1 f2
   obtain ⟨s0, e0, x0, -⟩ := DataW.trod_string Tryz.underlying9 f0
   obtain ⟨u1, l1, ds1, e1, q1, -, hl1, hp1, hb1⟩ := slice_trod (α := B) encS_ok Tryz.underlying34 cells_str1 (fun b d => b.length + 1 <= Rows.uptoBulk d) (fun hh => by
    obtain ⟨s, e, hx, -⟩ := DataW.trod_string Tryz.underlying9 hh;refine ⟨s.data.toList, ?_, ?_⟩
    ·rw [e]; show _ = [Value.string (bstr s.data.toList)]; rw [bstr_back]
    ·rw [hx]; simp [Rows.uptoBulk]) f1
   obtain ⟨u2, l2, ds2, e2, q2, -, hl2, -, hb2⟩ := slice_trod (α := Int) encI_ok Tryz.underlying22 cells_intV (fun _ _ => True) (fun hh => by
    obtain ⟨z, e, -, -⟩ := DataW.trod_int Tryz.underlying3 hh
    exact ⟨z, e, trivial⟩) f2
   simp only [List.cons.injEq, and_true] at e0 e1 e2
   subst e0 e1 e2
   have hbk : Rows.uptoBulk (DataW.agg (H := H) (List.map (fun y => y.1) [y0, y1, y2])) = Rows.uptoBulk y0.1 + (Rows.uptoBulk y1.1 + Rows.uptoBulk y2.1) + 1 := by
    simp [Rows.uptoBulk, Rows.uptoBulkAll]
   have hbs : Rows.uptoBulk y0.1 = s0.data.toList.length + 1 := by rw [x0]; simp [Rows.uptoBulk]
   have hb1' := bulk_len ds1;have hb2' := bulk_len ds2;refine ⟨⟨⟨s0.data.toList, l1, l2⟩, u1, u2⟩, ?_, ⟨q1.imp id fun q => q.1, q2, ?_, fun b hb => ?_⟩, ?_⟩
   ·show _ = [Value.string (bstr s0.data.toList), u1.val, u2.val]
    rw [bstr_back]
   ·show s0.data.toList.length <= _
    show s0.data.toList.length <= Rows.uptoBulk (DataW.agg (H := H) (List.map (fun y => y.1) [y0, y1, y2]))
    omega
   ·obtain ⟨i, hi, rfl⟩ := List.getElem_of_mem hb;have hi' : i < ds1.length := (by rw [<- hl1]; exact hi);have h3 : l1[i].length + 1 <= Rows.uptoBulk ds1[i] := hp1 i hi hi';have h4 : Rows.uptoBulk ds1[i] <= Rows.uptoBulkAll ds1 := bulk_part (zM hi')
    show l1[i].length <= Rows.uptoBulk (DataW.agg (H := H) (List.map (fun y => y.1) [y0, y1, y2]))
    omega
   ·show 1 + l2.length + l1.length <= Rows.uptoBulk (DataW.agg (H := H) (List.map (fun y => y.1) [y0, y1, y2]))
    omega
def LrB {H : Type} (W : World) (L : Lv) (d : DataW H) : Prop := RqIn W (fun k => k < W.heap.size) encV L.s.val L.vs /\ (∀ x ∈ L.vs, Rq W x.u.val x.n.ex /\ Ri W x.q.val x.n.par /\ x.n.pol.length <= Rows.uptoBulk d /\ ∀ b ∈ x.n.ex, b.length <= Rows.uptoBulk d) /\ lsz L.vs <= Rows.uptoBulk d
theorem lev_trod {H : Type} {enc : TypeId × Value -> H} {W : World} {fuel : Nat} {cs : List Value} {x : DataW H × List MemPlace}
  (h : DataW.trod enc Tryz.prog W 0 (fun _ => true) true fuel 63 cs = some x) : ∃ L : Lv, cs = encL L /\ LrB W L x.1 := by
 obtain ⟨ys, n, rfl, rfl, hlen, hyl, hf⟩ := DataW.trod_struct Tryz.underlying63 h;rw [cells_lev] at hlen
 match cs, hlen with
 | [c0], _ =>
  match ys, hyl with
  | [y0], _ =>
   have f0 : DataW.trod enc Tryz.prog W 0 (fun _ => true) true n 61 (List.take (Tryz.prog.cellsOf 61) [c0]) = some y0 := hf 0 _ rfl;simp only [show Tryz.prog.cellsOf 61 = 1 from by kernel_rfl, List.take] at f0
   obtain ⟨u0, l0, ds0, e0, q0, -, hl0, hp0, hb0⟩ := slice_trod (α := Vt) encV_ok Tryz.underlying61 cells_ver (fun t d => VrB W t d) (fun hh => ver_trod hh) f0;simp only [List.cons.injEq, and_true] at e0
   subst e0
   have hbk : Rows.uptoBulk (DataW.agg (H := H) (List.map (fun y => y.1) [y0])) = Rows.uptoBulk y0.1 + 1 := by
    simp [Rows.uptoBulk, Rows.uptoBulkAll]
   refine ⟨⟨l0, u0⟩, rfl, q0, fun t ht => ?_, ?_⟩
   ·obtain ⟨i, hi, rfl⟩ := List.getElem_of_mem ht;have hi' : i < ds0.length := (by rw [<- hl0]; exact hi);obtain ⟨⟨b1, b2, b3, b4⟩, -⟩ := (hp0 i hi hi' : VrB W l0[i] ds0[i]);have h4 : Rows.uptoBulk ds0[i] <= Rows.uptoBulkAll ds0 := bulk_part (zM hi');refine ⟨b1, b2, ?_, fun b hb => ?_⟩
    ·show l0[i].n.pol.length <= Rows.uptoBulk (DataW.agg (H := H) (List.map (fun y => y.1) [y0]))
     omega
    ·have b5 : b.length <= Rows.uptoBulk ds0[i] := b4 b hb
     show b.length <= Rows.uptoBulk (DataW.agg (H := H) (List.map (fun y => y.1) [y0]))
     omega
   ·have hs := bulk_sum (f := fun x : Vt => vsz x.n) l0 ds0 hl0 fun i h1 h2 => (hp0 i h1 h2).2
    show lsz l0 <= Rows.uptoBulk (DataW.agg (H := H) (List.map (fun y => y.1) [y0]))
    unfold lsz;omega
theorem graph_open {H : Type} {enc : TypeId × Value -> H} {W : World} {b0 : Nat} {r : Reach} {v : Value} {d : DataW H} {p : List MemPlace}
  (hv : Value.okWide Tryz.prog W r b0 23 v) (h : DataW.Trod enc Tryz.prog W 0 (fun _ => true) true 23 v d p) (hk : Rows.uptoBulk d <= 1048576) : ∃ g : List Lv, GR W v g := by
 obtain ⟨a0, len, cap, rfl⟩ := okWide_slice Tryz.underlying23 hv;obtain ⟨fuel, hf⟩ := h;obtain ⟨⟨ua, un, uc⟩, l, ds, hcs, hq, hn, hl, hp, hb⟩ := slice_trod (α := Lv) encL_ok Tryz.underlying23 cells_lev (fun L d => LrB W L d) (fun hh => lev_trod hh) hf;simp [Value.cells, Sl.val] at hcs
 obtain ⟨rfl, rfl, rfl⟩ := hcs;have hb : Rows.uptoBulkAll ds + 1 <= Rows.uptoBulk d := hb;refine ⟨l, ?_, fun L hL => ?_, ?_, ?_⟩
 ·rcases hq with ⟨rfl, a, c, he⟩ | hq
  ·simp only [Sl.val, Value.slice.injEq] at he
   obtain ⟨rfl, rfl, rfl⟩ := he
   cases a0 with
   | none => exact .inl ⟨by rw [show cap = 0 from hn rfl], rfl⟩
   | some a =>
    obtain ⟨hsp, hlt⟩ := okw_slice Tryz.underlying23 hv;obtain ⟨bk, o, spot⟩ := a;simp only at hsp hlt
    subst hsp;exact .inr ⟨bk, o, cap, rfl, hlt, Nat.zero_le _, fun j u hj => by simp at hj⟩
  ·exact hq.1
 ·obtain ⟨i, hi, rfl⟩ := List.getElem_of_mem hL;have hi' : i < ds.length := by rw [<- hl]; exact hi
  obtain ⟨b1, b2, b3⟩ := hp i hi hi';have h4 := bulk_part (zM hi');refine ⟨b1, fun x hx => ?_⟩;obtain ⟨c1, c2, c3, c4⟩ := b2 x hx;exact ⟨c1, c2, by omega, fun b hb => by have := c4 b hb; omega⟩
 ·have := bulk_len ds; omega
 ·have hs := bulk_sum (f := fun L : Lv => lsz L.vs) l ds hl fun i h1 h2 => (hp i h1 h2).2.2
  unfold gsz;omega
end Go.Proofs.YtmagjdocondmhaaGreat.Tr.Gr
