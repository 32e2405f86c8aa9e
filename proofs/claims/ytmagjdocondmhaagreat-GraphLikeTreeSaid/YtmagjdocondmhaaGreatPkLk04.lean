/- packed -/
import Derived.Test.YtmagjdocondmhaaGreatPkLk03
import Derived.Lib.Hide
import Derived.Test.YtmagjdocondmhaaGreatShelf
import Derived.Deep.CutRange
import Derived.Deep.DeepCutAuto
set_option linter.unusedVariables false
set_option linter.unusedSimpArgs false
set_option maxRecDepth 100000
set_option maxHeartbeats 64000000
namespace Go.Proofs.YtmagjdocondmhaaGreat.Tr
open Go Go.RowKit Slc St
attribute [local go_sem] Oper.semAt_some
def anyP : B := [50, 46, 53, 46, 50, 57, 46, 51, 50, 46, 48]
theorem anyP_str : bstr anyP = ⟨#[50, 46, 53, 46, 50, 57, 46, 51, 50, 46, 48]⟩ := rfl
def spec (n : Nd) : Bool := decide (n.pol = anyP)
def onlyB (l : List B) : Bool := decide (l = [anyP])
def ascB (l : List B) : Bool := decide (l.Pairwise (· < ·)) && !l.isEmpty
theorem same_any (a : B) : ((bstr a).toList == ([50, 46, 53, 46, 50, 57, 46, 51, 50, 46, 48] : List UInt8)) = decide (a = anyP) := by
 have h := same_bytes a anyP;rw [ByteArray.toList_eq (bstr anyP)] at h;exact h
theorem special_any (x : Nt) (w : World) : Calls Tryz.prog 85 #[nodV x] w fun e w' => e = .returned (.bool (spec x.n)) /\ Below w.heap.size w w' := by
 have hs := same_any x.n.pol;unfold nodV;rw [show spec x.n = decide (x.n.pol = anyP) from rfl];generalize decide (x.n.pol = anyP) = R at *;generalize x.u.val = U1 at *;generalize bstr x.n.pol = S at *;go_enter Tryz.func85, Tryz.ntmps85;go_wp2_with fail
 go_ret;exact ⟨rfl, (Below.refl _ _).alloc (zR _) _⟩
theorem only_q (w : World) (v : Value) (l : List B) (h : Rq w v l) : Calls Tryz.prog 129 #[v] w fun e w' => e = .returned (.bool (onlyB l)) /\ w = w' := by
 obtain ⟨ad, c, rfl, hc0⟩ := h.form;obtain ⟨-, hcell⟩ := strs_cells_q h;by_cases h1 : l.length = 1
 ·obtain ⟨a, rfl⟩ := List.length_eq_one_iff.1 h1;obtain ⟨b, o, rfl, -, hx⟩ := hcell w (Below.refl _ _) 0 (by simp);have hs := same_any a;have hR : onlyB [a] = decide (a = anyP) := by unfold onlyB; simp
  rw [hR];simp only [List.getElem_cons_zero, Nat.add_zero] at hx
  generalize decide (a = anyP) = R at *;have hz : ([a] : List B).length = 1 := rfl;rw [hz];generalize bstr a = S at *;clear hcell h h1 hR hz hc0;go_enter Tryz.func129, Tryz.ntmps129;go_wp2_with fail
  go_ret;exact ⟨by first | rfl | simp [hs], rfl⟩
 ·have hR : onlyB l = false := zF (fun h => h1 (by rw [h]; rfl));rw [hR];have t0 : (((l.length : Nat) : Int) == 1) = false := by simp; omega
  have t1 : ¬ (((l.length : Nat) : Int) = 1) := by omega
  clear hcell h hR hc0;generalize l.length = N at *;go_enter Tryz.func129, Tryz.ntmps129;go_wp2_with fail
  go_ret;exact ⟨rfl, rfl⟩
theorem below_drawn {B : Nat} {a w : World} (h : Below B a w) (q : Nat) : Below B a (w.drewN q) := ⟨h.os, h.tape, h.output, h.size, h.block⟩
theorem ascB_bad {l : List B} {i : Nat} (hi : i + 1 < l.length) (h : ¬ l[i] < l[i + 1]) : ascB l = false := by
 unfold ascB;rw [zF (fun hp => h (List.pairwise_iff_getElem.1 hp i (i + 1) (by omega) hi (by omega))), Bool.false_and]
theorem lt_tr {a b c : B} (h1 : a < b) (h2 : b < c) : a < c := List.lt_trans h1 h2
theorem pair_chain : ∀ (l : List B), (∀ k (hk : k + 1 < l.length), l[k] < l[k + 1]) -> l.Pairwise (· < ·)
 | [], _ => List.Pairwise.nil
 | [a], _ => by simp
 | a :: b :: l, h => by
  have ih := pair_chain (b :: l) (fun k hk => h (k + 1) (by simp only [List.length_cons] at hk |-; omega));have h0 : a < b := h 0 (by simp);refine List.pairwise_cons.2 ⟨fun x hx => ?_, ih⟩;rcases List.mem_cons.1 hx with rfl | hx
  ·exact h0
  ·exact lt_tr h0 ((List.pairwise_cons.1 ih).1 x hx)
theorem ascB_good {l : List B} (h : ∀ k (hk : k + 1 < l.length), l[k] < l[k + 1]) : ascB l = decide ((0 : Int) < (l.length : Nat)) := by
 unfold ascB;rw [zT (pair_chain l h), Bool.true_and]
 cases l <;> simp
theorem ascending_q (w : World) (v : Value) (l : List B) (h : Rq w v l) (hn : l.length <= 1000000) : Calls Tryz.prog 130 #[v] w fun e w' => e = .returned (.bool (ascB l)) /\ Below w.heap.size w w' := by
 obtain ⟨ad, c, rfl, hc0⟩ := h.form;obtain ⟨-, hcell⟩ := strs_cells_q h;have HC := Bx.mk hcell;obtain ⟨R, hR⟩ : ∃ R, R = ascB l := ⟨_, rfl⟩
 rw [<- hR];have HR := Bx.mk hR;obtain ⟨N, hN⟩ : ∃ N, N = l.length := ⟨_, rfl⟩
 have HN := Bx.mk hN;have hNb : N <= 1000000 := by omega
 rw [<- hN];clear hcell hR hN h hc0 hn;go_enter Tryz.func130, Tryz.ntmps130;go_wp2
 go_loopw [3] (fun iv wr => ∃ i : Nat, iv = .int .i64 (i : Nat) /\ 1 <= i /\ i <= N + 1 /\ Bx (∀ k (hk : k + 1 < l.length), k + 1 < i -> l[k] < l[k + 1]) /\ Below w.heap.size w wr) (fun iv _ => N + 1 - (intOf iv).toNat)
 case atStart => exact ⟨1, rfl, by omega, by omega, ⟨fun k hk h => by omega⟩, Below.refl _ _⟩
 case round =>
  obtain ⟨i, rfl, h1, h2, hB, hbel⟩ := hrel;by_cases hlt : i < N
  ·obtain ⟨j, rfl⟩ : ∃ j, i = j + 1 := ⟨i - 1, by omega⟩
   have hj1 : j + 1 < l.length := by rw [<- HN.out]; exact hlt
   obtain ⟨b, o, rfl, hbl, hx⟩ := HC.out wr hbel j (by omega);obtain ⟨b', o', hbo, -, hy⟩ := HC.out wr hbel (j + 1) hj1;simp only [zO, Addr.mk.injEq, and_true] at hbo
   obtain ⟨rfl, rfl⟩ := hbo;have l1 := less_bytes l[j] l[j + 1];have l2 := less_bytes l[j + 1] l[j];have l3 := same_bytes l[j] l[j + 1];have HBEL := Bx.mk hbel;have wj : IntKind.i64.wrap (((j + 1 : Nat) : Int) - 1) = (j : Int) := by rw [IntWalk.i64_in _ (by omega)]; omega
   have ej : ((j : Int) + 1).toNat = j + 1 := by omega
   by_cases hc : l[j] < l[j + 1]
   ·rw [zT hc] at l1;rw [zF (List.lt_asymm hc)] at l2
    have HX := Bx.mk (show ∀ k (hk : k + 1 < l.length), k + 1 < j + 1 + 1 -> l[k] < l[k + 1] by
     intro k hk hkj;rcases Nat.lt_or_ge (k + 1) (j + 1) with q | q
     ·exact hB.out k hk q
     ·obtain rfl : k = j := by omega
      exact hc)
    rw [zF (fun e => by rw [e] at hc; exact List.lt_irrefl _ hc)] at l3;generalize bstr l[j] = X at *;generalize bstr l[j + 1] = Y at *;clear hbel hc;go_wp2_with fail
    go_quiet (fail)
    go_wp2_with fail
    go_roundw
    case rel => exact ⟨j + 2, by go_num, by omega, by omega, HX, below_drawn HBEL.out _⟩
    case measure => simp [intOf]; omega
   ·rw [zF hc] at l1;have HF := Bx.mk (show R = false by rw [HR.out]; exact ascB_bad hj1 hc);by_cases h2 : l[j + 1] < l[j]
    ·rw [zT h2] at l2;rw [zF (fun e => hc (by rw [e] at h2; exact absurd h2 (List.lt_irrefl _)))] at l3;generalize bstr l[j] = X at *;generalize bstr l[j + 1] = Y at *;clear hbel hc h2;go_wp2_with fail
     go_quiet (fail)
     go_wp2_with fail
     go_ret;exact ⟨by rw [HF.out]; rfl, below_drawn HBEL.out _⟩
    ·rw [zF h2] at l2;rw [zT (eqB hc h2)] at l3;generalize bstr l[j] = X at *;generalize bstr l[j + 1] = Y at *;clear hbel hc h2;go_wp2_with fail
     go_quiet (fail)
     go_wp2_with fail
     go_ret;exact ⟨by rw [HF.out]; rfl, below_drawn HBEL.out _⟩
  ·have HE := Bx.mk (show R = decide ((0 : Int) < (N : Nat)) by
    rw [HR.out, HN.out]
    exact ascB_good (fun k hk => hB.out k hk (by have := HN.out; omega)))
   have HBEL := Bx.mk hbel;obtain ⟨Z, hZ⟩ : ∃ Z, Z = decide ((N : Int) > 0) := ⟨_, rfl⟩
   have HZ := Bx.mk hZ;clear hbel;rw [show decide ((0 : Int) < (N : Nat)) = decide ((N : Int) > 0) from rfl, <- hZ] at HE;go_wp2_with fail
   go_ret;exact ⟨by rw [HE.out, HZ.out]; first | rfl | simp, HBEL.out⟩
end Go.Proofs.YtmagjdocondmhaaGreat.Tr
namespace Go.Proofs.YtmagjdocondmhaaGreat.Tr
open Go Go.RowKit Slc St
attribute [local go_sem] Oper.semAt_some
theorem index_q (w : World) (v : Value) (l : List B) (x : B) (h : Rq w v l) (hl : l.length <= 9223372036854775807) :
  Calls Tryz.prog 93 #[v, .string (bstr x)] w fun e w' => ∃ r : Int, e = .returned (.int .i64 r) /\ (0 <= r ↔ x ∈ l) /\ w = w' := by
 obtain ⟨ad, cp, hv, -⟩ := h.form;have HC := Bx.mk (fun hp => (h.rd hp).cells encS_ok hp);subst hv
 have HX := Bx.mk (fun y : B => show ((bstr x).toList == (bstr y).toList) = decide (x = y) by
  rw [ByteArray.toList_eq, ByteArray.toList_eq, bstr_list, bstr_list];by_cases q : x = y
  ·rw [q]; simp
  ·rw [zF q]; simpa using q)
 clear h;generalize bstr x = X at *;go_enter Tryz.func93, Tryz.ntmps93;go_wp2_with fail
 go_loop [5, 8] (fun _ i => ∃ k : Nat, k <= l.length /\ i = .int .i64 (k : Int) /\ x ∉ l.take k) (fun _ i => l.length - (intOf i).toNat)
 case atStart => exact ⟨0, by omega, rfl, by simp⟩
 case round =>
  obtain ⟨k, hk, rfl, hnot⟩ := hrel;have HN := Bx.mk hnot;clear hnot;by_cases hlt : k < l.length
  ·obtain ⟨b, o, c, hvf, -, -, hcell⟩ := HC.out (by omega);simp only [Value.slice.injEq, true_and] at hvf
   obtain ⟨rfl, rfl⟩ := hvf;have hcl := hcell w (fun _ _ => rfl) k hlt 0 _ (by omega) rfl;simp only [Nat.mul_one, Nat.add_zero] at hcl
   have hq := HX.out l[k]
   have HT := Bx.mk (show x ≠ l[k] -> x ∉ l.take (k + 1) from fun h1 h2 => by
    rw [zA hlt, List.mem_append, zS] at h2
    exact h2.elim HN.out h1)
   have HM := Bx.mk (zM hlt);clear hcell;by_cases hxy : x = l[k]
   ·rw [zT hxy] at hq;have HR := Bx.mk (show decide (x ∈ l) = true by rw [hxy]; exact zT HM.out);clear hxy HM;generalize bstr l[k] = Y at *;go_wp2_with fail
    go_ret;exact ⟨_, rfl, ⟨fun _ => of_decide_eq_true HR.out, fun _ => by omega⟩, rfl⟩
   ·rw [zF hxy] at hq;have HT2 := Bx.mk (HT.out hxy);clear hxy HM;generalize bstr l[k] = Y at *;go_wp2_with fail
    go_round
    case rel => exact ⟨k + 1, by omega, by go_num, HT2.out⟩
    case measure => simp [intOf]; omega
  ·obtain rfl : k = l.length := by omega
   have HR := Bx.mk (show decide (x ∈ l) = false by have := HN.out; rw [List.take_length] at this; exact zF this);go_wp2_with fail
   go_ret;exact ⟨_, rfl, ⟨fun q => absurd q (by decide), fun q => absurd q (of_decide_eq_false HR.out)⟩, rfl⟩
theorem contains_q (w : World) (v : Value) (l : List B) (x : B) (h : Rq w v l) (hl : l.length <= 9223372036854775807) :
  Calls Tryz.prog 48 #[v, .string (bstr x)] w fun e w' => e = .returned (.bool (decide (x ∈ l))) /\ w = w' := by
 have HI := Bx.mk (index_q w v l x h hl);clear h;generalize bstr x = X at *;go_enter Tryz.func48, Tryz.ntmps48;go_wp2_with fail
 go_at_call 93;refine HI.out.mono ?_;rintro e w' ⟨r, rfl, hr, rfl⟩;have HR := Bx.mk hr;clear hr;go_wp2_with fail
 go_ret;exact ⟨by simp [HR.out], rfl⟩
theorem contains_any (w : World) (v : Value) (l : List B) (x : B) (h : Rd w encS v l) (hl : l.length <= 9223372036854775807) :
  Calls Tryz.prog 48 #[v, .string (bstr x)] w fun e w' => e = .returned (.bool (decide (x ∈ l))) /\ w = w' := contains_q w v l x (.inr h) hl
end Go.Proofs.YtmagjdocondmhaaGreat.Tr
namespace Go.Proofs.YtmagjdocondmhaaGreat.Tr
open Go Go.RowKit Slc St
attribute [local go_sem] Oper.semAt_some
def fit0 (n : Nd) : Bool := decide (n.d = 0) && (decide (n.p = -1) && (spec n && onlyB n.ex))
theorem fits_zero_q (w : World) (v : Value) (l : List Nt) (h : TQ w v l) (hl : 0 < l.length) (hn : l.length <= 100000) (dep : Int) :
  Calls Tryz.prog 115 #[v, .int .i64 0, .int .i64 dep] w fun e w' => e = .returned (.bool (fit0 l[0].n)) /\ Below w.heap.size w w' := by
 obtain ⟨ad, c, rfl, hc0⟩ := h.rd.form;obtain ⟨-, hcell⟩ := h.cells;obtain ⟨b, o, rfl, hbl, x0, x1, x2, x3⟩ := hcell w (Below.refl _ _) 0 hl;have hat := h.at_ l[0] (zM hl);obtain ⟨x, hx⟩ : ∃ x, x = l[0] := ⟨_, rfl⟩
 rw [<- hx] at x0 x1 x2 x3 hat |-;obtain ⟨R, hR⟩ : ∃ R, R = fit0 x.n := ⟨_, rfl⟩
 rw [<- hR];have hsp := fun W => special_any x W
 have hon := fun W (hb : Below w.heap.size w W) => only_q W x.u.val x.n.ex (hat.1.below hb)
 unfold nodV at hsp;have HO := Bx.mk hon;unfold fit0 at hR;have HR := Bx.mk hR;obtain ⟨SP, hSP⟩ : ∃ s, s = spec x.n := ⟨_, rfl⟩
 obtain ⟨ON, hON⟩ : ∃ s, s = onlyB x.n.ex := ⟨_, rfl⟩
 rw [<- hSP, <- hON] at HR;rw [<- hSP] at hsp;rw [<- hON] at HO;simp only [Sl.val] at HO x3 hsp |-
 generalize x.u.ad = UA at *;generalize x.u.n = UN at *;generalize x.u.c = UC at *;generalize bstr x.n.pol = S at *;generalize x.n.d = D at *;generalize x.n.p = PA at *;simp only [Nat.zero_mul, Nat.add_zero] at x0 x1 x2 x3
 have hlz : (0 : Int) < (l.length : Int) := by omega
 clear h hcell hat hR hc0 hon hSP hON hx;generalize l.length = N at *;obtain ⟨W0, hW0⟩ : ∃ W0, W0 = w.alloc (.cells #[.int .i64 D, .int .i64 PA, .string S, .slice UA UN UC] 111) := ⟨_, rfl⟩
 have HB0 := Bx.mk (show Below w.heap.size w W0 by rw [hW0]; exact (Below.refl _ _).alloc (zR _) _)
 have HC0 := Bx.mk (show ∀ W, Below W0.heap.size W0 W -> W.cell? ⟨w.heap.size, 0, none⟩ = some (.int .i64 D) /\ W.cell? ⟨w.heap.size, 1, none⟩ = some (.int .i64 PA) /\ W.cell? ⟨w.heap.size, 2, none⟩ = some (.string S) /\ W.cell? ⟨w.heap.size, 3, none⟩ = some (.slice UA UN UC) by
  subst hW0;intro W hW
  refine ⟨?_, ?_, ?_, ?_⟩ <;> (rw [hW.cell (by simp), World.cell?_alloc_at _ _ _ _ rfl]; rfl))
 have HS := Bx.mk hsp;have fin : ∀ W, Below W0.heap.size W0 W -> Below w.heap.size w W := fun W hW => HB0.out.trans (hW.mono HB0.out.size)
 have FIN := Bx.mk fin;clear hsp fin;obtain ⟨y0, y1, y2, y3⟩ := HC0.out W0 (Below.refl _ _)
 cases td : (D == 0) with
 | false =>
  have hr : R = false := by rw [HR.out]; simp only [Bool.and_eq_false_iff, decide_eq_false_iff_not]; exact Or.inl (by simpa using td)
  have HRR := Bx.mk hr;clear hr;go_enter Tryz.func115, Tryz.ntmps115;go_upto_if 13 with fail
  rw [<- hW0];clear hW0;go_wp2_with fail
  go_ret
  exact ⟨by rw [HRR.out]; rfl, HB0.out⟩
 | true =>
 cases tp : (PA == -1) with
 | false =>
  have hr : R = false := by rw [HR.out]; simp only [Bool.and_eq_false_iff, decide_eq_false_iff_not]; exact Or.inr (Or.inl (by simpa using tp))
  have HRR := Bx.mk hr;clear hr;go_enter Tryz.func115, Tryz.ntmps115;go_upto_if 13 with fail
  rw [<- hW0];clear hW0;go_wp2_with fail
  go_ret
  exact ⟨by rw [HRR.out]; rfl, HB0.out⟩
 | true =>
 have hr : R = (SP && ON) := by rw [HR.out, zT (by simpa using td), zT (by simpa using tp)]; rfl
 have HRR := Bx.mk hr;clear hr;go_enter Tryz.func115, Tryz.ntmps115;go_upto_if 13 with fail
 rw [<- hW0];clear hW0;go_wp2_with fail
 go_at_call 85;refine (HS.out _).mono ?_;rintro e w1 ⟨rfl, hb1⟩;obtain ⟨z0, z1, z2, z3⟩ := HC0.out w1 hb1;have HF1 := Bx.mk (FIN.out w1 hb1);clear y0 y1 y2 y3 hb1
 cases SP with
 | false =>
  go_wp2_with fail
  go_ret
  exact ⟨by rw [HRR.out]; rfl, HF1.out⟩
 | true =>
  go_wp2_with fail
  go_at_call 129;refine (HO.out _ HF1.out).mono ?_;rintro e w2 ⟨rfl, rfl⟩;go_wp2_with fail
  go_ret;exact ⟨by rw [HRR.out]; rfl, HF1.out⟩
end Go.Proofs.YtmagjdocondmhaaGreat.Tr
namespace Go.Proofs.YtmagjdocondmhaaGreat.Tr
open Go Go.RowKit Slc St
attribute [local go_sem] Oper.semAt_some
theorem below_grow (w : World) (q : Nat) (os : Array Obj) : Below w.heap.size w (Go.Sort.grow (w.drewN q) os) :=
 ⟨rfl, rfl, rfl, by rw [Go.Sort.size_grow]; exact Nat.le_add_right _ _, fun k hk => by
  show (w.heap ++ os)[k]? = _
  rw [Array.getElem?_append_left hk]⟩
theorem before_bel (x y : Nt) (w : World) : Calls Tryz.prog 117 #[nodV x, nodV y] w fun e w' => e = .returned (.int .i64 (befI x.n y.n)) /\ Below w.heap.size w w' :=
 (before_any x y w).mono fun e w' ⟨he, q, os, hq⟩ => ⟨he, by rw [hq]; exact below_grow w q os⟩
def badB (q n m : Nd) (i : Nat) (dep : Int) : Bool :=
 decide (n.p < 0) || (decide (n.p >= (i : Int)) || ((n.d != IntKind.i64.wrap (m.d + 1)) || (decide (n.d > dep) || (decide (befI q n >= 0) || !ascB n.ex))))
theorem fits_pos_q (w : World) (v : Value) (l : List Nt) (h : TQ w v l) (i : Nat) (hi0 : 0 < i) (hi : i < l.length) (hn : l.length <= 100000) (dep : Int) (x q m : Nt) (hx : l[i] = x) (hq : l[i - 1] = q) (hm : ∀ (h1 : 0 <= x.n.p) (h2 : x.n.p < i), l[x.n.p.toNat]'(by omega) = m) :
  Calls Tryz.prog 115 #[v, .int .i64 (i : Nat), .int .i64 dep] w fun e w' => e = .returned (.bool (!(badB q.n x.n m.n i dep) && (if spec x.n then spec m.n && onlyB x.n.ex else !decide (anyP ∈ x.n.ex)))) /\ Below w.heap.size w w' := by
 obtain ⟨ad, c, rfl, hc0⟩ := h.rd.form;obtain ⟨-, hcell⟩ := h.cells;obtain ⟨b, o, rfl, hbl, x0, x1, x2, x3⟩ := hcell w (Below.refl _ _) i hi;have hat := h.at_ l[i] (zM hi);obtain ⟨j, hj⟩ : ∃ j, j = i - 1 := ⟨_, rfl⟩
 have hcl : ∀ (W : World) (_ : Below w.heap.size w W) (k : Nat) (hk : k < l.length), W.cell? ⟨b, o + k * 4, none⟩ = some (.int .i64 (l[k]).n.d) /\ W.cell? ⟨b, o + k * 4 + 1, none⟩ = some (.int .i64 (l[k]).n.p) /\ W.cell? ⟨b, o + k * 4 + 2, none⟩ = some (.string (bstr (l[k]).n.pol)) /\ W.cell? ⟨b, o + k * 4 + 3, none⟩ = some (l[k]).u.val := by
  intro W hW k hk;obtain ⟨b', o', hbo, -, hy⟩ := hcell W hW k hk;simp only [zO, Addr.mk.injEq, and_true] at hbo
  obtain ⟨rfl, rfl⟩ := hbo;exact hy
 rw [hx] at x0 x1 x2 x3 hat;obtain ⟨R, hR⟩ : ∃ R, R = (!(badB q.n x.n m.n i dep) && (if spec x.n then spec m.n && onlyB x.n.ex else !decide (anyP ∈ x.n.ex))) := ⟨_, rfl⟩
 rw [<- hR];obtain ⟨BAD, hBAD⟩ : ∃ R, R = badB q.n x.n m.n i dep := ⟨_, rfl⟩
 rw [<- hBAD] at hR;obtain ⟨W0, hW0⟩ : ∃ W0, W0 = w.alloc (.cells #[.int .i64 x.n.d, .int .i64 x.n.p, .string (bstr x.n.pol), .slice x.u.ad x.u.n x.u.c] 111) := ⟨_, rfl⟩
 have hb0 : Below w.heap.size w W0 := by rw [hW0]; exact (Below.refl _ _).alloc (zR _) _
 have HCL := Bx.mk (fun (W : World) (hW : Below W0.heap.size W0 W) => hcl W (hb0.trans (hW.mono hb0.size)))
 have HC0 := Bx.mk (show ∀ W, Below W0.heap.size W0 W -> W.cell? ⟨w.heap.size, 0, none⟩ = some (.int .i64 x.n.d) /\ W.cell? ⟨w.heap.size, 1, none⟩ = some (.int .i64 x.n.p) /\ W.cell? ⟨w.heap.size, 2, none⟩ = some (.string (bstr x.n.pol)) /\ W.cell? ⟨w.heap.size, 3, none⟩ = some (.slice x.u.ad x.u.n x.u.c) by
  subst hW0;intro W hW
  refine ⟨?_, ?_, ?_, ?_⟩ <;> (rw [hW.cell (by simp), World.cell?_alloc_at _ _ _ _ rfl]; rfl))
 have FIN := Bx.mk (show ∀ W, Below W0.heap.size W0 W -> Below w.heap.size w W from fun W hW => hb0.trans (hW.mono hb0.size));have hasc := fun (e : Ext W0) => ascending_q e.out x.u.val x.n.ex (hat.1.below (FIN.out e.out e.bel)) (by have := hat.2.1.1; omega)
 have hbf := fun (e : Ext W0) => before_bel q x e.out
 have HAT := Bx.mk hat;have HR := Bx.mk hR;have HBD := Bx.mk hBAD;have HX := Bx.mk (And.intro hx (And.intro hq hm));have hjn : j < l.length := by omega
 have hji : i = j + 1 := by omega
 have q0 := fun (e : Ext W0) => (HCL.out e.out e.bel j hjn).1
 have q1 := fun (e : Ext W0) => (HCL.out e.out e.bel j hjn).2.1
 have q2 := fun (e : Ext W0) => (HCL.out e.out e.bel j hjn).2.2.1
 have q3 := fun (e : Ext W0) => (HCL.out e.out e.bel j hjn).2.2.2
 have hlj : l[j] = q := by rw [<- hq]; congr 1
 rw [hlj] at q0 q1 q2 q3;unfold badB at hBAD;unfold nodV at hbf;simp only [Sl.val] at q3 hbf x3 hasc
 have n0 := fun (e : Ext W0) => (HC0.out e.out e.bel).1
 have n1 := fun (e : Ext W0) => (HC0.out e.out e.bel).2.1
 have n2 := fun (e : Ext W0) => (HC0.out e.out e.bel).2.2.1
 have n3 := fun (e : Ext W0) => (HC0.out e.out e.bel).2.2.2
 have wj : IntKind.i64.wrap ((i : Int) - 1) = (j : Int) := by rw [IntWalk.i64_in _ (by omega)]; omega
 have ti : ((i : Int) == 0) = false := by simp; omega
 have ti' : ¬ (i = 0) := by omega
 clear hcell hcl hb0 hx hq hat hR h hc0 hlj;obtain ⟨N, hN⟩ : ∃ N, N = l.length := ⟨_, rfl⟩
 rw [<- hN] at hi hjn hn |-;have HN := Bx.mk hN;clear hN;have HJ := Bx.mk hji;clear hji hj;go_enter Tryz.func115, Tryz.ntmps115;go_upto_region 4 with fail
 rw [<- hW0];clear hW0 x0 x1 x2 x3;go_cut [73] (fun c wx => c = .bool BAD /\ Below W0.heap.size W0 wx)
 case first =>
  cases tA : decide (x.n.p < 0) with
  | true =>
  have HBAD := Bx.mk (show BAD = true by rw [HBD.out]; unfold badB; rw [tA]; rfl);refine wp_region_self (by kernel_rfl) (by kernel_rfl) ?_
  repeat (go_big_quiet_step (fail))
  refine wpQuiet_nil ?_;rintro _ ⟨e1, rfl⟩;go_wp2_with fail
  go_meet
  exact ⟨by rw [HBAD.out], e1.bel⟩
  | false =>
  cases tB : decide (x.n.p >= (i : Int)) with
  | true =>
  have HBAD := Bx.mk (show BAD = true by rw [HBD.out]; unfold badB; rw [tA, tB]; rfl);refine wp_region_self (by kernel_rfl) (by kernel_rfl) ?_
  repeat (go_big_quiet_step (fail))
  refine wpQuiet_nil ?_;rintro _ ⟨e1, rfl⟩;go_wp2_with fail
  go_meet
  exact ⟨by rw [HBAD.out], e1.bel⟩
  | false =>
  have HAB := Bx.mk (And.intro tA tB);have hp0 : 0 <= x.n.p := by have := of_decide_eq_false tA; omega
  have hpi : x.n.p < i := by have := of_decide_eq_false tB; omega
  obtain ⟨pp, hpp⟩ : ∃ pp : Nat, x.n.p = (pp : Int) := ⟨x.n.p.toNat, by omega⟩
  have hppi : pp < i := by omega
  have hppn : pp < N := by omega
  have hmx : l[pp]'(by rw [<- HN.out]; exact hppn) = m := by
   have := HX.out.2.2 hp0 hpi;rw [<- this]; congr 1; omega
  have m0 := fun (e : Ext W0) => (HCL.out e.out e.bel pp (by rw [<- HN.out]; exact hppn)).1
  rw [hmx] at m0;simp only [hpp] at n1 tA tB hbf
  have HPP := Bx.mk hpp;clear hpp hp0 hpi hmx;have HBD' := HBD.out;unfold badB at HBD';have w0 : decide ((pp : Int) < 0) = false := zF (by omega);have w1 : decide ((i : Int) <= (pp : Int)) = false := zF (by omega);have w2 : decide (i <= pp) = false := zF (by omega);have w3 : decide ((pp : Int) >= (i : Int)) = false := zF (by omega);have w4 : decide (pp < i) = true := zT hppi;clear tA tB;obtain ⟨MD, hMD⟩ : ∃ z, z = IntKind.i64.wrap (m.n.d + 1) := ⟨_, rfl⟩
  have hmd : IntKind.i64.wrap (m.n.d + 1) = MD := hMD.symm;rw [hmd] at HBD';clear hMD;have HBX := Bx.mk HBD';clear HBD'
  cases tC : (x.n.d == MD) with
  | false =>
  have tC1 : (x.n.d != MD) = true := by rw [bne, tC]; rfl
  have tC2 : ¬ (x.n.d = MD) := by simpa using tC
  have tC3 : decide (x.n.d = MD) = false := zF tC2;have HBAD := Bx.mk (show BAD = true by rw [HBX.out]; rw [HAB.out.1, HAB.out.2, tC1]; rfl);refine wp_region_self (by kernel_rfl) (by kernel_rfl) ?_
  repeat (go_big_quiet_step (fail))
  refine wpQuiet_nil ?_;rintro _ ⟨e1, rfl⟩;go_wp2_with fail
  go_meet
  exact ⟨by rw [HBAD.out], e1.bel⟩
  | true =>
  have tC1 : (x.n.d != MD) = false := by rw [bne, tC]; rfl
  have tC2 : x.n.d = MD := by simpa using tC
  have tC3 : decide (x.n.d = MD) = true := zT tC2;clear tC2
  cases tD : decide (x.n.d > dep) with
  | true =>
  have HBAD := Bx.mk (show BAD = true by rw [HBX.out]; rw [HAB.out.1, HAB.out.2, tC1, tD]; rfl);refine wp_region_self (by kernel_rfl) (by kernel_rfl) ?_
  repeat (go_big_quiet_step (fail))
  refine wpQuiet_nil ?_;rintro _ ⟨e1, rfl⟩;go_wp2_with fail
  go_meet
  exact ⟨by rw [HBAD.out], e1.bel⟩
  | false =>
  cases tE : decide (befI q.n x.n >= 0) with
  | true =>
  have HBAD := Bx.mk (show BAD = true by rw [HBX.out]; rw [HAB.out.1, HAB.out.2, tC1, tD, tE]; rfl);refine wp_region_self (by kernel_rfl) (by kernel_rfl) ?_
  repeat (go_big_quiet_step (first | (go_at_call 117; exact ext_of (hbf _)) | (go_at_call 130; exact ext_of (hasc _))))
  refine wpQuiet_nil ?_;rintro _ ⟨e1, rfl⟩;go_wp2_with fail
  go_meet
  exact ⟨by rw [HBAD.out], e1.bel⟩
  | false =>
  cases tF : ascB x.n.ex with
  | true =>
  have HBAD := Bx.mk (show BAD = false by rw [HBX.out]; rw [HAB.out.1, HAB.out.2, tC1, tD, tE, tF]; rfl);refine wp_region_self (by kernel_rfl) (by kernel_rfl) ?_
  repeat (go_big_quiet_step (first | (go_at_call 117; exact ext_of (hbf _)) | (go_at_call 130; exact ext_of (hasc _))))
  refine wpQuiet_nil ?_;rintro _ ⟨e1, rfl⟩;go_wp2_with fail
  go_meet
  exact ⟨by rw [HBAD.out], e1.bel⟩
  | false =>
  have HBAD := Bx.mk (show BAD = true by rw [HBX.out]; rw [HAB.out.1, HAB.out.2, tC1, tD, tE, tF]; rfl);refine wp_region_self (by kernel_rfl) (by kernel_rfl) ?_
  repeat (go_big_quiet_step (first | (go_at_call 117; exact ext_of (hbf _)) | (go_at_call 130; exact ext_of (hasc _))))
  refine wpQuiet_nil ?_;rintro _ ⟨e1, rfl⟩;go_wp2_with fail
  go_meet;exact ⟨by rw [HBAD.out], e1.bel⟩
 case rest =>
 obtain ⟨rfl, hbW⟩ := hcut;clear q0 q1 q2 q3 n0 n1 n2 n3 hbf hasc hBAD
 cases BAD with
 | true =>
  have HF := Bx.mk (FIN.out wc hbW);have hr : R = false := by rw [HR.out]; rfl
  have HRR := Bx.mk hr;clear hbW hr;go_wp2_with fail
  go_ret
  exact ⟨by rw [HRR.out]; rfl, HF.out⟩
 | false =>
 obtain ⟨n0, n1, n2, n3⟩ := HC0.out wc hbW
 have hrng : 0 <= x.n.p /\ x.n.p < i := by
  have hb := HBD.out;unfold badB at hb;simp only [Bool.false_eq, Bool.or_eq_false_iff, decide_eq_false_iff_not] at hb
  omega
 obtain ⟨pp, hpp⟩ : ∃ pp : Nat, x.n.p = (pp : Int) := ⟨x.n.p.toNat, by omega⟩
 have hppn : pp < N := by omega
 have hmx : l[pp]'(by rw [<- HN.out]; exact hppn) = m := by
  have := HX.out.2.2 hrng.1 hrng.2;rw [<- this]; congr 1; omega
 have HPL := Bx.mk (show ∀ W, Below W0.heap.size W0 W -> _ from fun W hW => HCL.out W hW pp (by rw [<- HN.out]; exact hppn));rw [hmx] at HPL;have HBW := Bx.mk hbW;have hsp := special_any x wc;have HPP := Bx.mk hpp;clear hrng hpp hmx hbW;unfold nodV at hsp;simp only [Sl.val] at hsp
 go_wp2_with fail
 go_at_call 85;refine hsp.mono ?_;rintro e w1 ⟨rfl, hb1⟩;have hbW1 := HBW.out.trans (hb1.mono HBW.out.size);obtain ⟨z0, z1, z2, z3⟩ := HC0.out w1 hbW1;obtain ⟨p0, p1, p2, p3⟩ := HPL.out w1 hbW1;rw [HPP.out] at z1;have HBW1 := Bx.mk hbW1;clear hsp hb1 hbW1 n0 n1 n2 n3
 cases hS : spec x.n with
 | true =>
  have hsm := special_any m w1;unfold nodV at hsm;simp only [Sl.val] at hsm p3
  have HRR := Bx.mk (show R = (spec m.n && onlyB x.n.ex) by rw [HR.out, hS]; simp);clear hS;go_wp2_with fail
  go_at_call 85;refine hsm.mono ?_;rintro e w2 ⟨rfl, hb2⟩;have hbW2 := HBW1.out.trans (hb2.mono HBW1.out.size);obtain ⟨y0, y1, y2, y3⟩ := HC0.out w2 hbW2;have HF2 := Bx.mk (FIN.out w2 hbW2);clear hsm hb2 hbW2 z0 z1 z2 z3 p0 p1 p2 p3
  cases hM : spec m.n with
  | false =>
   have HR2 := Bx.mk (show R = false by rw [HRR.out, hM]; rfl);clear hM;go_wp2_with fail
   go_ret
   exact ⟨by rw [HR2.out]; rfl, HF2.out⟩
  | true =>
   have HR2 := Bx.mk (show R = onlyB x.n.ex by rw [HRR.out, hM]; rfl);have hon := only_q w2 x.u.val x.n.ex (HAT.out.1.below HF2.out);simp only [Sl.val] at hon
   clear hM;go_wp2_with fail
   go_at_call 129;refine hon.mono ?_;rintro e w3 ⟨rfl, rfl⟩;clear hon;go_wp2_with fail
   go_ret
   exact ⟨by rw [HR2.out]; rfl, HF2.out⟩
 | false =>
  have HRR := Bx.mk (show R = !decide (anyP ∈ x.n.ex) by rw [HR.out, hS]; simp);have hcn := contains_q w1 x.u.val x.n.ex anyP (HAT.out.1.below (FIN.out w1 HBW1.out)) (by have := HAT.out.2.1.1; omega);have HF1 := Bx.mk (FIN.out w1 HBW1.out);rw [anyP_str] at hcn;simp only [Sl.val] at hcn
  clear hS p0 p1 p2 p3;go_wp2_with fail
  go_at_call 48;refine hcn.mono ?_;rintro e w2 ⟨rfl, rfl⟩;clear hcn;go_wp2_with fail
  go_ret;exact ⟨by rw [HRR.out]; rfl, HF1.out⟩
end Go.Proofs.YtmagjdocondmhaaGreat.Tr
namespace Go.Proofs.YtmagjdocondmhaaGreat.Tr
open Go Go.RowKit Slc St
instance : Inhabited Nd := ⟨⟨0, 0, [], []⟩⟩
def fitB (l : List Nd) (i : Nat) (dep : Int) : Bool :=
 if i = 0 then fit0 l[0]! else
  !(badB l[i - 1]! l[i]! (l[(l[i]!).p.toNat]!) i dep) && (if spec l[i]! then spec (l[(l[i]!).p.toNat]!) && onlyB (l[i]!).ex else !decide (anyP ∈ (l[i]!).ex))
def validB (l : List Nd) (dep : Int) : Bool :=
 !(decide (dep < 0) || decide (l.length > 2048)) && ((List.range l.length).all (fun i => fitB l i dep) &&
  (List.range l.length).all (fun i => !(decide ((l[i]!).d < dep)) || l.any (fun n => decide (n.p = (i : Int)))))
theorem nds_at (l : List Nt) (i : Nat) (h : i < l.length) : (nds l)[i]! = (l[i]).n := by
 rw [getElem!_pos (nds l) i (by simpa [nds] using h)]; simp [nds]
theorem fits_q (w : World) (v : Value) (l : List Nt) (h : TQ w v l) (i : Nat) (hi : i < l.length) (hn : l.length <= 100000) (dep : Int) :
  Calls Tryz.prog 115 #[v, .int .i64 (i : Nat), .int .i64 dep] w fun e w' => e = .returned (.bool (fitB (nds l) i dep)) /\ Below w.heap.size w w' := by
 rcases Nat.eq_zero_or_pos i with h0 | h0
 ·subst h0;have := fits_zero_q w v l h hi hn dep;unfold fitB;rw [if_pos rfl, nds_at l 0 hi];exact this
 ·unfold fitB;rw [if_neg (by omega), nds_at l i hi, nds_at l (i - 1) (by omega)];by_cases hp : (l[i]).n.p.toNat < l.length
  ·have := fits_pos_q w v l h i h0 hi hn dep _ _ (l[(l[i]).n.p.toNat]'hp) rfl rfl (fun h1 h2 => rfl);rw [nds_at l _ hp];exact this
  ·have hd : (nds l)[(l[i]).n.p.toNat]! = (default : Nd) := by
    rw [getElem!_neg]; simpa [nds] using hp
   rw [hd];exact fits_pos_q w v l h i h0 hi hn dep _ _ ⟨default, ⟨none, 0, 0⟩⟩ rfl rfl (fun h1 h2 => absurd (show (l[i]).n.p.toNat < l.length by omega) hp)
end Go.Proofs.YtmagjdocondmhaaGreat.Tr
namespace Go.Proofs.YtmagjdocondmhaaGreat.Tr
open Go Go.RowKit Slc St
attribute [local go_sem] Oper.semAt_some
end Go.Proofs.YtmagjdocondmhaaGreat.Tr
namespace Go.Proofs.YtmagjdocondmhaaGreat.Tr.Gr
open Go Go.RowKit Slc Tr
def encI (i : Int) : List Value := [.int .i64 i]
theorem encI_ok : Enc 1 encI := ⟨fun _ => rfl, fun c u hu => by
 simp only [encI, zS] at hu
 subst hu; rfl, by omega⟩
structure Vx where
 pol : B
 ex : List B
 par : List Int
instance : Inhabited Vx := ⟨⟨[], [], []⟩⟩
structure Vt where
 n : Vx
 u : Sl
 q : Sl
instance : Inhabited Vt := ⟨⟨default, ⟨none, 0, 0⟩, ⟨none, 0, 0⟩⟩⟩
def encV (x : Vt) : List Value := [.string (bstr x.n.pol), x.u.val, x.q.val]
theorem encV_ok : Enc 3 encV := ⟨fun _ => rfl, fun x u hu => by simp [encV] at hu; rcases hu with rfl | rfl | rfl <;> rfl, by omega⟩
def verV (x : Vt) : Value := .agg #[.string (bstr x.n.pol), x.u.val, x.q.val]
structure Lv where
 vs : List Vt
 s : Sl
instance : Inhabited Lv := ⟨⟨[], ⟨none, 0, 0⟩⟩⟩
def encL (L : Lv) : List Value := [L.s.val]
theorem encL_ok : Enc 1 encL := ⟨fun _ => rfl, fun x u hu => by simp [encL] at hu; subst hu; rfl, by omega⟩
abbrev vxs (l : List Vt) : List Vx := l.map (·.n)
abbrev gxs (g : List Lv) : List (List Vx) := g.map fun L => vxs L.vs
def Vx.Ok (n : Vx) : Prop := Few n.ex /\ n.pol.length <= 1000000 /\ n.par.length <= 100000 /\ ∀ p ∈ n.par, -1000000 <= p /\ p <= 1000000
def RqIn {α : Type} (w : World) (S : Nat -> Prop) (enc : α -> List Value) (v : Value) (l : List α) : Prop := (l = [] /\ ∃ a c, v = .slice a 0 c) \/ RdIn w S enc v l
section
variable {α : Type} {enc : α -> List Value} {w w' : World} {S S' : Nat -> Prop} {v : Value} {l : List α}
theorem RqIn.form (h : RqIn w S enc v l) : ∃ ad c, v = .slice ad l.length c /\ True := by
 rcases h with ⟨rfl, a, c, rfl⟩ | h
 ·exact ⟨_, _, rfl, trivial⟩
 ·obtain ⟨ad, c, h, -⟩ := h.1.form; exact ⟨_, _, h, trivial⟩
theorem RqIn.keep (h : RqIn w S enc v l) (hs : w.heap.size <= w'.heap.size) (hb : ∀ k, S k -> k < w.heap.size -> w'.heap[k]? = w.heap[k]?) : RqIn w' S enc v l := h.imp id fun q => q.keep hs hb
theorem RqIn.mono (h : RqIn w S enc v l) (hS : ∀ k, k < w.heap.size -> S k -> S' k) : RqIn w S' enc v l := h.imp id fun q => q.mono hS
theorem RqIn.rd (h : RqIn w S enc v l) (hp : 0 < l.length) : Rd w enc v l := by
 rcases h with ⟨rfl, -⟩ | h
 ·simp at hp
 ·exact h.1
theorem RqIn.below (h : RqIn w S enc v l) (hb : Below w.heap.size w w') : RqIn w' S enc v l := h.keep hb.size fun k _ hk => hb.block k hk
theorem RqIn.all (h : RqIn w S enc v l) : RqIn w (fun k => k < w.heap.size) enc v l := h.imp id fun q => ⟨q.1, q.1.lt⟩
end
theorem int_cells {w : World} {S : Nat -> Prop} {ad : Option Addr} {n c : Nat} {l : List Int} (h : RqIn w S encI (.slice ad n c) l) : n = l.length /\ ∀ (W : World), (∀ k, k < w.heap.size -> S k -> W.heap[k]? = w.heap[k]?) -> ∀ k (hk : k < l.length), ∃ b o, ad = some ⟨b, o, none⟩ /\ b < w.heap.size /\ W.cell? ⟨b, o + k, none⟩ = some (.int .i64 l[k]) := by
 rcases h with ⟨rfl, a, c', h⟩ | h
 ·simp only [Value.slice.injEq] at h
  exact ⟨h.2.1, fun W _ k hk => by simp at hk⟩
 ·obtain ⟨ad', c', hv, -⟩ := h.1.form;simp only [Value.slice.injEq] at hv
  refine ⟨hv.2.1, fun W hW k hk => ?_⟩;obtain ⟨b, o, c, hv', _, hlt, hc⟩ := h.1.cells encI_ok (by omega);simp only [Value.slice.injEq] at hv'
  have q := hc W (fun k' hk' => hW k' (h.1.lt k' hk') (h.2 k' hk')) k hk 0 _ (by omega) rfl;rw [Nat.mul_one, Nat.add_zero] at q;exact ⟨b, o, hv'.1, hlt, q⟩
def VtIn (w : World) (S : Nat -> Prop) (x : Vt) : Prop := RdIn w S encS x.u.val x.n.ex /\ RqIn w S encI x.q.val x.n.par /\ Vx.Ok x.n
def VtAt (w : World) (x : Vt) : Prop := VtIn w (fun k => k < w.heap.size) x
section
variable {w w' : World} {S S' : Nat -> Prop} {x : Vt}
theorem VtIn.keep (h : VtIn w S x) (hs : w.heap.size <= w'.heap.size) (hb : ∀ k, S k -> k < w.heap.size -> w'.heap[k]? = w.heap[k]?) : VtIn w' S x := ⟨h.1.keep hs hb, h.2.1.keep hs hb, h.2.2⟩
theorem VtIn.mono (h : VtIn w S x) (hS : ∀ k, k < w.heap.size -> S k -> S' k) : VtIn w S' x := ⟨h.1.mono hS, h.2.1.mono hS, h.2.2⟩
theorem VtIn.below (h : VtIn w S x) (hb : Below w.heap.size w w') : VtIn w' S x := h.keep hb.size fun k _ hk => hb.block k hk
theorem VtIn.at_ (h : VtIn w S x) : VtAt w x := ⟨⟨h.1.1, h.1.1.lt⟩, h.2.1.all, h.2.2⟩
theorem VtAt.below (h : VtAt w x) (hb : Below w.heap.size w w') : VtAt w' x := (VtIn.below h hb).at_
end
structure VL (w : World) (v : Value) (l : List Vt) : Prop where
 rd : Rd w encV v l
 at_ : ∀ x ∈ l, VtAt w x
theorem VL.below {w w' : World} {v : Value} {l : List Vt} (h : VL w v l) (hb : Below w.heap.size w w') : VL w' v l := ⟨h.rd.below hb, fun x hx => (h.at_ x hx).below hb⟩
theorem vs_cells {w : World} {ad : Option Addr} {n c : Nat} {l : List Vt} (h : Rd w encV (.slice ad n c) l) : n = l.length /\ ∀ (W : World), (∀ k, k < w.heap.size -> (Value.slice ad n c).ownBlock = some k -> W.heap[k]? = w.heap[k]?) -> ∀ k (hk : k < l.length), ∃ b o, ad = some ⟨b, o, none⟩ /\ b < w.heap.size /\ W.cell? ⟨b, o + k * 3, none⟩ = some (.string (bstr (l[k]).n.pol)) /\ W.cell? ⟨b, o + k * 3 + 1, none⟩ = some (l[k]).u.val /\ W.cell? ⟨b, o + k * 3 + 2, none⟩ = some (l[k]).q.val := by
 obtain ⟨ad', c', hv, -⟩ := h.form;simp only [Value.slice.injEq] at hv
 refine ⟨hv.2.1, fun W hW k hk => ?_⟩;obtain ⟨b, o, c, hv', _, hlt, hc⟩ := h.cells encV_ok (by omega);simp only [Value.slice.injEq] at hv'
 have q := hc W (fun k' hk' => hW k' (h.lt k' hk') hk') k hk;exact ⟨b, o, hv'.1, hlt, q 0 _ (by omega) rfl, q 1 _ (by omega) rfl, q 2 _ (by omega) rfl⟩
theorem ls_cells {w : World} {ad : Option Addr} {n c : Nat} {l : List Lv} (h : Rd w encL (.slice ad n c) l) : n = l.length /\ ∀ (W : World), (∀ k, k < w.heap.size -> (Value.slice ad n c).ownBlock = some k -> W.heap[k]? = w.heap[k]?) -> ∀ k (hk : k < l.length), ∃ b o, ad = some ⟨b, o, none⟩ /\ b < w.heap.size /\ W.cell? ⟨b, o + k, none⟩ = some (l[k]).s.val := by
 obtain ⟨ad', c', hv, -⟩ := h.form;simp only [Value.slice.injEq] at hv
 refine ⟨hv.2.1, fun W hW k hk => ?_⟩;obtain ⟨b, o, c, hv', _, hlt, hc⟩ := h.cells encL_ok (by omega);simp only [Value.slice.injEq] at hv'
 have q := hc W (fun k' hk' => hW k' (h.lt k' hk') hk') k hk 0 _ (by omega) rfl;rw [Nat.mul_one, Nat.add_zero] at q;exact ⟨b, o, hv'.1, hlt, q⟩
structure GL (w : World) (v : Value) (g : List Lv) : Prop where
 rd : Rd w encL v g
 lv : ∀ L ∈ g, VL w L.s.val L.vs
theorem GL.below {w w' : World} {v : Value} {g : List Lv} (h : GL w v g) (hb : Below w.heap.size w w') : GL w' v g := ⟨h.rd.below hb, fun L hL => (h.lv L hL).below hb⟩
def GB (v : Value) (g : List Lv) (k : Nat) : Prop := v.ownBlock = some k \/ ∃ L ∈ g, L.s.val.ownBlock = some k
structure Fr (S : Nat -> Prop) (w w' : World) : Prop where
 os : w'.os = w.os
 tape : w'.tape = w.tape
 output : w'.output = w.output
 size : w.heap.size <= w'.heap.size
 block : ∀ k, k < w.heap.size -> ¬ S k -> w'.heap[k]? = w.heap[k]?
theorem Fr.refl (S : Nat -> Prop) (w : World) : Fr S w w := ⟨rfl, rfl, rfl, zR _, fun _ _ _ => rfl⟩
theorem Fr.trans {S S' : Nat -> Prop} {w w1 w2 : World} (h : Fr S w w1) (h' : Fr S' w1 w2) (hS : ∀ k, k < w.heap.size -> S' k -> S k) : Fr S w w2 :=
 ⟨h'.os.trans h.os, h'.tape.trans h.tape, h'.output.trans h.output, Nat.le_trans h.size h'.size, fun k hk hn => (h'.block k (Nat.lt_of_lt_of_le hk h.size) fun q => hn (hS k hk q)).trans (h.block k hk hn)⟩
theorem Fr.of_below {S : Nat -> Prop} {w w' : World} (h : Below w.heap.size w w') : Fr S w w' := ⟨h.os, h.tape, h.output, h.size, fun k hk _ => h.block k hk⟩
theorem Fr.of_grown {S : Nat -> Prop} {w w' : World} {g : Option Nat} (h : w.grownBy w' g) (hS : ∀ k, g = some k -> S k) : Fr S w w' := ⟨h.os, h.tape, h.output, h.size, fun k hk hn => h.block k hk fun e => hn (hS k e.symm)⟩
theorem Fr.below {S : Nat -> Prop} {w w' : World} {B : Nat} (h : Fr S w w') (hS : ∀ k, S k -> B <= k) (hB : B <= w.heap.size) : Below B w w' := ⟨h.os, h.tape, h.output, h.size, fun k hk => h.block k (by omega) fun q => by have := hS k q; omega⟩
structure GO (w : World) (B : Nat) (v : Value) (g : List Lv) : Prop where
 own : Slc.Own w B 63 1 encL v g
 lv : ∀ L ∈ g, Slc.Own w B 65 3 encV L.s.val L.vs
 ap : ∀ (i j : Nat) (hi : i < g.length) (hj : j < g.length), i ≠ j -> ∀ k, (g[i]).s.val.ownBlock = some k -> (g[j]).s.val.ownBlock ≠ some k
 ao : ∀ L ∈ g, ∀ k, L.s.val.ownBlock = some k -> v.ownBlock ≠ some k
 nm : ∀ L ∈ g, ∀ x ∈ L.vs, VtIn w (fun k => ¬ GB v g k) x
section
variable {w w' : World} {B B' : Nat} {v : Value} {g : List Lv}
theorem GO.gl (h : GO w B v g) : GL w v g := ⟨h.own.rd, fun L hL => ⟨(h.lv L hL).rd, fun x hx => (h.nm L hL x hx).at_⟩⟩
theorem GO.keep (h : GO w B v g) (hs : w.heap.size <= w'.heap.size) (hb : ∀ k, k < w.heap.size -> (GB v g k \/ ∃ L ∈ g, ∃ x ∈ L.vs, x.u.val.ownBlock = some k \/ x.q.val.ownBlock = some k) -> w'.heap[k]? = w.heap[k]?) : GO w' B v g := by
 refine ⟨h.own.keep fun k hk hlt => hb k hlt (.inl (.inl hk)), fun L hL => (h.lv L hL).keep fun k hk hlt => hb k hlt (.inl (.inr ⟨L, hL, hk⟩)), h.ap, h.ao, fun L hL x hx => ?_⟩;obtain ⟨h1, h2, h3⟩ := h.nm L hL x hx;refine ⟨⟨h1.1.keep hs fun k hk hlt => hb k hlt (.inr ⟨L, hL, x, hx, .inl hk⟩), h1.2⟩, ?_, h3⟩;rcases h2 with h2 | h2
 ·exact .inl h2
 ·exact .inr ⟨h2.1.keep hs fun k hk hlt => hb k hlt (.inr ⟨L, hL, x, hx, .inr hk⟩), h2.2⟩
theorem GO.below (h : GO w B v g) (hb : Below w.heap.size w w') : GO w' B v g := h.keep hb.size fun k hk _ => hb.block k hk
theorem GO.mono (h : GO w B v g) (hB : B' <= B) : GO w B' v g := ⟨h.own.mono hB, fun L hL => (h.lv L hL).mono hB, h.ap, h.ao, h.nm⟩
theorem GO.lt (h : GO w B v g) {k : Nat} (hk : GB v g k) : B <= k /\ k < w.heap.size := by
 rcases hk with hk | ⟨L, hL, hk⟩
 ·exact h.own.lt k hk
 ·exact (h.lv L hL).lt k hk
theorem GO.nil (w : World) (B : Nat) : GO w B (.slice none 0 0) [] := ⟨Slc.Own.nil _ _, (fun L hL => by cases hL), (fun i j hi => by simp at hi), (fun L hL => by cases hL), (fun L hL => by cases hL)⟩
end
theorem info_ver : (Tryz.prog.info? 65).map (fun i => (i.zero, i.size, i.bytes)) = some (some (.agg #[.string ⟨#[]⟩, .slice none 0 0, .slice none 0 0]), 3, 64) := by kernel_rfl
theorem info_lev : (Tryz.prog.info? 63).map (fun i => (i.zero, i.size, i.bytes)) = some (some (.agg #[.slice none 0 0]), 1, 24) := by kernel_rfl
theorem info_int : (Tryz.prog.info? 3).map (fun i => (i.zero, i.size, i.bytes)) = some (some (.int .i64 0), 1, 8) := by kernel_rfl
theorem info_boo : (Tryz.prog.info? 4).map (fun i => (i.zero, i.size, i.bytes)) = some (some (.bool false), 1, 1) := by kernel_rfl
theorem und_vers : Tryz.prog.underlying 61 = some (.slice 65) := by kernel_rfl
theorem und_levs : Tryz.prog.underlying 23 = some (.slice 63) := by kernel_rfl
theorem und_ints : Tryz.prog.underlying 22 = some (.slice 3) := by kernel_rfl
end Go.Proofs.YtmagjdocondmhaaGreat.Tr.Gr
