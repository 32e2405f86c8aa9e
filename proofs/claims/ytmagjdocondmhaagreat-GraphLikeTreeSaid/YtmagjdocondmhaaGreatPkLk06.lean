/- packed -/
import Derived.Test.YtmagjdocondmhaaGreatPkLk05
import Derived.RangeFuncNested
import Derived.RangeFuncBound
import Derived.RangeFuncCalls
import Derived.RangeFuncLeaves
import Derived.RangeFuncBox
import Derived.Shelf.Abstract
import Derived.Shelf.RegionOpen
import Derived.OwnWalkIn
import Derived.TacticsInMore
import Derived.LoopNIn
import Derived.LoopIn
import Derived.WalkSpells
set_option linter.unusedVariables false
set_option linter.unusedSimpArgs false
set_option maxRecDepth 100000
set_option maxHeartbeats 64000000
namespace Go.Proofs.YtmagjdocondmhaaGreat.Tr.Gr
open Go Go.RowKit Slc St Tr
attribute [local go_sem] Oper.semAt_some
def specV (n : Vx) : Bool := decide (n.pol = anyP)
def ascI (l : List Int) : Bool := decide (l.Pairwise (· < ·)) && !l.isEmpty
theorem gspec_any (x : Vt) (w : World) : Calls Tryz.prog 41 #[verV x] w fun e w' => e = .returned (.bool (specV x.n)) /\ Below w.heap.size w w' := by
 have hs := same_any x.n.pol;unfold verV;rw [show specV x.n = decide (x.n.pol = anyP) from rfl];generalize decide (x.n.pol = anyP) = R at *;generalize x.u.val = U1 at *;generalize x.q.val = U2 at *;generalize bstr x.n.pol = S at *;go_enter Tryz.func41, Tryz.ntmps41;go_wp2_with fail
 go_ret;exact ⟨rfl, (Below.refl _ _).alloc (zR _) _⟩
theorem gonly_q (w : World) (v : Value) (l : List B) (h : Rq w v l) : Calls Tryz.prog 42 #[v] w fun e w' => e = .returned (.bool (onlyB l)) /\ w = w' := by
 obtain ⟨ad, c, rfl, hc0⟩ := h.form;obtain ⟨-, hcell⟩ := strs_cells_q h;by_cases h1 : l.length = 1
 ·obtain ⟨a, rfl⟩ := List.length_eq_one_iff.1 h1;obtain ⟨b, o, rfl, -, hx⟩ := hcell w (Below.refl _ _) 0 (by simp);have hs := same_any a;have hR : onlyB [a] = decide (a = anyP) := by unfold onlyB; simp
  rw [hR];simp only [List.getElem_cons_zero, Nat.add_zero] at hx
  generalize decide (a = anyP) = R at *;have hz : ([a] : List B).length = 1 := rfl;rw [hz];generalize bstr a = S at *;clear hcell h h1 hR hz hc0;go_enter Tryz.func42, Tryz.ntmps42;go_wp2_with fail
  go_ret;exact ⟨by first | rfl | simp [hs], rfl⟩
 ·have hR : onlyB l = false := zF (fun h => h1 (by rw [h]; rfl));rw [hR];have t0 : (((l.length : Nat) : Int) == 1) = false := by simp; omega
  have t1 : ¬ (((l.length : Nat) : Int) = 1) := by omega
  clear hcell h hR hc0;generalize l.length = N at *;go_enter Tryz.func42, Tryz.ntmps42;go_wp2_with fail
  go_ret;exact ⟨rfl, rfl⟩
theorem gascS_q (w : World) (v : Value) (l : List B) (h : Rq w v l) (hn : l.length <= 1000000) : Calls Tryz.prog 91 #[v] w fun e w' => e = .returned (.bool (ascB l)) /\ Below w.heap.size w w' := by
 obtain ⟨ad, c, rfl, hc0⟩ := h.form;obtain ⟨-, hcell⟩ := strs_cells_q h;have HC := Bx.mk hcell;obtain ⟨R, hR⟩ : ∃ R, R = ascB l := ⟨_, rfl⟩
 rw [<- hR];have HR := Bx.mk hR;obtain ⟨N, hN⟩ : ∃ N, N = l.length := ⟨_, rfl⟩
 have HN := Bx.mk hN;have hNb : N <= 1000000 := by omega
 rw [<- hN];clear hcell hR hN h hc0 hn;go_enter Tryz.func91, Tryz.ntmps91;go_wp2
 go_loopw [3] (fun iv wr => ∃ i : Nat, iv = .int .i64 (i : Nat) /\ 1 <= i /\ i <= N + 1 /\ Bx (∀ k (hk : k + 1 < l.length), k + 1 < i -> l[k] < l[k + 1]) /\ Below w.heap.size w wr) (fun iv _ => N + 1 - (intOf iv).toNat)
 case atStart => exact ⟨1, rfl, by omega, by omega, ⟨fun k hk h => by omega⟩, Below.refl _ _⟩
 case round =>
  obtain ⟨i, rfl, h1, h2, hB, hbel⟩ := hrel;by_cases hlt : i < N
  ·obtain ⟨j, rfl⟩ : ∃ j, i = j + 1 := ⟨i - 1, by omega⟩
   have hj1 : j + 1 < l.length := by rw [<- HN.out]; exact hlt
   obtain ⟨b, o, rfl, hbl, hx⟩ := HC.out wr hbel j (by omega);obtain ⟨b', o', hbo, -, hy⟩ := HC.out wr hbel (j + 1) hj1;simp only [zO, Addr.mk.injEq, and_true] at hbo
   obtain ⟨rfl, rfl⟩ := hbo;have l1 := less_bytes l[j] l[j + 1];have l2 := less_bytes l[j + 1] l[j];have l3 := same_bytes l[j] l[j + 1];have HBEL := Bx.mk hbel;have wj : IntKind.i64.wrap (((j + 1 : Nat) : Int) - 1) = (j : Int) := by rw [IntWalk.i64_in _ (by omega)]; omega
   have ej : ((j : Int) + 1).toNat = j + 1 := by omega
   by_cases hc : l[j] < l[j + 1]
   ·rw [zT hc] at l1;rw [zF (List.lt_asymm hc)] at l2
    have HX := Bx.mk (show ∀ k (hk : k + 1 < l.length), k + 1 < j + 1 + 1 -> l[k] < l[k + 1] by
     intro k hk hkj;rcases Nat.lt_or_ge (k + 1) (j + 1) with q | q
     ·exact hB.out k hk q
     ·obtain rfl : k = j := by omega
      exact hc)
    rw [zF (fun e => by rw [e] at hc; exact List.lt_irrefl _ hc)] at l3;generalize bstr l[j] = X at *;generalize bstr l[j + 1] = Y at *;clear hbel hc;go_wp2_with fail
    go_quiet (fail)
    go_wp2_with fail
    go_roundw
    case rel => exact ⟨j + 2, by go_num, by omega, by omega, HX, below_drawn HBEL.out _⟩
    case measure => simp [intOf]; omega
   ·rw [zF hc] at l1;have HF := Bx.mk (show R = false by rw [HR.out]; exact ascB_bad hj1 hc);by_cases h2 : l[j + 1] < l[j]
    ·rw [zT h2] at l2;rw [zF (fun e => hc (by rw [e] at h2; exact absurd h2 (List.lt_irrefl _)))] at l3;generalize bstr l[j] = X at *;generalize bstr l[j + 1] = Y at *;clear hbel hc h2;go_wp2_with fail
     go_quiet (fail)
     go_wp2_with fail
     go_ret;exact ⟨by rw [HF.out]; rfl, below_drawn HBEL.out _⟩
    ·rw [zF h2] at l2;rw [zT (eqB hc h2)] at l3;generalize bstr l[j] = X at *;generalize bstr l[j + 1] = Y at *;clear hbel hc h2;go_wp2_with fail
     go_quiet (fail)
     go_wp2_with fail
     go_ret;exact ⟨by rw [HF.out]; rfl, below_drawn HBEL.out _⟩
  ·have HE := Bx.mk (show R = decide ((0 : Int) < (N : Nat)) by
    rw [HR.out, HN.out]
    exact ascB_good (fun k hk => hB.out k hk (by have := HN.out; omega)))
   have HBEL := Bx.mk hbel;obtain ⟨Z, hZ⟩ : ∃ Z, Z = decide ((N : Int) > 0) := ⟨_, rfl⟩
   have HZ := Bx.mk hZ;clear hbel;rw [show decide ((0 : Int) < (N : Nat)) = decide ((N : Int) > 0) from rfl, <- hZ] at HE;go_wp2_with fail
   go_ret;exact ⟨by rw [HE.out, HZ.out]; first | rfl | simp, HBEL.out⟩
theorem ascI_bad {l : List Int} {i : Nat} (hi : i + 1 < l.length) (h : ¬ l[i] < l[i + 1]) : ascI l = false := by
 unfold ascI;rw [zF (fun hp => h (List.pairwise_iff_getElem.1 hp i (i + 1) (by omega) hi (by omega))), Bool.false_and]
theorem pairI_chain : ∀ (l : List Int), (∀ k (hk : k + 1 < l.length), l[k] < l[k + 1]) -> l.Pairwise (· < ·)
 | [], _ => List.Pairwise.nil
 | [a], _ => by simp
 | a :: b :: l, h => by
  have ih := pairI_chain (b :: l) (fun k hk => h (k + 1) (by simp only [List.length_cons] at hk |-; omega));have h0 : a < b := h 0 (by simp);refine List.pairwise_cons.2 ⟨fun x hx => ?_, ih⟩;rcases List.mem_cons.1 hx with rfl | hx
  ·exact h0
  ·have := (List.pairwise_cons.1 ih).1 x hx; omega
theorem ascI_good {l : List Int} (h : ∀ k (hk : k + 1 < l.length), l[k] < l[k + 1]) : ascI l = decide ((0 : Int) < (l.length : Nat)) := by
 unfold ascI;rw [zT (pairI_chain l h), Bool.true_and]
 cases l <;> simp
def Ri (w : World) (v : Value) (l : List Int) : Prop := RqIn w (fun k => k < w.heap.size) encI v l
theorem Ri.below {w w' : World} {v : Value} {l : List Int} (h : Ri w v l) (hb : Below w.heap.size w w') : Ri w' v l := (RqIn.below h hb).all
theorem Ri.cells {w : World} {ad : Option Addr} {n c : Nat} {l : List Int} (h : Ri w (.slice ad n c) l) : ∀ (W : World), Below w.heap.size w W -> ∀ k (hk : k < l.length), ∃ b o, ad = some ⟨b, o, none⟩ /\ b < w.heap.size /\ W.cell? ⟨b, o + k, none⟩ = some (.int .i64 l[k]) :=
 fun W hW => (int_cells h).2 W fun k hk _ => hW.block k hk
theorem gascI_any (w : World) (v : Value) (l : List Int) (h : Ri w v l) (hn : l.length <= 1000000) : Calls Tryz.prog 92 #[v] w fun e w' => e = .returned (.bool (ascI l)) /\ Below w.heap.size w w' := by
 obtain ⟨ad, c, rfl, -⟩ := RqIn.form h;have HC := Bx.mk h.cells;obtain ⟨R, hR⟩ : ∃ R, R = ascI l := ⟨_, rfl⟩
 rw [<- hR];have HR := Bx.mk hR;obtain ⟨N, hN⟩ : ∃ N, N = l.length := ⟨_, rfl⟩
 have HN := Bx.mk hN;have hNb : N <= 1000000 := by omega
 rw [<- hN];clear hR hN h hn;go_enter Tryz.func92, Tryz.ntmps92;go_wp2
 go_loopw [3] (fun iv wr => ∃ i : Nat, iv = .int .i64 (i : Nat) /\ 1 <= i /\ i <= N + 1 /\ Bx (∀ k (hk : k + 1 < l.length), k + 1 < i -> l[k] < l[k + 1]) /\ Below w.heap.size w wr) (fun iv _ => N + 1 - (intOf iv).toNat)
 case atStart => exact ⟨1, rfl, by omega, by omega, ⟨fun k hk h => by omega⟩, Below.refl _ _⟩
 case round =>
  obtain ⟨i, rfl, h1, h2, hB, hbel⟩ := hrel;by_cases hlt : i < N
  ·obtain ⟨j, rfl⟩ : ∃ j, i = j + 1 := ⟨i - 1, by omega⟩
   have hj1 : j + 1 < l.length := by rw [<- HN.out]; exact hlt
   obtain ⟨b, o, rfl, hbl, hx⟩ := HC.out wr hbel j (by omega);obtain ⟨b', o', hbo, -, hy⟩ := HC.out wr hbel (j + 1) hj1;simp only [zO, Addr.mk.injEq, and_true] at hbo
   obtain ⟨rfl, rfl⟩ := hbo;have HBEL := Bx.mk hbel;have wj : IntKind.i64.wrap (((j + 1 : Nat) : Int) - 1) = (j : Int) := by rw [IntWalk.i64_in _ (by omega)]; omega
   have ej : ((j : Int) + 1).toNat = j + 1 := by omega
   by_cases hc : l[j] < l[j + 1]
   ·have HX := Bx.mk (show ∀ k (hk : k + 1 < l.length), k + 1 < j + 1 + 1 -> l[k] < l[k + 1] by
     intro k hk hkj;rcases Nat.lt_or_ge (k + 1) (j + 1) with q | q
     ·exact hB.out k hk q
     ·obtain rfl : k = j := by omega
      exact hc)
    generalize l[j] = X at *;generalize l[j + 1] = Y at *;have t1 : decide (X >= Y) = false := zF (by omega);have t2 : decide (Y <= X) = false := zF (by omega);clear hbel hc;go_wp2_with fail
    go_quiet (fail)
    go_wp2_with fail
    go_roundw
    case rel => exact ⟨j + 2, by go_num, by omega, by omega, HX, below_drawn HBEL.out _⟩
    case measure => simp [intOf]; omega
   ·have HF := Bx.mk (show R = false by rw [HR.out]; exact ascI_bad hj1 hc);generalize l[j] = X at *;generalize l[j + 1] = Y at *;have t1 : decide (X >= Y) = true := zT (by omega);have t2 : decide (Y <= X) = true := zT (by omega);clear hbel hc;go_wp2_with fail
    go_quiet (fail)
    go_wp2_with fail
    go_ret;exact ⟨by rw [HF.out]; rfl, below_drawn HBEL.out _⟩
  ·have HE := Bx.mk (show R = decide ((0 : Int) < (N : Nat)) by
    rw [HR.out, HN.out]
    exact ascI_good (fun k hk => hB.out k hk (by have := HN.out; omega)))
   have HBEL := Bx.mk hbel;obtain ⟨Z, hZ⟩ : ∃ Z, Z = decide ((N : Int) > 0) := ⟨_, rfl⟩
   have HZ := Bx.mk hZ;clear hbel;rw [show decide ((0 : Int) < (N : Nat)) = decide ((N : Int) > 0) from rfl, <- hZ] at HE;go_wp2_with fail
   go_ret;exact ⟨by rw [HE.out, HZ.out]; first | rfl | simp, HBEL.out⟩
theorem indexI_any (w : World) (v : Value) (l : List Int) (x : Int) (h : Ri w v l) (hl : l.length <= 9223372036854775807) :
  Calls Tryz.prog 113 #[v, .int .i64 x] w fun e w' => ∃ r : Int, e = .returned (.int .i64 r) /\ (0 <= r ↔ x ∈ l) /\ w = w' := by
 obtain ⟨ad, cp, rfl, -⟩ := RqIn.form h;have HC := Bx.mk (h.cells w (Below.refl _ _));clear h;go_enter Tryz.func113, Tryz.ntmps113;go_wp2_with fail
 go_loop [5, 8] (fun _ i => ∃ k : Nat, k <= l.length /\ i = .int .i64 (k : Int) /\ x ∉ l.take k) (fun _ i => l.length - (intOf i).toNat)
 case atStart => exact ⟨0, by omega, rfl, by simp⟩
 case round =>
  obtain ⟨k, hk, rfl, hnot⟩ := hrel;have HN := Bx.mk hnot;clear hnot;by_cases hlt : k < l.length
  ·obtain ⟨b, o, rfl, -, hcl⟩ := HC.out k hlt
   have HT := Bx.mk (show x ≠ l[k] -> x ∉ l.take (k + 1) from fun h1 h2 => by
    rw [zA hlt, List.mem_append, zS] at h2
    exact h2.elim HN.out h1)
   have HM := Bx.mk (zM hlt);by_cases hxy : x = l[k]
   ·have HR := Bx.mk (show decide (x ∈ l) = true by rw [hxy]; exact zT HM.out);have hq : (x == l[k]) = true := (by simpa using hxy);rw [<- hxy] at hcl;have hq2 : (x == x) = true := (by simp);clear hxy HM hq;go_wp2_with fail
    go_ret;exact ⟨_, rfl, ⟨fun _ => of_decide_eq_true HR.out, fun _ => by omega⟩, rfl⟩
   ·have HT2 := Bx.mk (HT.out hxy);have hq : (x == l[k]) = false := (by simpa using hxy);generalize l[k] = Y at *;clear hxy HM;go_wp2_with fail
    go_round
    case rel => exact ⟨k + 1, by omega, by go_num, HT2.out⟩
    case measure => simp [intOf]; omega
  ·obtain rfl : k = l.length := by omega
   have HR := Bx.mk (show decide (x ∈ l) = false by have := HN.out; rw [List.take_length] at this; exact zF this);go_wp2_with fail
   go_ret;exact ⟨_, rfl, ⟨fun q => absurd q (by decide), fun q => absurd q (of_decide_eq_false HR.out)⟩, rfl⟩
theorem containsI_any (w : World) (v : Value) (l : List Int) (x : Int) (h : Ri w v l) (hl : l.length <= 9223372036854775807) :
  Calls Tryz.prog 78 #[v, .int .i64 x] w fun e w' => e = .returned (.bool (decide (x ∈ l))) /\ w = w' := by
 have HI := Bx.mk (indexI_any w v l x h hl);clear h;go_enter Tryz.func78, Tryz.ntmps78;go_wp2_with fail
 go_at_call 113;refine HI.out.mono ?_;rintro e w' ⟨r, rfl, hr, rfl⟩;have HR := Bx.mk hr;clear hr;go_wp2_with fail
 go_ret;exact ⟨by simp [HR.out], rfl⟩
def idxG {α : Type} (t : List α) (f : α -> Bool) : Int := if t.findIdx f < t.length then (t.findIdx f : Nat) else -1
theorem idxG_eq {α : Type} [Inhabited α] {t : List α} {f : α -> Bool} {k : Nat} (hk : k < t.length) (h : f t[k]! = true) (hn : ∀ j, j < k -> f t[j]! = false) : idxG t f = (k : Int) := by
 have e : t.findIdx f = k := by
  rw [List.findIdx_eq hk];rw [getElem!_pos t k hk] at h;refine ⟨h, fun j hj => ?_⟩;have := hn j hj;rw [getElem!_pos t j (by omega)] at this;exact this
 unfold idxG;rw [e, if_pos hk]
theorem idxG_no {α : Type} [Inhabited α] {t : List α} {f : α -> Bool} (hn : ∀ j, j < t.length -> f t[j]! = false) : idxG t f = -1 := by
 unfold idxG;rw [if_neg];intro h;have h1 := List.findIdx_getElem (p := f) (w := h);have h2 := hn _ h;rw [getElem!_pos t _ h] at h2;rw [h1] at h2; cases h2
theorem idxG_some {α : Type} [Inhabited α] {t : List α} {f : α -> Bool} (h : 0 <= idxG t f) : ∃ k, k < t.length /\ idxG t f = (k : Int) /\ f t[k]! = true /\ ∀ j, j < k -> f t[j]! = false := by
 unfold idxG at h |-;split at h
 ·rename_i q
  rw [if_pos q];refine ⟨_, q, rfl, ?_, fun j hj => ?_⟩
  ·rw [getElem!_pos t _ q]; exact List.findIdx_getElem
  ·rw [getElem!_pos t j (by omega)];exact Bool.eq_false_iff.2 (by simpa using List.not_of_lt_findIdx hj)
 ·omega
theorem idxG_neg {α : Type} [Inhabited α] {t : List α} {f : α -> Bool} (h : idxG t f < 0) : ∀ j, j < t.length -> f t[j]! = false := by
 intro j hj;unfold idxG at h;split at h
 ·omega
 ·rename_i q
  rw [getElem!_pos t j hj];exact Bool.eq_false_iff.2 (by simpa using List.not_of_lt_findIdx (p := f) (xs := t) (by have := List.findIdx_le_length (p := f) (xs := t); omega))
def fndP (l : List Vx) (p : B) : Int := idxG l fun n => decide (n.pol = p)
theorem vxs_at (l : List Vt) (i : Nat) (h : i < l.length) : (vxs l)[i]! = (l[i]).n := by
 rw [getElem!_pos (vxs l) i (by simpa [vxs] using h)]; simp [vxs]
theorem vxs_len (l : List Vt) : (vxs l).length = l.length := by simp [vxs]
theorem VL.at3 {w : World} {ad : Option Addr} {n c : Nat} {l : List Vt} (h : VL w (.slice ad n c) l) (W : World) (hW : Below w.heap.size w W) (k : Nat) (hk : k < l.length) : ∃ b o, ad = some ⟨b, o, none⟩ /\ b < w.heap.size /\ W.cell? ⟨b, o + k * 3, none⟩ = some (.string (bstr (l[k]).n.pol)) /\ W.cell? ⟨b, o + k * 3 + 1, none⟩ = some (l[k]).u.val /\ W.cell? ⟨b, o + k * 3 + 2, none⟩ = some (l[k]).q.val :=
 (vs_cells h.rd).2 W (fun k hk _ => hW.block k hk) k hk
theorem findF_any (w : World) (x : Vt) (qd : Nat) (p : B) (hq : w.cell? ⟨qd, 0, none⟩ = some (.string (bstr p))) (hql : qd < w.heap.size) :
  Calls Tryz.prog 95 #[verV x, .pointer (some ⟨qd, 0, none⟩)] w fun e w' => e = .returned (.bool (decide (x.n.pol = p))) /\ Below w.heap.size w w' := by
 have l3 := same_bytes x.n.pol p;unfold verV;generalize decide (x.n.pol = p) = R at *;generalize x.u.val = U1 at *;generalize x.q.val = U2 at *;generalize bstr x.n.pol = S at *;generalize bstr p = T at *;have hb := (Below.refl w.heap.size w).alloc (zR _) (.cells #[.string S, U1, U2] 65);have HB := Bx.mk hb;have hq1 := (hb.cell (p := ⟨qd, 0, none⟩) hql).trans hq;clear hb hq;go_enter Tryz.func95, Tryz.ntmps95;go_wp2_with fail
 go_ret;exact ⟨rfl, HB.out⟩
theorem idxV_any (w : World) (v : Value) (l : List Vt) (h : VL w v l) (hn : l.length <= 100000) (qd : Nat) (p : B) (hq : w.cell? ⟨qd, 0, none⟩ = some (.string (bstr p))) (hql : qd < w.heap.size) :
  Calls Tryz.prog 94 #[v, .func (.func 95) #[] #[.pointer (some ⟨qd, 0, none⟩)]] w fun e w' => e = .returned (.int .i64 (fndP (vxs l) p)) /\ Below w.heap.size w w' := by
 obtain ⟨ad, c, rfl, -⟩ := h.rd.form;have HC := Bx.mk h.at3;obtain ⟨R, hR⟩ : ∃ R, R = fndP (vxs l) p := ⟨_, rfl⟩
 rw [<- hR];have HR := Bx.mk hR;obtain ⟨N, hN⟩ : ∃ N, N = l.length := ⟨_, rfl⟩
 have HN := Bx.mk hN;rw [<- hN] at hn |-;clear h hR hN;have HQ := Bx.mk hq;have HQL := Bx.mk hql;clear hq hql;have eg : ∀ args W, (callFunc 95 args).run Tryz.prog W = .ok (.enter 95 args) W := enters_of Tryz.func95 (by kernel_rfl) rfl
 go_enter Tryz.func94, Tryz.ntmps94;go_wp2_with fail
 go_loopw [8] (fun i wr => ∃ k : Nat, k <= N /\ i = .int .i64 k /\ Bx (∀ j, j < k -> decide (((vxs l)[j]!).pol = p) = false) /\ Bx (Below w.heap.size w wr)) (fun i _ => N - (intOf i).toNat)
 case atStart => exact ⟨0, by omega, rfl, ⟨fun j hj => by omega⟩, ⟨Below.refl _ _⟩⟩
 case round =>
  obtain ⟨k, hk, rfl, hF, hBw⟩ := hrel;by_cases hlt : k < N
  ·have hkl : k < l.length := by rw [<- HN.out]; exact hlt
   obtain ⟨b, o, rfl, hbl, c0, c1, c2⟩ := HC.out wr hBw.out k hkl;have HX := Bx.mk (show (vxs l)[k]! = (l[k]).n from vxs_at l k hkl);obtain ⟨x, hx⟩ : ∃ x, x = l[k] := ⟨_, rfl⟩
   rw [<- hx] at c0 c1 c2 HX;simp only [Sl.val] at c1 c2
   have hcf := findF_any wr x qd p ((hBw.out.cell (p := ⟨qd, 0, none⟩) HQL.out).trans HQ.out) (Nat.lt_of_lt_of_le HQL.out hBw.out.size);unfold verV at hcf;simp only [Sl.val] at hcf
   obtain ⟨r, hr⟩ : ∃ r, r = decide (x.n.pol = p) := ⟨_, rfl⟩
   rw [<- hr] at hcf;have HRX := Bx.mk hr;clear hx hbl hr;go_wp2_with fail
   go_at_call 95;refine hcf.mono ?_;rintro e w2 ⟨rfl, hb2⟩;have HB2 := Bx.mk (hBw.out.trans (hb2.mono hBw.out.size));clear hcf hb2 c0 c1 c2
   cases r with
   | true =>
    have HF2 := Bx.mk (show R = (k : Int) by rw [HR.out]; exact idxG_eq (by rw [vxs_len]; exact hkl) (by rw [HX.out]; exact HRX.out.symm) hF.out);clear hkl;go_wp2_with fail
    go_ret
    exact ⟨by rw [HF2.out]; rfl, HB2.out⟩
   | false =>
    clear hkl;go_wp2_with fail
    go_roundw
    case rel => exact ⟨k + 1, by omega, by go_num, ⟨fun j hj => by
     by_cases e : j = k
     ·subst e; rw [HX.out]; exact HRX.out.symm
     ·exact hF.out j (by omega)⟩, HB2⟩
    case measure => simp [intOf]; omega
  ·obtain rfl : N = k := by omega
   have HF2 := Bx.mk (show R = -1 by rw [HR.out]; exact idxG_no fun i hi => hF.out i (by rw [vxs_len, <- HN.out] at hi; exact hi));go_wp2_with fail
   go_ret;exact ⟨by rw [HF2.out]; rfl, hBw.out⟩
theorem find_any (w : World) (v : Value) (l : List Vt) (h : VL w v l) (hn : l.length <= 100000) (p : B) :
  Calls Tryz.prog 50 #[.agg #[v], .string (bstr p)] w fun e w' => e = .returned (.int .i64 (fndP (vxs l) p)) /\ Below w.heap.size w w' := by
 obtain ⟨ad, c, rfl, -⟩ := h.rd.form;obtain ⟨W1, hW1⟩ : ∃ W1, W1 = w.alloc (.cells #[.slice ad l.length c] 63) := ⟨_, rfl⟩
 obtain ⟨W2, hW2⟩ : ∃ W2, W2 = W1.alloc (.cells #[.string (bstr p)] 9) := ⟨_, rfl⟩
 have hb1 : Below w.heap.size w W1 := by rw [hW1]; exact (Below.refl _ _).alloc (zR _) _
 have hb2 : Below W1.heap.size W1 W2 := by rw [hW2]; exact (Below.refl _ _).alloc (zR _) _
 have hs1 : W1.heap.size = w.heap.size + 1 := by rw [hW1]; simp
 have hs2 : W2.heap.size = W1.heap.size + 1 := by rw [hW2]; simp
 have hr1 : W1.heap[w.heap.size]? = some (.cells #[.slice ad l.length c] 63 (0, 0)) := by rw [hW1]; exact heap_alloc_new _ _
 have hr2 : W2.heap[W1.heap.size]? = some (.cells #[.string (bstr p)] 9 (0, 0)) := by rw [hW2]; exact heap_alloc_new _ _
 have hr1' := (hb2.block w.heap.size (by omega)).trans hr1;have m0 := cell_of_row _ _ 0 _ _ _ hr1';have m1 := cell_of_row _ _ 0 _ _ _ hr2;simp only [List.getElem?_toArray, List.getElem?_cons_zero] at m0 m1
 have hB2 : Below w.heap.size w W2 := hb1.trans (hb2.mono hb1.size);have hidx := idxV_any W2 _ l (h.below hB2) hn W1.heap.size p m1 (by omega);have HB2 := Bx.mk hB2;obtain ⟨R, hR⟩ : ∃ R, R = fndP (vxs l) p := ⟨_, rfl⟩
 rw [<- hR] at hidx |-;obtain ⟨N, hN⟩ : ∃ N, N = l.length := ⟨_, rfl⟩
 rw [<- hN] at hidx hW1 m0 |-;rw [hs1] at hidx;obtain ⟨q1, hq1⟩ : ∃ q, q = w.heap.size + 1 := ⟨_, rfl⟩
 obtain ⟨q0, hq0⟩ : ∃ q, q = w.heap.size := ⟨_, rfl⟩
 rw [<- hq1] at hidx;rw [<- hq0] at m0;clear hb1 hb2 hs1 hs2 hr1 hr2 hr1' hB2 m1 hR hN h hn;go_enter Tryz.func50, Tryz.ntmps50;go_upto_region 1 with fail
 rw [<- hW1, <- hW2, <- hq1, <- hq0];clear hW1 hW2 hq1 hq0;go_wp2_with fail
 go_at_call 94;refine hidx.mono ?_;rintro e w3 ⟨rfl, hb3⟩;have HB3 := Bx.mk (HB2.out.trans (hb3.mono HB2.out.size));clear hidx hb3;go_wp2_with fail
 go_ret;exact ⟨rfl, HB3.out⟩
end Go.Proofs.YtmagjdocondmhaaGreat.Tr.Gr
namespace Go.Proofs.YtmagjdocondmhaaGreat.Rg
open Go Go.RowKit Go.Shelf Slc
theorem lt_of_at {w : World} {k : Nat} {ob : Obj} (h : w.heap[k]? = some ob) : k < w.heap.size := by
 rcases Nat.lt_or_ge k w.heap.size with q | q
 ·exact q
 ·rw [Array.getElem?_eq_none q] at h; cases h
theorem alloc_at {w : World} {c : Array Value} {t : TypeId} {n : Nat} (hn : n = w.heap.size) : (w.alloc (.cells c t)).heap[n]? = some (.cells c t (0, 0)) := by
 subst hn; exact heap_alloc_new _ _
theorem alloc_keep {w : World} {p : Nat} {ob o : Obj} (h : w.heap[p]? = some ob) : (w.alloc o).heap[p]? = some ob := by
 have := lt_of_at h
 show (w.heap.push o)[p]? = _
 rw [Array.getElem?_push_lt this, <- h, Array.getElem?_eq_getElem this]
theorem row_set {W : World} {p i : Nat} {c : Array Value} {t : TypeId} {fr : Nat × Nat} (h : W.heap[p]? = some (.cells c t fr)) (v : Value) : (W.setCell ⟨p, i, none⟩ v).heap[p]? = some (.cells (c.setIfInBounds i v) t fr) := by
 simp only [World.setCell, Array.getElem?_modify, if_true, h, Option.map_some]
 simp
theorem row_other {W : World} {p q i : Nat} {ob : Obj} (h : W.heap[p]? = some ob) (hne : p ≠ q) (v : Value) : (W.setCell ⟨q, i, none⟩ v).heap[p]? = some ob := by
 simp only [World.setCell, Array.getElem?_modify]
 rw [if_neg (by omega)]; exact h
theorem frozen_row {W : World} {p i : Nat} {c : Array Value} {t : TypeId} (h : W.heap[p]? = some (.cells c t (0, 0))) : W.frozen? ⟨p, i, none⟩ = false := by
 simp [World.frozen?, h]
theorem cells_kept {A B : World} {B0 p : Nat} {c : Array Value} {t : TypeId} {row : Option Nat} (h : A.heap[p]? = some (.cells c t (0, 0))) (hg : A.grownBy B row) (hr : ∀ r, row = some r -> B0 <= r /\ ∃ o : Obj, A.heap[r]? = some o /\ o.isCells = false) : B.heap[p]? = some (.cells c t (0, 0)) := by
 refine (hg.block p (lt_of_at h) fun e => ?_).trans h;obtain ⟨-, o, ho, hc⟩ := hr p e.symm;rw [h] at ho;obtain rfl := Option.some.inj ho;simp [Obj.isCells] at hc
theorem own_cells {α : Type} {w : World} {B : Nat} {t : TypeId} {z : Nat} {enc : α -> List Value} {v : Value} {l : List α} (h : Slc.Own w B t z enc v l) : ∀ (j : Nat) (o : Obj), v.ownBlock = some j -> w.heap[j]? = some o -> o.isCells = true := by
 intro j o hj ho;rcases h.2 with ⟨rfl, _⟩ | ⟨g, cap, cur, rfl, _, hg, _⟩
 ·cases hj
 ·simp only [Value.ownBlock, zO] at hj
  subst hj;rw [hg] at ho;obtain rfl := Option.some.inj ho;rfl
theorem own_kept {α : Type} {A B : World} {B0 b : Nat} {t : TypeId} {z : Nat} {enc : α -> List Value} {v : Value} {l : List α} {row : Option Nat} (h : Slc.Own A b t z enc v l) (hg : A.grownBy B row) (hr : ∀ r, row = some r -> B0 <= r /\ ∃ o : Obj, A.heap[r]? = some o /\ o.isCells = false) : Slc.Own B b t z enc v l := by
 refine h.keep fun k hk hlt => hg.block k hlt fun e => ?_
 obtain ⟨-, o, ho, hc⟩ := hr k e.symm;rw [own_cells h k o hk ho] at hc
 cases hc
structure KB (n p : Nat) (W W' : World) : Prop where
 os : W'.os = W.os
 tape : W'.tape = W.tape
 output : W'.output = W.output
 size : W.heap.size <= W'.heap.size
 block : ∀ k, k < n -> k ≠ p -> W'.heap[k]? = W.heap[k]?
theorem KB.refl (n p : Nat) (W : World) : KB n p W W := ⟨rfl, rfl, rfl, zR _, fun _ _ _ => rfl⟩
theorem KB.trans {n p : Nat} {A B C : World} (h : KB n p A B) (k : KB n p B C) : KB n p A C := ⟨k.os.trans h.os, k.tape.trans h.tape, k.output.trans h.output, Nat.le_trans h.size k.size, fun i h1 h2 => (k.block i h1 h2).trans (h.block i h1 h2)⟩
theorem KB.of_below {n p : Nat} {A B : World} (h : Below n A B) : KB n p A B := ⟨h.os, h.tape, h.output, h.size, fun k hk _ => h.block k hk⟩
theorem KB.set {n p : Nat} (A : World) (i : Nat) (v : Value) (hn : n <= A.heap.size) : KB n p A (A.setCell ⟨p, i, none⟩ v) := ⟨rfl, rfl, rfl, by simp, fun k hk hne => heap_setCell_other A _ k v fun e => hne e⟩
theorem rf_H {F : Fence} {n : Nat} {P : Program} {α : Type} {g : Operand} {ps : Array Tmp} {assign body : Code} {Q : Exit -> Act -> World -> Prop} {a : Act} {w : World}
  (hro : F.round = none) (h1 : 1 <= n) {gf : Nat} {lb : Array Value} (hg : a.eval g = .func (.func gf) #[] lb) (hFg : F.fn gf) (eg : ∀ args w, (callFunc gf args).run P w = .ok (.enter gf args) w)
  {encs : α -> Array Value} {Kp : World -> World -> Prop} {S Sp : List α -> Prop} {N : Nat} {w0 : World} (hseq : SeqStopsK F (n - 1) P gf lb encs Kp S Sp N w0)
  (hKt : ∀ {A B C : World}, Kp A B -> Kp B C -> Kp A C) (hKb : ∀ (W : World) (l : Nat) (o o' : Obj), w.heap.size <= l -> W.heap[l]? = some o -> o.isCells = false -> o.isWalk = false -> Kp W (W.putObj l o')) (hb0 : Below w0.heap.size w0 w) (hps : ∀ x, (encs x).size = ps.size)
  (I : List α -> World -> Prop) (Ix : Code -> List α -> World -> Prop) (hI : OwnFrom w.heap.size I) (hIx : ∀ c, OwnFrom w.heap.size (Ix c)) (h0 : I [] w) (Ax : Act -> α -> Act -> World -> Prop) (hAx : ∀ x a', OwnFrom w.heap.size (fun (_ : Unit) W => Ax a x a' W))
  (hassign : ∀ (l : Nat) (pre : List α) (x : α) (W : World) (K : Act -> World -> Prop), I pre W -> (∀ a' W', KeepsFrom w.heap.size W W' -> Kp W W' -> I pre W' -> Ax a x a' W' -> K a' W') ->
   assign.wpIn (F.inRound l) (n - 1 - 1) P (Exit.then K (fun _ _ _ => False)) { tmps := (ps.zip (encs x)).foldl (fun t (p, v) => t.setIfInBounds p v) a.tmps, defers := [] } W)
  (hbody : ∀ (l : Nat) (pre : List α) (x : α) (a' : Act) (W : World), w.heap.size <= l -> (∃ r, W.heap[l]? = some (.loop r)) -> I pre W -> Ax a x a' W -> pre.length < N -> body.wpIn (F.inRound l) (n - 1 - 1) P (ownPostG w.heap.size Kp I Ix (pre ++ [x]) W) a' W)
  (hdone : ∀ (D : Nat) (xs : List α) (W : World), w.heap.size <= D -> S xs -> I xs W -> W.heap[D]? = some (.deferred (some [])) -> Q .normal { a with defers := { target := .collected D, args := #[] } :: a.defers } W)
  (hstop : ∀ (D : Nat) (c : Code) (pre : List α) (W : World), w.heap.size <= D -> Sp pre -> Ix c pre W -> W.heap[D]? = some (.deferred (some [])) -> c.wpIn F n P Q { a with defers := { target := .collected D, args := #[] } :: a.defers } W) :
  (Code.rangeFunc g ps assign body).wpIn F n P Q a w :=
 wpIn_rangeFunc_ownH hro h1 hg hFg eg hseq hKt hKb hb0 hps I Ix hI hIx h0 (Ax a) hAx hassign hbody hdone hstop
end Go.Proofs.YtmagjdocondmhaaGreat.Rg
namespace Go.Proofs.YtmagjdocondmhaaGreat.Tr
open Go Go.RowKit Go.Shelf Go.Sort Slc St Mp Rg
attribute [local go_sem] Oper.semAt_some
def bw {α : Type} (l : List α) (k : Nat) : List (Int × α) := ((l.mapIdx fun i x => ((i : Int), x)).reverse).take k
theorem bw_succ {α : Type} (l : List α) (k m : Nat) (h : m + 1 + k = l.length) : bw l (k + 1) = bw l k ++ [((m : Int), l[m]'(by omega))] := by
 unfold bw;rw [zA (by simp; omega)];congr 2
 rw [List.getElem_reverse];simp only [List.length_mapIdx, List.getElem_mapIdx]
 have : l.length - 1 - k = m := by omega
 simp only [this]
def nodS (x : Nt) : Value := .agg #[.int .i64 x.n.d, .int .i64 x.n.p, .string (bstr x.n.pol), .slice x.u.ad x.u.n x.u.c]
theorem backN2_in (F : Fence) (n : Nat) (hF : F.fn 135) (hro : F.round = none) (hn : 1 <= n) (l Bs b off cap : Nat) (zs : List Nt) (hlen : zs.length <= 1000000) (Kp : World -> World -> Prop) (hrefl : ∀ W, Kp W W) (htr : ∀ {A B C : World}, Kp A B -> Kp B C -> Kp A C) (J Jx : List (Int × Nt) -> World -> Prop)
  (hY : ∀ pre x W, J pre W -> pre.length < zs.length -> (∃ (m : Nat) (hm : m < zs.length), x = ((m : Int), zs[m])) -> YieldAt F (n - 1) Tryz.prog l #[.int .i64 x.1, nodS x.2] W fun e W' =>
   (e = .returned (.bool true) /\ J (pre ++ [x]) W' /\ Kp W W') \/ (e = .returned (.bool false) /\ Jx (pre ++ [x]) W'))
  (W : World) (hBs : ∀ W', Kp W W' -> W'.cell? ⟨Bs, 0, none⟩ = some (.slice (some ⟨b, off, none⟩) zs.length cap)) (hc : ∀ W', Kp W W' -> ∀ j (h : j < zs.length), W'.cell? ⟨b, off + j * 4, none⟩ = some (.int .i64 (zs[j]).n.d) /\ W'.cell? ⟨b, off + j * 4 + 1, none⟩ = some (.int .i64 (zs[j]).n.p) /\ W'.cell? ⟨b, off + j * 4 + 2, none⟩ = some (.string (bstr (zs[j]).n.pol)) /\ W'.cell? ⟨b, off + j * 4 + 3, none⟩ = some (.slice (zs[j]).u.ad (zs[j]).u.n (zs[j]).u.c)) (h0 : J [] W) :
  CallsIn F n Tryz.prog 135 #[.func (.yield l) #[] #[], .pointer (some ⟨Bs, 0, none⟩)] W fun e W' => (∃ v, e = .returned v) /\
   ((∃ ys, ys = bw zs zs.length /\ J ys W') \/ (∃ pre, (∃ k, k <= zs.length /\ pre = bw zs k) /\ Jx pre W')) := by
 have HC := Lib.hid hc;have HBSK := Lib.hid hBs;clear hc hBs;have hBs := HBSK.out W (hrefl W);refine callsIn_of_wp Tryz.func135 rfl hF ?_ hro;simp only [Tryz.ntmps135, List.size_toArray, List.length_cons, List.length_nil, Nat.reduceAdd, Nat.reduceSub, Array.replicate_succ, Array.replicate_zero, List.push_toArray, List.append_toArray, List.nil_append, List.cons_append]
 gi_wp2
 gi_loopw [3] (fun i wr => ∃ m k : Nat, m + k = zs.length /\ i = .int .i64 ((m : Int) - 1) /\ J (bw zs k) wr /\ Kp W wr)
  (fun i _ => (intOf i + 1).toNat)
 case atStart => exact ⟨zs.length, 0, by omega, rfl, h0, hrefl _⟩
 case round =>
  obtain ⟨m, k, hmk, rfl, hJs, hnx⟩ := hrel;have HNX := Lib.hid hnx;have HMK := Lib.hid hmk;have hbs := HBSK.out wr hnx
  cases m with
  | zero =>
   obtain rfl : k = zs.length := by omega
   have e0 : (((0 : Nat) : Int) - 1) = -1 := rfl;rw [e0];clear hmk hnx e0 hBs
   gi_wp2
   go_end0
   exact ⟨⟨_, rfl⟩, .inl ⟨_, rfl, hJs⟩⟩
  | succ m =>
   have e0 : (((m + 1 : Nat) : Int) - 1) = (m : Int) := by omega
   rw [e0];have hml : m < zs.length := by omega
   have hsucc := bw_succ zs k m (by omega);obtain ⟨x, hx⟩ : ∃ x, x = zs[m] := ⟨_, rfl⟩
   obtain ⟨c0, c1, c2, c3⟩ := HC.out wr hnx m hml;rw [<- hx] at hsucc c0 c1 c2 c3;obtain ⟨fn, tmps, assign, body, hy, hR⟩ := hY _ ((m : Int), x) wr hJs (by unfold bw; rw [List.length_take, List.length_reverse, List.length_mapIdx]; omega) ⟨m, hml, by rw [hx]⟩;have HS := Lib.hid hsucc
   dsimp only [nodS] at hy
   rw [<- hsucc] at hR;clear hmk hnx hsucc hx e0 hBs
   gi_wp2
   refine hR.mono ?_;rintro e W3 (⟨rfl, hJ3, hk3⟩ | ⟨rfl, hJx3⟩)
   ·gi_wp2
    go_roundw
    case rel => exact ⟨m, k + 1, by have := HMK.out; omega, by first | rfl | go_num, hJ3, htr HNX.out hk3⟩
    case measure => simp [intOf]
   ·gi_wp2
    refine bodyPost_ret (results_none rfl _ _ _) rfl ?_;exact ⟨⟨_, rfl⟩, .inr ⟨_, ⟨k + 1, by have := HMK.out; omega, rfl⟩, hJx3⟩⟩
theorem backN1_nil_in (F : Fence) (n : Nat) (hF : F.fn 135) (hro : F.round = none) (l Bs : Nat) (c : Nat) (a : Option Addr) (J : List (Int × Nt) -> World -> Prop) (W : World) (hBs : W.cell? ⟨Bs, 0, none⟩ = some (.slice a 0 c)) (h0 : J [] W) :
  CallsIn F n Tryz.prog 135 #[.func (.yield l) #[] #[], .pointer (some ⟨Bs, 0, none⟩)] W fun e W' => (∃ v, e = .returned v) /\ J [] W' := by
 refine callsIn_of_wp Tryz.func135 rfl hF ?_ hro;simp only [Tryz.ntmps135, List.size_toArray, List.length_cons, List.length_nil, Nat.reduceAdd, Nat.reduceSub, Array.replicate_succ, Array.replicate_zero, List.push_toArray, List.append_toArray, List.nil_append, List.cons_append]
 gi_wp2
 gi_loopw [3] (fun i wr => i = .int .i64 (-1) /\ J [] wr) (fun _ _ => 0)
 case atStart => exact ⟨rfl, h0⟩
 case round =>
  obtain ⟨rfl, hJs⟩ := hrel
  gi_wp2
  go_end0
  exact ⟨⟨_, rfl⟩, hJs⟩
theorem backN_in (F : Fence) (n : Nat) (hF : F.fn 118) (hro : F.round = none) (a : Option Addr) (len cap : Nat) (w : World) :
  CallsIn F n Tryz.prog 118 #[.slice a len cap] w fun e w' => e = .returned (.func (.func 135) #[] #[.pointer (some ⟨w.heap.size, 0, none⟩)]) /\ w' = w.alloc (.cells #[.slice a len cap] 54) := by
 refine callsIn_of_wp Tryz.func118 rfl hF ?_ hro;simp only [Tryz.ntmps118, List.size_toArray, List.length_cons, List.length_nil, Nat.reduceAdd, Nat.reduceSub, Array.replicate_succ, Array.replicate_zero, List.push_toArray, List.append_toArray, List.nil_append, List.cons_append]
 gi_wp2
 go_ret;exact ⟨rfl, rfl⟩
abbrev NtB (N : Nat) := { x : Int × Nt // 0 <= x.1 /\ x.1 < N /\ -1 <= x.2.n.p /\ x.2.n.p < x.1 }
theorem tl_cells {w : World} {ad : Option Addr} {n c : Nat} {l : List Nt} (h : Rd w encN (.slice ad n c) l) : n = l.length /\ ∀ (W : World), (∀ k, k < w.heap.size -> W.heap[k]? = w.heap[k]?) -> ∀ k (hk : k < l.length), ∃ b o, ad = some ⟨b, o, none⟩ /\ b < w.heap.size /\ W.cell? ⟨b, o + k * 4, none⟩ = some (.int .i64 (l[k]).n.d) /\ W.cell? ⟨b, o + k * 4 + 1, none⟩ = some (.int .i64 (l[k]).n.p) /\ W.cell? ⟨b, o + k * 4 + 2, none⟩ = some (.string (bstr (l[k]).n.pol)) /\ W.cell? ⟨b, o + k * 4 + 3, none⟩ = some (l[k]).u.val := by
 obtain ⟨ad', c', hv, -⟩ := h.form;simp only [Value.slice.injEq] at hv
 refine ⟨hv.2.1, fun W hW k hk => ?_⟩;obtain ⟨b, o, c, hv', _, hlt, hc⟩ := h.cells encN_ok (by omega);simp only [Value.slice.injEq] at hv'
 have q := hc W (fun k' hk' => by
  have e : k' = b := by rw [hv'.1] at hk'; simp only [Value.ownBlock, zO] at hk'; exact hk'.symm
  exact hW k' (e ▸ hlt)) k hk
 exact ⟨b, o, hv'.1, hlt, q 0 _ (by omega) rfl, q 1 _ (by omega) rfl, q 2 _ (by omega) rfl, q 3 _ (by omega) rfl⟩
theorem backN_stops (F : Fence) (n : Nat) (hF : F.fn 135) (hro : F.round = none) (hn : 1 <= n) (Bs n₀ p : Nat) (ad : Option Addr) (cap : Nat) (zs : List Nt) (hlen : zs.length <= 1000000) (hs : ∀ (i : Nat) (h : i < zs.length), -1 <= (zs[i]).n.p /\ (zs[i]).n.p < i) (w : World) (hn₀ : n₀ <= w.heap.size) (hBs0 : Bs < n₀) (hBp : Bs ≠ p)
  (hc : w.cell? ⟨Bs, 0, none⟩ = some (.slice ad zs.length cap)) (hI : ∃ w0, Rd w0 encN (.slice ad zs.length cap) zs /\ w0.heap.size <= n₀ /\ w0.heap.size <= p /\ Below w0.heap.size w0 w) :
  SeqStopsK F n Tryz.prog 135 #[.pointer (some ⟨Bs, 0, none⟩)] (fun x : NtB zs.length => #[Value.int .i64 x.1.1, nodS x.1.2]) (KB n₀ p) (fun ys => ys.map (·.1) = bw zs zs.length)
   (fun pre => ∃ k, k <= zs.length /\ pre.map (·.1) = bw zs k) zs.length w := fun l J Jx W hWb _ _ hY h0 => by
 have hW : KB n₀ p w W := KB.of_below (hWb.mono hn₀)
 have hcell : ∀ W', KB n₀ p w W' -> W'.cell? ⟨Bs, 0, none⟩ = some (.slice ad zs.length cap) := fun W' h => by
  unfold World.cell? at hc |-; rw [h.block Bs hBs0 hBp]; exact hc
 obtain ⟨w0, hrd, hw0, hwp, hbw⟩ := hI;rcases Nat.eq_zero_or_pos zs.length with hz | hp
 ·obtain rfl : zs = [] := List.eq_nil_of_length_eq_zero hz;exact (backN1_nil_in F n hF hro l Bs cap ad (fun pre W => J [] W) W (hcell W hW) h0).mono fun e W' ⟨he, hj⟩ => ⟨he, .inl ⟨[], rfl, hj⟩⟩
 ·obtain ⟨b, o, c, hv, _, hlt, -⟩ := hrd.cells encN_ok hp;simp only [Value.slice.injEq, true_and] at hv
  obtain ⟨rfl, rfl⟩ := hv
  have main := backN2_in F n hF hro hn l Bs b o cap zs hlen (KB n₀ p) (KB.refl _ _) (fun h k => h.trans k) (fun pre W => ∃ pre' : List (NtB zs.length), pre'.map (·.1) = pre /\ J pre' W) (fun pre W => ∃ pre' : List (NtB zs.length), pre'.map (·.1) = pre /\ Jx pre' W) (fun pre x W hJ hlt hmem => by
   obtain ⟨m, hm, rfl⟩ := hmem;obtain ⟨pre', rfl, hJ⟩ := hJ;obtain ⟨fn, tmps, assign, body, hy, hR⟩ := hY pre' ⟨((m : Int), zs[m]), by show (0 : Int) <= (m : Int); omega, by show (m : Int) < _; omega, (hs m hm).1, (hs m hm).2⟩ W hJ (by simpa using hlt);refine ⟨fn, tmps, assign, body, hy, hR.mono ?_⟩;rintro e W3 (⟨he, h1, h2⟩ | ⟨he, h1⟩)
   ·exact .inl ⟨he, ⟨_, by simp, h1⟩, h2⟩
   ·exact .inr ⟨he, ⟨_, by simp, h1⟩⟩) W (fun W' h => hcell W' (hW.trans h)) (fun W' h j hj => by
    have hk := hW.trans h;obtain ⟨b', o', hb', -, q0, q1, q2, q3⟩ := (tl_cells hrd).2 W' (fun k hk1 => (hk.block k (by omega) (by omega)).trans (hbw.block k hk1)) j hj;simp only [zO, Addr.mk.injEq] at hb'
    obtain ⟨rfl, rfl, -⟩ := hb'
    exact ⟨q0, q1, q2, q3⟩) ⟨[], rfl, h0⟩
  refine main.mono ?_;rintro e W' ⟨he, h | h⟩
  ·obtain ⟨ys, hys, ys', rfl, hj⟩ := h;exact ⟨he, .inl ⟨ys', hys, hj⟩⟩
  ·obtain ⟨pre, ⟨k, hk, hpk⟩, pre', rfl, hj⟩ := h;exact ⟨he, .inr ⟨pre', ⟨k, hk, hpk⟩, hj⟩⟩
end Go.Proofs.YtmagjdocondmhaaGreat.Tr
namespace Go.Proofs.YtmagjdocondmhaaGreat.Tr
open Go Go.RowKit Slc St Mp
theorem cloneS_any (w : World) (v : Value) (cs : List B) (h : Rd w encS v cs) (hl : cs.length <= 1000000) :
  Calls Tryz.prog 100 #[v] w fun e w' => ∃ u, e = .returned u /\ Slc.Own w' w.heap.size 9 1 encS u cs /\ Below w.heap.size w w' := by
 obtain ⟨i0, hi, hz0, hz1, hz2⟩ := info_parts info_str;have hsrc := h.src encS_ok;rcases h with ⟨rfl, rfl⟩ | ⟨b, o, c, rfl, hlt, hc, hcell⟩
 ·have hq := fun W : World => Lib.run_eql_slice_nil (P := Tryz.prog) W 34 _ none 0 0 0 0 und_strs
  go_enter Tryz.func100, Tryz.ntmps100;go_wp2
  go_ret;exact ⟨_, rfl, Slc.Own.nil _ _, Below.refl _ _⟩
 ·clear hcell;have hs1 := hsrc.below ((Below.refl w.heap.size w).alloc (zR _) (.cells #[] 9));have HS := Bx.mk hs1;have hn := heap_alloc_new w (.cells #[] 9);have HN := Bx.mk hn;have hq := fun W : World => Lib.run_eql_slice_nil (P := Tryz.prog) W 34 _ (some ⟨b, o, none⟩) cs.length c 0 0 und_strs
  clear hs1 hsrc hn;go_enter Tryz.func100, Tryz.ntmps100;have hs2 := HS.out;have hn2 := HN.out;go_wp2_with (at_builtin; refine wpList_append_fresh rfl _ _ _ rfl w.heap.size 9 i0 _ 1 16 und_strs hi hz0 hz1 hz2 rfl (by decide) w.heap.size rfl hn2 (zR _) (by simp) _ cs.length (cs.flatMap encS) rfl hs2 ?ap1 ?ap2 ?_)
  case ap1 => unfold maxLen; omega
  case ap2 => omega
  intro v' w4 hown hb _;have HO := Bx.mk (show Slc.Own w4 w.heap.size 9 1 encS v' cs from hown);have HB := Bx.mk (((Below.refl w.heap.size w).alloc (zR _) (.cells #[] 9)).trans (hb.mono (by simp)));clear hown hb hs2 hn2 hq;go_wp2
  go_ret;exact ⟨_, rfl, HO.out, HB.out⟩
theorem cloneN_any (w : World) (v : Value) (l : List Nt) (h : TL w v l) (hl : l.length <= 1000000) :
  Calls Tryz.prog 88 #[v] w fun e w' => ∃ u, e = .returned u /\ TO w' w.heap.size u l /\ Below w.heap.size w w' := by
 obtain ⟨i0, hi, hz0, hz1, hz2⟩ := info_parts info_node;have hsrc := h.rd.src encN_ok;have HAT := Bx.mk h.at_;obtain ⟨hrd, -⟩ := h;rcases hrd with ⟨rfl, rfl⟩ | ⟨b, o, c, rfl, hlt, hc, hcell⟩
 ·have hq := fun W : World => Lib.run_eql_slice_nil (P := Tryz.prog) W 54 _ none 0 0 0 0 und_nodes
  go_enter Tryz.func88, Tryz.ntmps88;go_wp2
  go_ret;exact ⟨_, rfl, TO.nil _ _, Below.refl _ _⟩
 ·clear hcell;have hs1 := hsrc.below ((Below.refl w.heap.size w).alloc (zR _) (.cells #[] 111));have HS := Bx.mk hs1;have hn := heap_alloc_new w (.cells #[] 111);have HN := Bx.mk hn;have hq := fun W : World => Lib.run_eql_slice_nil (P := Tryz.prog) W 54 _ (some ⟨b, o, none⟩) l.length c 0 0 und_nodes
  clear hs1 hsrc hn;go_enter Tryz.func88, Tryz.ntmps88;have hs2 := HS.out;have hn2 := HN.out;go_wp2_with (at_builtin; refine wpList_append_fresh rfl _ _ _ rfl w.heap.size 111 i0 _ 4 56 und_nodes hi hz0 hz1 hz2 rfl (by decide) w.heap.size rfl hn2 (zR _) (by simp) _ l.length (l.flatMap encN) rfl hs2 ?ap1 ?ap2 ?_)
  case ap1 => unfold maxLen; omega
  case ap2 => omega
  intro v' w4 hown hb _;have HO := Bx.mk (show Slc.Own w4 w.heap.size 111 4 encN v' l from hown);have HB := Bx.mk (((Below.refl w.heap.size w).alloc (zR _) (.cells #[] 111)).trans (hb.mono (by simp)));clear hown hb hs2 hn2 hq;go_wp2
  go_ret;exact ⟨_, rfl, ⟨HO.out, fun x hx => ((NtIn.of (HAT.out x hx)).below HB.out).mono fun k _ hk e => by have := (HO.out.lt k e).1; omega⟩, HB.out⟩
def encM (b : Bool) : List Value := [.bool b]
theorem encM_ok : Enc 1 encM := ⟨fun c => rfl, fun c u hu => by
 simp only [encM, zS] at hu
 subst hu; rfl, by omega⟩
theorem marks_cells {w : World} {ad : Option Addr} {n c : Nat} {l : List Bool} (h : Rd w encM (.slice ad n c) l) : n = l.length /\ ∀ (W : World), Below w.heap.size w W -> ∀ k (hk : k < l.length), ∃ b o, ad = some ⟨b, o, none⟩ /\ b < w.heap.size /\ W.cell? ⟨b, o + k, none⟩ = some (.bool l[k]!) := by
 obtain ⟨ad', c', hv, -⟩ := h.form;simp only [Value.slice.injEq] at hv
 refine ⟨hv.2.1, fun W hW k hk => ?_⟩;obtain ⟨b, o, c, hv', _, hlt, hc⟩ := h.cells encM_ok (by omega);simp only [Value.slice.injEq] at hv'
 have q := hc W (fun k' hk' => hW.block k' (h.lt k' hk')) k hk 0 _ (by omega) rfl;rw [Nat.mul_one, Nat.add_zero] at q;exact ⟨b, o, hv'.1, hlt, by rw [getElem!_pos l k hk]; exact q⟩
end Go.Proofs.YtmagjdocondmhaaGreat.Tr
namespace Go.Proofs.YtmagjdocondmhaaGreat.Tr
open Go Go.RowKit Slc St Mp
attribute [local go_sem] Oper.semAt_some
theorem u_mapII : Tryz.prog.underlying 142 = some (.map 3 3) := Tryz.underlying142
def plK (m : List Bool) (k : Nat) : Int -> Option Int := fun j => if j = -1 then some (-1) else if 0 <= j /\ j < k /\ m[j.toNat]! = true then some (rk m j.toNat : Nat) else none
theorem plK_zero (m : List Bool) : plK m 0 = fun j => if j = -1 then some (-1) else none := by
 funext j; unfold plK
 by_cases h : j = -1
 ·rw [if_pos h, if_pos h]
 ·rw [if_neg h, if_neg h, if_neg (by omega)]
theorem plK_mark (m : List Bool) (k : Nat) (h : m[k]! = true) : plK m (k + 1) = fun (j : Int) => if j = (k : Nat) then some ((rk m k : Nat) : Int) else plK m k j := by
 funext j; unfold plK
 by_cases e : j = (k : Nat)
 ·subst e;rw [if_neg (by omega), if_pos rfl, if_pos ⟨by omega, by omega, by simpa using h⟩]; rfl
 ·rw [if_neg e];by_cases e1 : j = -1
  ·rw [if_pos e1, if_pos e1]
  ·rw [if_neg e1, if_neg e1];by_cases e2 : 0 <= j /\ j < k /\ m[j.toNat]! = true
   ·rw [if_pos e2, if_pos ⟨e2.1, by omega, e2.2.2⟩]
   ·rw [if_neg e2, if_neg];rintro ⟨a, b, c⟩;exact e2 ⟨a, by omega, c⟩
theorem plK_skip (m : List Bool) (k : Nat) (h : m[k]! = false) : plK m (k + 1) = plK m k := by
 funext j; unfold plK
 by_cases e1 : j = -1
 ·rw [if_pos e1, if_pos e1]
 ·rw [if_neg e1, if_neg e1];by_cases e2 : 0 <= j /\ j < k /\ m[j.toNat]! = true
  ·rw [if_pos e2, if_pos ⟨e2.1, by omega, e2.2.2⟩]
  ·rw [if_neg e2, if_neg];rintro ⟨a, b, c⟩;refine e2 ⟨a, ?_, c⟩;by_cases e : j = (k : Nat)
   ·subst e;have : m[((k : Nat) : Int).toNat]! = m[k]! := rfl;rw [this, h] at c; cases c
   ·omega
theorem plK_get (m : List Bool) (k : Nat) (n : Nd) (h1 : -1 <= n.p) (h2 : n.p < k) : (plK m (k + 1) n.p).getD 0 = (kpN m n).p := by
 unfold plK kpN;simp only
 by_cases e : n.p = -1
 ·rw [if_pos e, if_pos (show n.p < 0 by omega), e]; rfl
 ·rw [if_neg e, if_neg (show ¬ n.p < 0 by omega)]
  cases h : m[n.p.toNat]! with
  | true => rw [if_pos ⟨by omega, by omega, rfl⟩]; rfl
  | false => rw [if_neg (by simp)]; rfl
structure KO (w : World) (p : Nat) (v : Value) (l : List Nt) : Prop where
 own : Slc.Own w (p + 1) 111 4 encN v l
 nm : ∀ x ∈ l, NtIn w (fun k => v.ownBlock ≠ some k /\ k ≠ p) x
theorem KO.nil (w : World) (p : Nat) : KO w p (.slice none 0 0) [] := ⟨Slc.Own.nil _ _, fun x hx => by cases hx⟩
theorem KO.keep {w w' : World} {p : Nat} {v : Value} {l : List Nt} (h : KO w p v l) (hs : w.heap.size <= w'.heap.size) (hb : ∀ k, k < w.heap.size -> k ≠ p -> w'.heap[k]? = w.heap[k]?) : KO w' p v l :=
 ⟨h.own.keep fun k hk hlt => hb k hlt (by have := (h.own.lt k hk).1; omega), fun x hx => (h.nm x hx).keep hs fun k hS hlt => hb k hlt hS.2⟩
theorem KO.apd {wr w' : World} {p a b : Nat} {v v' : Value} {l m : List Nt} {xs news : List Value} (h : KO wr p v l) (hp : p < wr.heap.size) (hm : ∀ x ∈ m, NtIn wr (fun k => v.ownBlock ≠ some k /\ k ≠ p) x) (hx : xs = l.flatMap encN) (hy : news = m.flatMap encN) (ha : a = l.length) (hb : b = m.length) (h' : Apd wr (p + 1) 111 4 v a b xs news v' w') : KO w' p v' (l ++ m) := by
 have key : ∀ x, NtIn wr (fun k => v.ownBlock ≠ some k /\ k ≠ p) x -> NtIn w' (fun k => v'.ownBlock ≠ some k /\ k ≠ p) x := by
  intro x hx;refine NtIn.mono (S := fun k => (v.ownBlock ≠ some k /\ k ≠ p) /\ k < wr.heap.size) ((hx.mono fun k hk h1 => ⟨h1, hk⟩).keep h'.grown.size fun k hk hlt => h'.grown.block k hlt fun e => hk.1.1 e.symm) ?_;intro k _ hk;refine ⟨fun e => ?_, hk.1.2⟩;rcases h'.blk with q | q
  ·exact hk.1.1 (by rw [<- q]; exact e)
  ·rw [q] at e; simp only [zO] at e; omega
 refine ⟨h.own.apd hx hy ha hb h', fun x hx => ?_⟩;rcases List.mem_append.1 hx with q | q
 ·exact key x (h.nm x q)
 ·exact key x (hm x q)
theorem KO.to {w : World} {p : Nat} {v : Value} {l : List Nt} (h : KO w p v l) : TO w p v l := ⟨h.own.mono (by omega), fun x hx => (h.nm x hx).mono fun k _ hk => hk.1⟩
theorem KO.step {w w' : World} {p : Nat} {o : Obj} {v v' : Value} {l : List Nt} {y : Nt} (h : KO w p v l) (hp : p < w.heap.size) (hy : NtIn w (fun k => v.ownBlock ≠ some k /\ k ≠ p) y) (h' : Apd (w.alloc o) (p + 1) 111 4 v l.length 1 (l.flatMap encN) ([y].flatMap encN) v' w') :
  KO w' p v' (l ++ [y]) /\ Below p w w' /\ w'.heap[p]? = w.heap[p]? := by
 have hA : Below w.heap.size w (w.alloc o) := (Below.refl _ _).alloc (zR _) _;refine ⟨(h.keep hA.size fun k hk _ => hA.block k hk).apd (by simp; omega) (fun x hx => by rw [zS] at hx; subst hx; exact hy.below hA) rfl rfl rfl rfl h', (hA.mono (by omega)).grown h'.grown (by simp; omega) fun k hk => by have := (h.own.lt k hk).1; omega, ?_⟩;exact (h'.grown.block p (by simp; omega) fun e => by have := (h.own.lt p e.symm).1; omega).trans (hA.block p hp)
theorem src_node (w : World) (x : Nt) : SrcV (w.alloc (.cells #[.int .i64 x.n.d, .int .i64 x.n.p, .string (bstr x.n.pol), x.u.val] 111)) 4 (.slice (some ⟨w.heap.size, 0, none⟩) 1 1) 1 ([x].flatMap encN) := by
 refine .ro _ _ _ _ (by simp [encN]) (fun j u hj => ?_) (fun u hu => ?_)
 ·rw [add_at];have e : ([x].flatMap encN) = [.int .i64 x.n.d, .int .i64 x.n.p, .string (bstr x.n.pol), x.u.val] := by simp [encN]
  rw [e] at hj;unfold World.cell?;rw [heap_alloc_new];simp only [Nat.zero_add]
  simpa using hj
 ·rw [List.mem_flatMap] at hu;obtain ⟨y, -, hy⟩ := hu;exact encN_ok.one y u hy
def KeF (W : World) (p bn : Nat) (Pp Pv : Int) (xs : Sl) (ex : List B) : Nat -> Value -> World -> Prop
 | 0, v, _ => v = .map (some p)
 | 1, v, _ => v = .pointer (some ⟨bn, 1, none⟩)
 | 2, v, _ => v = .int .i64 Pp
 | 3, v, _ => v = .int .i64 Pv
 | 4, v, _ => v = .pointer (some ⟨bn, 3, none⟩)
 | 5, v, _ => v = .slice xs.ad xs.n xs.c
 | 6, v, w => Slc.Own w W.heap.size 9 1 encS v ex
 | 7, v, _ => v = .pointer (some ⟨bn, 1, none⟩)
 | 9, v, _ => v = .pointer (some ⟨bn, 3, none⟩)
 | _, _, _ => True
theorem KeF.stable (W : World) (p bn : Nat) (Pp Pv : Int) (xs : Sl) (ex : List B) (i : Nat) (v : Value) (w w' : World) (h : KeF W p bn Pp Pv xs ex i v w) (hb : Below w.heap.size w w') : KeF W p bn Pp Pv xs ex i v w' := by
 match i with
 | 0 | 1 | 2 | 3 | 4 | 5 | 7 | 9 => exact h
 | 6 => exact Slc.Own.below (t := 9) h hb
 | 8 => exact trivial
 | _ + 10 => exact trivial
theorem KeF.stable' (W : World) (p bn : Nat) (Pp Pv : Int) (xs : Sl) (ex : List B) (hbn : bn < W.heap.size) (i : Nat) (v : Value) (w : World) (j : Nat) (y : Value) (h : KeF W p bn Pp Pv xs ex i v w) : KeF W p bn Pp Pv xs ex i v (w.setCell ⟨bn, j, none⟩ y) := by
 match i with
 | 0 | 1 | 2 | 3 | 4 | 5 | 7 | 9 => exact h
 | 6 => exact Slc.Own.keep (t := 9) h fun k hk _ => heap_setCell_other _ _ _ _ (by have := (Slc.Own.lt (t := 9) h k hk).1; show k ≠ bn; omega)
 | 8 => exact trivial
 | _ + 10 => exact trivial
structure KeC (W : World) (bn : Nat) (dd Pp Pv : Int) (pol : B) (xv : Value) (ex : List B) (d : Nat -> Bool) (w' : World) : Prop where
 gr : W.grownBy w' (some bn)
 row : ∃ P E, w'.heap[bn]? = some (.cells #[.int .i64 dd, .int .i64 P, .string (bstr pol), E] 111 (0, 0)) /\ (d 8 = false -> P = Pp) /\ (d 8 = true -> P = Pv) /\ (d 10 = false -> E = xv) /\ (d 10 = true -> Slc.Own w' W.heap.size 9 1 encS E ex)
def KeG (W : World) (bn : Nat) (Pv : Int) (ex : List B) (i : Nat) (w1 w2 : World) : Prop :=
 if i = 8 then w2 = w1.setCell ⟨bn, 1, none⟩ (.int .i64 Pv) else ∃ u, Slc.Own w1 W.heap.size 9 1 encS u ex /\ w2 = w1.setCell ⟨bn, 3, none⟩ u
theorem grown_set' {W w : World} {bn : Nat} (h : W.grownBy w (some bn)) (j : Nat) (y : Value) : W.grownBy (w.setCell ⟨bn, j, none⟩ y) (some bn) :=
 ⟨h.os, h.tape, h.output, by simpa using h.size, fun k hk hne => by
  have hkb : k ≠ bn := fun e => hne (by rw [e])
  rw [heap_setCell_other _ _ _ _ (show k ≠ bn from hkb)]; exact h.block k hk hne⟩
theorem grown_bel {W w w' : World} {r : Option Nat} (h : W.grownBy w r) (hb : Below w.heap.size w w') : W.grownBy w' r :=
 ⟨hb.os.trans h.os, hb.tape.trans h.tape, hb.output.trans h.output, Nat.le_trans h.size hb.size, fun k hk hne => (hb.block k (Nat.lt_of_lt_of_le hk h.size)).trans (h.block k hk hne)⟩
theorem KeC.bel {W : World} {bn : Nat} {dd Pp Pv : Int} {pol : B} {xv : Value} {ex : List B} {d : Nat -> Bool} {w w' : World} {i : Nat} (h : KeC W bn dd Pp Pv pol xv ex d w) (hi : (i == 8 || i == 10) = false) (hb : Below w.heap.size w w') : KeC W bn dd Pp Pv pol xv ex (mark d i) w' := by
 simp only [Bool.or_eq_false_iff, beq_eq_false_iff_ne, ne_eq] at hi
 obtain ⟨P, E, h1, h2, h3, h4, h5⟩ := h.row;have e8 : mark d i 8 = d 8 := by unfold mark; rw [if_neg fun e => hi.1 e.symm]
 have e10 : mark d i 10 = d 10 := by unfold mark; rw [if_neg fun e => hi.2 e.symm]
 refine ⟨grown_bel h.gr hb, P, E, (hb.block bn (lt_of_some h1)).trans h1, ?_, ?_, ?_, ?_⟩
 ·rw [e8]; exact h2
 ·rw [e8]; exact h3
 ·rw [e10]; exact h4
 ·rw [e10]; exact fun e => (h5 e).below hb
theorem KeC.big {W : World} {bn : Nat} {dd Pp Pv : Int} {pol : B} {xv : Value} {ex : List B} {d : Nat -> Bool} {w w' : World} {i : Nat} (hbn : bn < W.heap.size) (h : KeC W bn dd Pp Pv pol xv ex d w) (hi : (i == 8 || i == 10) = true) (hg : KeG W bn Pv ex i w w') : KeC W bn dd Pp Pv pol xv ex (mark d i) w' := by
 obtain ⟨P, E, h1, h2, h3, h4, h5⟩ := h.row;have own_set : ∀ {u : Value} (j : Nat) (y : Value), Slc.Own w W.heap.size 9 1 encS u ex -> Slc.Own (w.setCell ⟨bn, j, none⟩ y) W.heap.size 9 1 encS u ex := fun {u} j y hu => hu.keep fun k hk _ => heap_setCell_other _ _ _ _ (by have := (hu.lt k hk).1; show k ≠ bn; omega)
 unfold KeG at hg;rcases (show i = 8 \/ i = 10 by simpa using hi) with rfl | rfl
 ·rw [if_pos rfl] at hg;subst hg;have r := Go.Proofs.YtmagjdocondmhaaGreat.Rg.row_set h1 (i := 1) (.int .i64 Pv);simp only [List.setIfInBounds_toArray, List.set_cons_succ, List.set_cons_zero] at r
  exact ⟨grown_set' h.gr _ _, Pv, E, r, fun e => by simp [mark] at e, fun _ => rfl, fun e => h4 (by simpa [mark] using e), fun e => own_set _ _ (h5 (by simpa [mark] using e))⟩
 ·rw [if_neg (by omega)] at hg;obtain ⟨u, hu, rfl⟩ := hg;have r := Go.Proofs.YtmagjdocondmhaaGreat.Rg.row_set h1 (i := 3) u;simp only [List.setIfInBounds_toArray, List.set_cons_succ, List.set_cons_zero] at r
  exact ⟨grown_set' h.gr _ _, P, u, r, fun e => h2 (by simpa [mark] using e), fun e => h3 (by simpa [mark] using e), fun e => by simp [mark] at e, fun _ => own_set _ _ hu⟩
theorem keep_any (w : World) (v mv : Value) (l : List Nt) (m : List Bool) (h : TL w v l) (hm : Rd w encM mv m) (hml : m.length = l.length) (hn : l.length <= 5000) (hp : ∀ i, i < l.length -> m[i]! = true -> -1 <= (nds l)[i]!.p /\ (nds l)[i]!.p < i) :
  Calls Tryz.prog 87 #[v, mv] w fun e w' => ∃ v' l', e = .returned v' /\ TO w' w.heap.size v' l' /\ nds l' = keepP (nds l) m /\ Below w.heap.size w w' := by
 obtain ⟨i0, hi0, hz0, hz1, hz2⟩ := info_parts info_node;obtain ⟨ad, c, rfl, -⟩ := h.rd.form;obtain ⟨md, mc, rfl, -⟩ := hm.form;have HL := Bx.mk h;have HC := Bx.mk h.cells.2;have HMC := Bx.mk (marks_cells hm).2;have HPA := Bx.mk hp;have HML := Bx.mk hml;obtain ⟨N, hN⟩ : ∃ N, N = l.length := ⟨_, rfl⟩
 have HN := Bx.mk hN;obtain ⟨M, hM⟩ : ∃ M, M = m.length := ⟨_, rfl⟩
 have HMN := Bx.mk (show M = N by omega);rw [<- hN] at hn |-;rw [<- hM] ;clear h hm hp hml hM hN;have hmm := @run_makeMap Tryz.prog;have HM0 := OwnF.made w kI rdI edI;obtain ⟨w0, hrun0, hop0, hgr0⟩ := HM0.putI u_mapII (by unfold maxLen; omega) (k := -1) (by unfold I64; omega) (-1) (.int .i64 (-1)) (rdI_mk _);obtain ⟨p, hpp⟩ : ∃ p, p = w.heap.size := ⟨_, rfl⟩
 have HP := Bx.mk hpp;have HM1 := Bx.mk (show OwnF w0 kI rdI edI p (0 + 1) (plK m 0) by rw [plK_zero, hpp]; exact hop0)
 have HB0 := Bx.mk (show Below p w w0 by
  rw [hpp]
  exact ((Below.refl _ _).alloc (zR _) _).grown hgr0 (by simp) (fun k hk => by simp only [zO] at hk; omega))
 clear HM0 hop0 hgr0;go_enter Tryz.func87, Tryz.ntmps87;go_wp2_with fail
 rw [<- hpp];clear hrun0 hmm hpp;go_loopw [5, 13] (fun ov i wr => ∃ (k : Nat) (l' : List Nt), k <= N /\ i = .int .i64 k /\ l'.length <= k /\ Bx (KO wr p ov l') /\ Bx (nds l' = keepK (nds l) m k) /\ Bx (∃ q, q <= k + 1 /\ OwnF wr kI rdI edI p q (plK m k)) /\ Bx (Below p w wr)) (fun _ i _ => N - (intOf i).toNat)
 case atStart => exact ⟨0, [], by omega, rfl, by simp, ⟨KO.nil _ _⟩, ⟨by simp [keepK]⟩, ⟨_, by omega, HM1.out⟩, HB0⟩
 case round =>
  clear HM1 HB0;obtain ⟨k, l', hk, rfl, hlen, hKO, hF, hMP, hBw⟩ := hrel;have hBw' : Below w.heap.size w wr := HP.out ▸ hBw.out;have hplt : p < wr.heap.size := by obtain ⟨q, _, hq⟩ := hMP.out; exact hq.lt
  have HPL := Bx.mk hplt;clear hplt;obtain ⟨av, cv, rfl, -⟩ := hKO.out.own.rd.form;by_cases hlt : k < N
  ·have hkl : k < l.length := by rw [<- HN.out]; exact hlt
   have hkm : k < m.length := by rw [HML.out]; exact hkl
   obtain ⟨b, o, rfl, hbl, c0, c1, c2, c3⟩ := HC.out wr hBw' k hkl;obtain ⟨bm, om, rfl, hbm, cm⟩ := HMC.out wr hBw' k hkm;have hltM : k < M := by rw [HMN.out]; exact hlt
   have HX := Bx.mk (show (nds l)[k]! = (l[k]).n from nds_at l k hkl);have HXA := Bx.mk (HL.out.at_ l[k] (zM hkl));have hpa := HPA.out k hkl;obtain ⟨x, hx⟩ : ∃ x, x = l[k] := ⟨_, rfl⟩
   rw [<- hx] at c0 c1 c2 c3 HX HXA;obtain ⟨mk, hmk⟩ : ∃ b, b = m[k]! := ⟨_, rfl⟩
   rw [<- hmk] at cm hpa;have HMK := Bx.mk hmk;have HPAK := Bx.mk hpa;simp only [Sl.val] at c3
   clear hx hBw' hbl hbm hmk hpa hkl hkm;obtain ⟨W1, hW1⟩ : ∃ W1, W1 = wr.alloc (.cells #[.int .i64 x.n.d, .int .i64 x.n.p, .string (bstr x.n.pol), .slice x.u.ad x.u.n x.u.c] 111) := ⟨_, rfl⟩
   have hcm : W1.cell? ⟨bm, om + k, none⟩ = some (.bool mk) := by
    rw [hW1]; exact (((Below.refl wr.heap.size wr).alloc (zR _) _).cell (World.block_lt_of_cell? wr _ cm)).trans cm
   have HB1 := Bx.mk (show Below wr.heap.size wr W1 by rw [hW1]; exact (Below.refl _ _).alloc (zR _) _);obtain ⟨bn, hbn⟩ : ∃ bn, bn = wr.heap.size := ⟨_, rfl⟩
   have HBN := Bx.mk hbn;have hq1 : W1.heap[bn]? = some (.cells #[.int .i64 x.n.d, .int .i64 x.n.p, .string (bstr x.n.pol), .slice x.u.ad x.u.n x.u.c] 111 (0, 0)) := by rw [hW1, hbn]; exact heap_alloc_new _ _
   have HQ1 := Bx.mk hq1;have HS1 := Bx.mk (show W1.heap.size = bn + 1 by rw [hW1, hbn]; simp);go_upto_region 6 with fail
   rw [<- hW1, <- hbn];clear hW1 c0 c1 c2 c3 cm hbn hq1
   cases mk with
   | false =>
    go_wp2_with fail
    go_roundw
    case rel =>
     have hb2 : ∀ j, j < wr.heap.size -> j ≠ p -> W1.heap[j]? = wr.heap[j]? := fun j hj _ => HB1.out.block j hj
     refine ⟨k + 1, l', by omega, by go_num, by omega, ⟨hKO.out.keep HB1.out.size hb2⟩, ⟨by rw [keepK_succ, <- HMK.out]; simpa using hF.out⟩, ⟨?_⟩, ⟨hBw.out.trans (HB1.out.mono (by have := HPL.out; omega))⟩⟩;obtain ⟨q, hq, ho⟩ := hMP.out;exact ⟨q, by omega, by rw [plK_skip _ _ HMK.out.symm]; exact ho.below HB1.out⟩
    case measure => simp [intOf]; omega
   | true =>
    obtain ⟨q, hq, hop⟩ := hMP.out;have HQK := Bx.mk hq;have hpr := HPAK.out rfl;rw [HX.out] at hpr
    have hll : l'.length = rk m k := by
     have := congrArg List.length hF.out;rw [nds_len, keepK_length] at this;exact this
    obtain ⟨w3, hrun, hop3, hgr⟩ := (hop.below HB1.out).putI u_mapII (by unfold maxLen; omega) (k := (k : Nat)) (by unfold I64; omega) ((l'.length : Nat) : Int) (.int .i64 (l'.length : Nat)) (rdI_mk _)
    have hop4 : OwnF w3 kI rdI edI p (q + 1) (plK m (k + 1)) := by
     rw [plK_mark _ _ HMK.out.symm, <- hll]; exact hop3
    have hlook := fun (W' : World) (hW' : w3.grownBy W' (some bn)) => ((hop4.kept hW' (by simp only [ne_eq, zO]; have := HBN.out; have := HPL.out; omega)).lookI u_mapII (fun z => Value.int .i64 z) 0 (Tryz.zeroValue3 _) rdI_mk rdI_inv (k := x.n.p) (by unfold I64; omega)).1
    rw [plK_get m k x.n hpr.1 hpr.2] at hlook;have HLOOK := Bx.mk hlook;have HOP := Bx.mk hop4;have HGR := Bx.mk hgr;have hbq : w3.heap[bn]? = some (.cells #[.int .i64 x.n.d, .int .i64 x.n.p, .string (bstr x.n.pol), .slice x.u.ad x.u.n x.u.c] 111 (0, 0)) := (hgr.block bn (by have := HS1.out; omega) (by simp only [ne_eq, zO]; have := HBN.out; have := HPL.out; omega)).trans HQ1.out;have HBQ := Bx.mk hbq;have hsz3 := hgr.size;have hbw3 : Below p w w3 := (hBw.out.trans (HB1.out.mono (by have := HPL.out; omega))).grown hgr (by have := HPL.out; have := HS1.out; have := HBN.out; omega) (fun k hk => by simp only [zO] at hk; omega);have HBW3 := Bx.mk hbw3;have HS3 := Bx.mk (show bn + 1 <= w3.heap.size by have := HS1.out; omega);have HCL := Bx.mk (fun (W' : World) (hW' : w3.grownBy W' (some bn)) => cloneS_any W' _ _ (HXA.out.1.keep (by have := hbw3.size; have := hW'.size; omega) fun k hk hlt => (hW'.block k (by have := hbw3.size; omega) (by simp only [ne_eq, zO]; have := HBN.out; have := HPL.out; have := HP.out; omega)).trans (hbw3.block k (by have := HP.out; omega))) (by have := HXA.out.2.1.1; omega));have HKO3 := Bx.mk (show ∀ j, j < wr.heap.size -> j ≠ p -> w3.heap[j]? = wr.heap[j]? from fun j hj hne => (hgr.block j (by have := HB1.out.size; omega) (by simp only [ne_eq, zO]; omega)).trans (HB1.out.block j hj));have HXU := Bx.mk (show Few x.n.ex /\ x.n.pol.length <= 1000000 from HXA.out.2);clear hop hpr hll hop3 hop4 hlook hgr hbq hq hsz3 hbw3;go_wp2_with fail
    refine wp_region_factsH 11 (fun _ => none) (fun i => i == 8 || i == 10) (fun j z w' => KeF w3 p bn x.n.p (kpN m x.n).p x.u x.n.ex j (z j) w') (KeC w3 bn x.n.d x.n.p (kpN m x.n).p x.n.pol (.slice x.u.ad x.u.n x.u.c) x.n.ex) (KeG w3 bn (kpN m x.n).p x.n.ex) ?_ (by kernel_rfl) (by kernel_rfl) (by rfl) ?_ ?_ ?_ ?_ ?_ ?_ ?_
    ·exact ⟨⟨rfl, rfl, rfl, zR _, fun _ _ _ => rfl⟩, _, _, HBQ.out, fun _ => rfl, (fun e => Bool.noConfusion e), fun _ => rfl, (fun e => Bool.noConfusion e)⟩
    ·intro j oj z y w1 _ _ e _ hh
     show KeF _ _ _ _ _ _ _ j (y j) w1
     rw [<- e]; exact hh
    ·exact fun i z w1 w2 hh hb => KeF.stable _ _ _ _ _ _ _ _ _ _ _ hh hb
    ·exact fun d i w1 w2 hh hb _ hB => hh.bel hb hB
    ·exact fun d i oi w1 w2 _ _ hh hb _ hg => hh.big HS3.out hb hg
    ·intro b ob j z d w1 w2 hb _ _ _ _ _ _ _ _ hh hg;unfold KeG at hg;split at hg
     ·rw [hg]; exact KeF.stable' _ _ _ _ _ _ _ HS3.out _ _ _ _ _ hh
     ·obtain ⟨u, _, rfl⟩ := hg;exact KeF.stable' _ _ _ _ _ _ _ HS3.out _ _ _ _ _ hh
    ·intro i o hi ho d z w7 hcl hdi hrd hCC hd;have hc : i = 0 \/ i = 1 \/ i = 2 \/ i = 3 \/ i = 4 \/ i = 5 \/ i = 6 \/ i = 7 \/ i = 8 \/ i = 9 \/ i = 10 := (by omega);have HG7 := Bx.mk hCC.gr;obtain ⟨P, E, hrow, hP0, hP1, hE0, hE1⟩ := hCC.row;have w28 := fun h8 : d 8 = true => waits_done hcl 11 8 (m := 2) (by rfl) h8
     have w510 := fun h8 : d 10 = true => waits_done hcl 11 10 (m := 5) (by rfl) h8
     have HW := Bx.mk (And.intro w28 w510);have HPE := Bx.mk (And.intro hP0 hE0);have HHR := Bx.mk hrow;have HDI := Bx.mk hdi;clear hcl hrd hCC hP0 hP1 hE0 hE1 w28 w510 hrow;simp only [List.take_succ_cons, List.take_zero, putFrom]
     rcases hc with rfl | rfl | rfl | rfl | rfl | rfl | rfl | rfl | rfl | rfl | rfl
     all_goals
      simp only [List.getElem?_cons_succ, List.getElem?_cons_zero, zO] at ho
      subst ho;simp [NeedsB, Region.binds, KeF] at hd
     all_goals clear hi hdi
     case inr.inr.inl =>
      have e : P = x.n.p := HPE.out.1 (by cases q : d 8 with | false => rfl | true => have := HW.out.1 q; rw [HDI.out] at this; cases this);subst e;have m1 := cell_of_row _ _ 1 _ _ _ HHR.out;simp only [List.getElem?_toArray, List.getElem?_cons_zero, List.getElem?_cons_succ] at m1
      go_wp2_with fail
      exact ⟨rfl, rfl, rfl, Below.refl _ _⟩
     case inr.inr.inr.inl =>
      have hlook := HLOOK.out w7 HG7.out;go_wp2_with fail
      exact ⟨rfl, rfl, rfl, Below.refl _ _⟩
     case inr.inr.inr.inr.inr.inl =>
      have e : E = .slice x.u.ad x.u.n x.u.c := HPE.out.2 (by cases q : d 10 with | false => rfl | true => have := HW.out.2 q; rw [HDI.out] at this; cases this);subst e;have m1 := cell_of_row _ _ 3 _ _ _ HHR.out;simp only [List.getElem?_toArray, List.getElem?_cons_zero, List.getElem?_cons_succ] at m1
      go_wp2_with fail
      exact ⟨rfl, rfl, rfl, Below.refl _ _⟩
     case inr.inr.inr.inr.inr.inr.inl =>
      have hcall := HCL.out w7 HG7.out;simp only [Sl.val] at hcall
      go_wp2_with (go_at_call 100; refine hcall.mono ?_; rintro e w8 ⟨u, rfl, hu, hb8⟩)
      exact ⟨rfl, rfl, by simpa [upd, KeF] using hu.mono HG7.out.size, hb8⟩
     case inr.inr.inr.inr.inr.inr.inr.inr.inl =>
      have m1 := cell_of_row _ _ 1 _ _ _ HHR.out;simp only [List.getElem?_toArray, List.getElem?_cons_zero, List.getElem?_cons_succ] at m1
      have z1 := Go.Proofs.YtmagjdocondmhaaGreat.Rg.frozen_row (i := 1) HHR.out;obtain ⟨h3, h6, h7⟩ := hd;clear h6;go_wp2_with fail
      exact ⟨rfl, rfl, trivial, rfl⟩
     case inr.inr.inr.inr.inr.inr.inr.inr.inr.inr =>
      have m1 := cell_of_row _ _ 3 _ _ _ HHR.out;simp only [List.getElem?_toArray, List.getElem?_cons_zero, List.getElem?_cons_succ] at m1
      have z1 := Go.Proofs.YtmagjdocondmhaaGreat.Rg.frozen_row (i := 3) HHR.out;obtain ⟨h9, h6⟩ := hd;have h6' : Slc.Own w7 w3.heap.size 9 1 encS (z 6) x.n.ex := (by first | exact h6 | exact h6.1);obtain ⟨ua, uc, hu, -⟩ := h6'.rd.form;rw [hu] at h6';have HU := Bx.mk h6';clear h6 h6';go_wp2_with fail
      exact ⟨rfl, rfl, trivial, ⟨_, HU.out, rfl⟩⟩
     all_goals
      go_wp2_with fail
      exact ⟨rfl, rfl, rfl, Below.refl _ _⟩
    ·intro d z w7 hdn hCC hf;obtain ⟨P, E, hrow, hP0, hP1, hE0, hE1⟩ := hCC.row;obtain rfl := hP1 (hdn 8 (by omega));have f6 := hE1 (hdn 10 (by omega));have hgr7 := hCC.gr;clear hf hP0 hP1 hE0 hE1 hCC hdn;obtain ⟨ua, uc, rfl, -⟩ := f6.rd.form;have hs7 := hgr7.size;have hkk : ∀ j, j < wr.heap.size -> j ≠ p -> w7.heap[j]? = wr.heap[j]? := fun j hj hne => (hgr7.block j (by have := HS3.out; have := HBN.out; omega) (by simp only [ne_eq, zO]; have := HBN.out; omega)).trans (HKO3.out j hj hne)
     have HK8 := Bx.mk (hKO.out.keep (by have := HS3.out; have := HBN.out; omega) hkk);obtain ⟨y, hy⟩ : ∃ y : Nt, y = ⟨⟨x.n.d, (kpN m x.n).p, x.n.pol, x.n.ex⟩, ⟨ua, x.n.ex.length, uc⟩⟩ := ⟨_, rfl⟩
     have hyn : NtIn w7 (fun k => (Value.slice av l'.length cv).ownBlock ≠ some k /\ k ≠ p) y := by
      rw [hy];refine ⟨⟨f6.rd, fun k hk => ?_⟩, HXU.out⟩;have h1 := (f6.lt k hk).1;have h2 := HS3.out;have h3 := HBN.out;have h4 := HPL.out;refine ⟨fun e => ?_, by omega⟩;have := (hKO.out.own.lt k e).2;omega
     have HYN := Bx.mk hyn;have HYO := Bx.mk (show OwnF w7 kI rdI edI p (q + 1) (plK m (k + 1)) from HOP.out.kept hgr7 (by simp only [ne_eq, zO]; have := HBN.out; have := HPL.out; omega));have HBW8 := Bx.mk (show Below p w w7 from HBW3.out.grown hgr7 (by have := HS3.out; have := HBN.out; have := HPL.out; omega) (fun k hk => by simp only [zO] at hk; have := HBN.out; have := HPL.out; omega));have HPL8 := Bx.mk (show p < w7.heap.size by have := HS3.out; have := HBN.out; have := HPL.out; omega);have HYE := Bx.mk (show y.n = kpN m (nds l)[k]! by rw [HX.out, hy]; rfl)
     have HSRC := Bx.mk (show SrcV (w7.alloc (.cells #[.int .i64 x.n.d, .int .i64 (kpN m x.n).p, .string (bstr x.n.pol), .slice ua x.n.ex.length uc] 111)) 4 (.slice (some ⟨w7.heap.size, 0, none⟩) 1 1) 1 ([y].flatMap encN) by
      have hsrc := src_node w7 y;rw [hy] at hsrc |-
      exact hsrc)
     have HOWN := Bx.mk (show Slc.Own (w7.alloc (.cells #[.int .i64 x.n.d, .int .i64 (kpN m x.n).p, .string (bstr x.n.pol), .slice ua x.n.ex.length uc] 111)) (p + 1) 111 4 encN (.slice av l'.length cv) l' from HK8.out.own.below ((Below.refl _ _).alloc (zR _) _));have hbz : p + 1 <= (w7.alloc (.cells #[.int .i64 x.n.d, .int .i64 (kpN m x.n).p, .string (bstr x.n.pol), .slice ua x.n.ex.length uc] 111)).heap.size := (by have := HPL8.out; simp; omega);have m0 := cell_of_row _ _ 0 _ _ _ hrow;have m1 := cell_of_row _ _ 1 _ _ _ hrow;have m2 := cell_of_row _ _ 2 _ _ _ hrow;have m3 := cell_of_row _ _ 3 _ _ _ hrow;simp only [List.getElem?_toArray, List.getElem?_cons_zero, List.getElem?_cons_succ] at m0 m1 m2 m3
     have hm1 : l'.length + 1 <= maxLen := (by unfold maxLen; omega);have hm2 : (l'.length + 1) * 56 <= 140737488355328 := (by omega);clear f6 hkk hyn hy hrow hgr7 hs7;simp only [List.take_succ_cons, List.take_zero, List.drop_succ_cons, List.drop_zero, putFrom, Nat.zero_add, Nat.reduceAdd]
     generalize z 0 = z0, z 1 = z1', z 2 = z2, z 3 = z3', z 4 = z4, z 5 = z5, z 6 = z6, z 7 = z7, z 8 = z8, z 9 = z9, z 10 = z10;simp only [Act.put, List.setIfInBounds_toArray, List.set_cons_succ, List.set_cons_zero]
     go_wp2_with (at_builtin; refine wpList_append_any rfl _ _ _ rfl (p + 1) 111 i0 _ 4 56 und_nodes hi0 hz0 hz1 hz2 rfl (by decide) _ l'.length (l'.flatMap encN) rfl HOWN.out _ 1 ([y].flatMap encN) rfl HSRC.out hm1 hm2 hbz ?_)
     intro v9 w9 hapd;obtain ⟨hk9, hb9, hp9⟩ := HK8.out.step HPL8.out HYN.out hapd;have HK9 := Bx.mk hk9;have HB9 := Bx.mk hb9;have HP9 := Bx.mk hp9;have HF9 := Bx.mk (show nds (l' ++ [y]) = keepK (nds l) m (k + 1) by rw [keepK_succ, <- HMK.out, if_pos rfl, <- HYE.out, <- hF.out]; simp [nds]);clear hapd hk9 hb9 hp9 hm1 hm2 hbz;go_wp2_with fail
     go_roundw
     case rel => exact ⟨k + 1, l' ++ [y], by omega, by go_num, by simp; omega, HK9, HF9, ⟨q + 1, by have := HQK.out; omega, HYO.out.block HP9.out⟩, ⟨HBW8.out.trans HB9.out⟩⟩
     case measure => simp [intOf]; omega
  ·obtain rfl : k = N := by omega
   have HFIN := Bx.mk (show nds l' = keepP (nds l) m by rw [hF.out]; unfold keepP; rw [nds_len, HN.out]);go_wp2_with fail
   go_ret;exact ⟨_, l', rfl, HP.out ▸ hKO.out.to, HFIN.out, HP.out ▸ hBw.out⟩
end Go.Proofs.YtmagjdocondmhaaGreat.Tr
