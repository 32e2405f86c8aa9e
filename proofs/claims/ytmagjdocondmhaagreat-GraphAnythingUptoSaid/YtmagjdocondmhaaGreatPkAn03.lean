/- packed -/
import Derived.Test.YtmagjdocondmhaaGreatPkAn02
import Derived.RangeFuncNested
import Derived.RangeFuncBound
import Derived.RangeFuncCalls
import Derived.RangeFuncLeaves
import Derived.RangeFuncBox
import Derived.Shelf.Abstract
import Derived.Shelf.RegionOpen
import Derived.OwnWalkIn
import Derived.TacticsInMore
import Derived.LoopNIn
import Derived.LoopIn
import Derived.WalkSpells
import Derived.Deep.CutRange
import Derived.Deep.DeepCutAuto
import Derived.Test.YtmagjdocondmhaaGreatShelf
import Derived.Sort.WalkA
import Derived.Shelf.SlSortCmp.KitK
import Derived.Laws.Append
import Derived.Laws.PanicsMore
import Derived.Lib.AppendZeros
import Derived.Lib.SlKeysI
set_option linter.unusedVariables false
set_option linter.unusedSimpArgs false
set_option maxRecDepth 100000
set_option maxHeartbeats 64000000
namespace Go.Proofs.YtmagjdocondmhaaGreat.Tr.Gr
open Go Go.RowKit Slc St Tr
attribute [local go_sem] Oper.semAt_some
def specV (n : Vx) : Bool := decide (n.pol = anyP)
def ascI (l : List Int) : Bool := decide (l.Pairwise (· < ·)) && !l.isEmpty
theorem gspec_any (x : Vt) (w : World) : Calls Tryz.prog 41 #[verV x] w fun e w' => e = .returned (.bool (specV x.n)) /\ Below w.heap.size w w' := by
 have hs := same_any x.n.pol;unfold verV;rw [show specV x.n = decide (x.n.pol = anyP) from rfl];generalize decide (x.n.pol = anyP) = R at *;generalize x.u.val = U1 at *;generalize x.q.val = U2 at *;generalize bstr x.n.pol = S at *;go_enter Tryz.func41, Tryz.ntmps41;go_wp2_with fail
 go_ret;exact ⟨rfl, (Below.refl _ _).alloc (zR _) _⟩
theorem gonly_q (w : World) (v : Value) (l : List B) (h : Rq w v l) : Calls Tryz.prog 42 #[v] w fun e w' => e = .returned (.bool (onlyB l)) /\ w = w' := by
 obtain ⟨ad, c, rfl, hc0⟩ := h.form;obtain ⟨-, hcell⟩ := strs_cells_q h;by_cases h1 : l.length = 1
 ·obtain ⟨a, rfl⟩ := List.length_eq_one_iff.1 h1;obtain ⟨b, o, rfl, -, hx⟩ := hcell w (Below.refl _ _) 0 (by simp);have hs := same_any a;have hR : onlyB [a] = decide (a = anyP) := by unfold onlyB; simp
  rw [hR];simp only [List.getElem_cons_zero, Nat.add_zero] at hx
  generalize decide (a = anyP) = R at *;have hz : ([a] : List B).length = 1 := rfl;rw [hz];generalize bstr a = S at *;clear hcell h h1 hR hz hc0;go_enter Tryz.func42, Tryz.ntmps42;go_wp2_with fail
  go_ret;exact ⟨by first | rfl | simp [hs], rfl⟩
 ·have hR : onlyB l = false := zF (fun h => h1 (by rw [h]; rfl));rw [hR];have t0 : (((l.length : Nat) : Int) == 1) = false := by simp; omega
  have t1 : ¬ (((l.length : Nat) : Int) = 1) := by omega
  clear hcell h hR hc0;generalize l.length = N at *;go_enter Tryz.func42, Tryz.ntmps42;go_wp2_with fail
  go_ret;exact ⟨rfl, rfl⟩
theorem gascS_q (w : World) (v : Value) (l : List B) (h : Rq w v l) (hn : l.length <= 1000000) : Calls Tryz.prog 91 #[v] w fun e w' => e = .returned (.bool (ascB l)) /\ Below w.heap.size w w' := by
 obtain ⟨ad, c, rfl, hc0⟩ := h.form;obtain ⟨-, hcell⟩ := strs_cells_q h;have HC := Bx.mk hcell;obtain ⟨R, hR⟩ : ∃ R, R = ascB l := ⟨_, rfl⟩
 rw [<- hR];have HR := Bx.mk hR;obtain ⟨N, hN⟩ : ∃ N, N = l.length := ⟨_, rfl⟩
 have HN := Bx.mk hN;have hNb : N <= 1000000 := by omega
 rw [<- hN];clear hcell hR hN h hc0 hn;go_enter Tryz.func91, Tryz.ntmps91;go_wp2
 go_loopw [3] (fun iv wr => ∃ i : Nat, iv = .int .i64 (i : Nat) /\ 1 <= i /\ i <= N + 1 /\ Bx (∀ k (hk : k + 1 < l.length), k + 1 < i -> l[k] < l[k + 1]) /\ Below w.heap.size w wr) (fun iv _ => N + 1 - (intOf iv).toNat)
 case atStart => exact ⟨1, rfl, by omega, by omega, ⟨fun k hk h => by omega⟩, Below.refl _ _⟩
 case round =>
  obtain ⟨i, rfl, h1, h2, hB, hbel⟩ := hrel;by_cases hlt : i < N
  ·obtain ⟨j, rfl⟩ : ∃ j, i = j + 1 := ⟨i - 1, by omega⟩
   have hj1 : j + 1 < l.length := by rw [<- HN.out]; exact hlt
   obtain ⟨b, o, rfl, hbl, hx⟩ := HC.out wr hbel j (by omega);obtain ⟨b', o', hbo, -, hy⟩ := HC.out wr hbel (j + 1) hj1;simp only [zO, Addr.mk.injEq, and_true] at hbo
   obtain ⟨rfl, rfl⟩ := hbo;have l1 := less_bytes l[j] l[j + 1];have l2 := less_bytes l[j + 1] l[j];have l3 := same_bytes l[j] l[j + 1];have HBEL := Bx.mk hbel;have wj : IntKind.i64.wrap (((j + 1 : Nat) : Int) - 1) = (j : Int) := by rw [IntWalk.i64_in _ (by omega)]; omega
   have ej : ((j : Int) + 1).toNat = j + 1 := by omega
   by_cases hc : l[j] < l[j + 1]
   ·rw [zT hc] at l1;rw [zF (List.lt_asymm hc)] at l2
    have HX := Bx.mk (show ∀ k (hk : k + 1 < l.length), k + 1 < j + 1 + 1 -> l[k] < l[k + 1] by
     intro k hk hkj;rcases Nat.lt_or_ge (k + 1) (j + 1) with q | q
     ·exact hB.out k hk q
     ·obtain rfl : k = j := by omega
      exact hc)
    rw [zF (fun e => by rw [e] at hc; exact List.lt_irrefl _ hc)] at l3;generalize bstr l[j] = X at *;generalize bstr l[j + 1] = Y at *;clear hbel hc;go_wp2_with fail
    go_quiet (fail)
    go_wp2_with fail
    go_roundw
    case rel => exact ⟨j + 2, by go_num, by omega, by omega, HX, below_drawn HBEL.out _⟩
    case measure => simp [intOf]; omega
   ·rw [zF hc] at l1;have HF := Bx.mk (show R = false by rw [HR.out]; exact ascB_bad hj1 hc);by_cases h2 : l[j + 1] < l[j]
    ·rw [zT h2] at l2;rw [zF (fun e => hc (by rw [e] at h2; exact absurd h2 (List.lt_irrefl _)))] at l3;generalize bstr l[j] = X at *;generalize bstr l[j + 1] = Y at *;clear hbel hc h2;go_wp2_with fail
     go_quiet (fail)
     go_wp2_with fail
     go_ret;exact ⟨by rw [HF.out]; rfl, below_drawn HBEL.out _⟩
    ·rw [zF h2] at l2;rw [zT (eqB hc h2)] at l3;generalize bstr l[j] = X at *;generalize bstr l[j + 1] = Y at *;clear hbel hc h2;go_wp2_with fail
     go_quiet (fail)
     go_wp2_with fail
     go_ret;exact ⟨by rw [HF.out]; rfl, below_drawn HBEL.out _⟩
  ·have HE := Bx.mk (show R = decide ((0 : Int) < (N : Nat)) by
    rw [HR.out, HN.out]
    exact ascB_good (fun k hk => hB.out k hk (by have := HN.out; omega)))
   have HBEL := Bx.mk hbel;obtain ⟨Z, hZ⟩ : ∃ Z, Z = decide ((N : Int) > 0) := ⟨_, rfl⟩
   have HZ := Bx.mk hZ;clear hbel;rw [show decide ((0 : Int) < (N : Nat)) = decide ((N : Int) > 0) from rfl, <- hZ] at HE;go_wp2_with fail
   go_ret;exact ⟨by rw [HE.out, HZ.out]; first | rfl | simp, HBEL.out⟩
theorem ascI_bad {l : List Int} {i : Nat} (hi : i + 1 < l.length) (h : ¬ l[i] < l[i + 1]) : ascI l = false := by
 unfold ascI;rw [zF (fun hp => h (List.pairwise_iff_getElem.1 hp i (i + 1) (by omega) hi (by omega))), Bool.false_and]
theorem pairI_chain : ∀ (l : List Int), (∀ k (hk : k + 1 < l.length), l[k] < l[k + 1]) -> l.Pairwise (· < ·)
 | [], _ => List.Pairwise.nil
 | [a], _ => by simp
 | a :: b :: l, h => by
  have ih := pairI_chain (b :: l) (fun k hk => h (k + 1) (by simp only [List.length_cons] at hk |-; omega));have h0 : a < b := h 0 (by simp);refine List.pairwise_cons.2 ⟨fun x hx => ?_, ih⟩;rcases List.mem_cons.1 hx with rfl | hx
  ·exact h0
  ·have := (List.pairwise_cons.1 ih).1 x hx; omega
theorem ascI_good {l : List Int} (h : ∀ k (hk : k + 1 < l.length), l[k] < l[k + 1]) : ascI l = decide ((0 : Int) < (l.length : Nat)) := by
 unfold ascI;rw [zT (pairI_chain l h), Bool.true_and]
 cases l <;> simp
def Ri (w : World) (v : Value) (l : List Int) : Prop := RqIn w (fun k => k < w.heap.size) encI v l
theorem Ri.below {w w' : World} {v : Value} {l : List Int} (h : Ri w v l) (hb : Below w.heap.size w w') : Ri w' v l := (RqIn.below h hb).all
theorem Ri.cells {w : World} {ad : Option Addr} {n c : Nat} {l : List Int} (h : Ri w (.slice ad n c) l) : ∀ (W : World), Below w.heap.size w W -> ∀ k (hk : k < l.length), ∃ b o, ad = some ⟨b, o, none⟩ /\ b < w.heap.size /\ W.cell? ⟨b, o + k, none⟩ = some (.int .i64 l[k]) :=
 fun W hW => (int_cells h).2 W fun k hk _ => hW.block k hk
theorem gascI_any (w : World) (v : Value) (l : List Int) (h : Ri w v l) (hn : l.length <= 1000000) : Calls Tryz.prog 92 #[v] w fun e w' => e = .returned (.bool (ascI l)) /\ Below w.heap.size w w' := by
 obtain ⟨ad, c, rfl, -⟩ := RqIn.form h;have HC := Bx.mk h.cells;obtain ⟨R, hR⟩ : ∃ R, R = ascI l := ⟨_, rfl⟩
 rw [<- hR];have HR := Bx.mk hR;obtain ⟨N, hN⟩ : ∃ N, N = l.length := ⟨_, rfl⟩
 have HN := Bx.mk hN;have hNb : N <= 1000000 := by omega
 rw [<- hN];clear hR hN h hn;go_enter Tryz.func92, Tryz.ntmps92;go_wp2
 go_loopw [3] (fun iv wr => ∃ i : Nat, iv = .int .i64 (i : Nat) /\ 1 <= i /\ i <= N + 1 /\ Bx (∀ k (hk : k + 1 < l.length), k + 1 < i -> l[k] < l[k + 1]) /\ Below w.heap.size w wr) (fun iv _ => N + 1 - (intOf iv).toNat)
 case atStart => exact ⟨1, rfl, by omega, by omega, ⟨fun k hk h => by omega⟩, Below.refl _ _⟩
 case round =>
  obtain ⟨i, rfl, h1, h2, hB, hbel⟩ := hrel;by_cases hlt : i < N
  ·obtain ⟨j, rfl⟩ : ∃ j, i = j + 1 := ⟨i - 1, by omega⟩
   have hj1 : j + 1 < l.length := by rw [<- HN.out]; exact hlt
   obtain ⟨b, o, rfl, hbl, hx⟩ := HC.out wr hbel j (by omega);obtain ⟨b', o', hbo, -, hy⟩ := HC.out wr hbel (j + 1) hj1;simp only [zO, Addr.mk.injEq, and_true] at hbo
   obtain ⟨rfl, rfl⟩ := hbo;have HBEL := Bx.mk hbel;have wj : IntKind.i64.wrap (((j + 1 : Nat) : Int) - 1) = (j : Int) := by rw [IntWalk.i64_in _ (by omega)]; omega
   have ej : ((j : Int) + 1).toNat = j + 1 := by omega
   by_cases hc : l[j] < l[j + 1]
   ·have HX := Bx.mk (show ∀ k (hk : k + 1 < l.length), k + 1 < j + 1 + 1 -> l[k] < l[k + 1] by
     intro k hk hkj;rcases Nat.lt_or_ge (k + 1) (j + 1) with q | q
     ·exact hB.out k hk q
     ·obtain rfl : k = j := by omega
      exact hc)
    generalize l[j] = X at *;generalize l[j + 1] = Y at *;have t1 : decide (X >= Y) = false := zF (by omega);have t2 : decide (Y <= X) = false := zF (by omega);clear hbel hc;go_wp2_with fail
    go_quiet (fail)
    go_wp2_with fail
    go_roundw
    case rel => exact ⟨j + 2, by go_num, by omega, by omega, HX, below_drawn HBEL.out _⟩
    case measure => simp [intOf]; omega
   ·have HF := Bx.mk (show R = false by rw [HR.out]; exact ascI_bad hj1 hc);generalize l[j] = X at *;generalize l[j + 1] = Y at *;have t1 : decide (X >= Y) = true := zT (by omega);have t2 : decide (Y <= X) = true := zT (by omega);clear hbel hc;go_wp2_with fail
    go_quiet (fail)
    go_wp2_with fail
    go_ret;exact ⟨by rw [HF.out]; rfl, below_drawn HBEL.out _⟩
  ·have HE := Bx.mk (show R = decide ((0 : Int) < (N : Nat)) by
    rw [HR.out, HN.out]
    exact ascI_good (fun k hk => hB.out k hk (by have := HN.out; omega)))
   have HBEL := Bx.mk hbel;obtain ⟨Z, hZ⟩ : ∃ Z, Z = decide ((N : Int) > 0) := ⟨_, rfl⟩
   have HZ := Bx.mk hZ;clear hbel;rw [show decide ((0 : Int) < (N : Nat)) = decide ((N : Int) > 0) from rfl, <- hZ] at HE;go_wp2_with fail
   go_ret;exact ⟨by rw [HE.out, HZ.out]; first | rfl | simp, HBEL.out⟩
theorem indexI_any (w : World) (v : Value) (l : List Int) (x : Int) (h : Ri w v l) (hl : l.length <= 9223372036854775807) :
  Calls Tryz.prog 113 #[v, .int .i64 x] w fun e w' => ∃ r : Int, e = .returned (.int .i64 r) /\ (0 <= r ↔ x ∈ l) /\ w = w' := by
 obtain ⟨ad, cp, rfl, -⟩ := RqIn.form h;have HC := Bx.mk (h.cells w (Below.refl _ _));clear h;go_enter Tryz.func113, Tryz.ntmps113;go_wp2_with fail
 go_loop [5, 8] (fun _ i => ∃ k : Nat, k <= l.length /\ i = .int .i64 (k : Int) /\ x ∉ l.take k) (fun _ i => l.length - (intOf i).toNat)
 case atStart => exact ⟨0, by omega, rfl, by simp⟩
 case round =>
  obtain ⟨k, hk, rfl, hnot⟩ := hrel;have HN := Bx.mk hnot;clear hnot;by_cases hlt : k < l.length
  ·obtain ⟨b, o, rfl, -, hcl⟩ := HC.out k hlt
   have HT := Bx.mk (show x ≠ l[k] -> x ∉ l.take (k + 1) from fun h1 h2 => by
    rw [zA hlt, List.mem_append, zS] at h2
    exact h2.elim HN.out h1)
   have HM := Bx.mk (zM hlt);by_cases hxy : x = l[k]
   ·have HR := Bx.mk (show decide (x ∈ l) = true by rw [hxy]; exact zT HM.out);have hq : (x == l[k]) = true := (by simpa using hxy);rw [<- hxy] at hcl;have hq2 : (x == x) = true := (by simp);clear hxy HM hq;go_wp2_with fail
    go_ret;exact ⟨_, rfl, ⟨fun _ => of_decide_eq_true HR.out, fun _ => by omega⟩, rfl⟩
   ·have HT2 := Bx.mk (HT.out hxy);have hq : (x == l[k]) = false := (by simpa using hxy);generalize l[k] = Y at *;clear hxy HM;go_wp2_with fail
    go_round
    case rel => exact ⟨k + 1, by omega, by go_num, HT2.out⟩
    case measure => simp [intOf]; omega
  ·obtain rfl : k = l.length := by omega
   have HR := Bx.mk (show decide (x ∈ l) = false by have := HN.out; rw [List.take_length] at this; exact zF this);go_wp2_with fail
   go_ret;exact ⟨_, rfl, ⟨fun q => absurd q (by decide), fun q => absurd q (of_decide_eq_false HR.out)⟩, rfl⟩
theorem containsI_any (w : World) (v : Value) (l : List Int) (x : Int) (h : Ri w v l) (hl : l.length <= 9223372036854775807) :
  Calls Tryz.prog 78 #[v, .int .i64 x] w fun e w' => e = .returned (.bool (decide (x ∈ l))) /\ w = w' := by
 have HI := Bx.mk (indexI_any w v l x h hl);clear h;go_enter Tryz.func78, Tryz.ntmps78;go_wp2_with fail
 go_at_call 113;refine HI.out.mono ?_;rintro e w' ⟨r, rfl, hr, rfl⟩;have HR := Bx.mk hr;clear hr;go_wp2_with fail
 go_ret;exact ⟨by simp [HR.out], rfl⟩
def idxG {α : Type} (t : List α) (f : α -> Bool) : Int := if t.findIdx f < t.length then (t.findIdx f : Nat) else -1
theorem idxG_eq {α : Type} [Inhabited α] {t : List α} {f : α -> Bool} {k : Nat} (hk : k < t.length) (h : f t[k]! = true) (hn : ∀ j, j < k -> f t[j]! = false) : idxG t f = (k : Int) := by
 have e : t.findIdx f = k := by
  rw [List.findIdx_eq hk];rw [getElem!_pos t k hk] at h;refine ⟨h, fun j hj => ?_⟩;have := hn j hj;rw [getElem!_pos t j (by omega)] at this;exact this
 unfold idxG;rw [e, if_pos hk]
theorem idxG_no {α : Type} [Inhabited α] {t : List α} {f : α -> Bool} (hn : ∀ j, j < t.length -> f t[j]! = false) : idxG t f = -1 := by
 unfold idxG;rw [if_neg];intro h;have h1 := List.findIdx_getElem (p := f) (w := h);have h2 := hn _ h;rw [getElem!_pos t _ h] at h2;rw [h1] at h2; cases h2
theorem idxG_some {α : Type} [Inhabited α] {t : List α} {f : α -> Bool} (h : 0 <= idxG t f) : ∃ k, k < t.length /\ idxG t f = (k : Int) /\ f t[k]! = true /\ ∀ j, j < k -> f t[j]! = false := by
 unfold idxG at h |-;split at h
 ·rename_i q
  rw [if_pos q];refine ⟨_, q, rfl, ?_, fun j hj => ?_⟩
  ·rw [getElem!_pos t _ q]; exact List.findIdx_getElem
  ·rw [getElem!_pos t j (by omega)];exact Bool.eq_false_iff.2 (by simpa using List.not_of_lt_findIdx hj)
 ·omega
theorem idxG_neg {α : Type} [Inhabited α] {t : List α} {f : α -> Bool} (h : idxG t f < 0) : ∀ j, j < t.length -> f t[j]! = false := by
 intro j hj;unfold idxG at h;split at h
 ·omega
 ·rename_i q
  rw [getElem!_pos t j hj];exact Bool.eq_false_iff.2 (by simpa using List.not_of_lt_findIdx (p := f) (xs := t) (by have := List.findIdx_le_length (p := f) (xs := t); omega))
def fndP (l : List Vx) (p : B) : Int := idxG l fun n => decide (n.pol = p)
theorem vxs_at (l : List Vt) (i : Nat) (h : i < l.length) : (vxs l)[i]! = (l[i]).n := by
 rw [getElem!_pos (vxs l) i (by simpa [vxs] using h)]; simp [vxs]
theorem vxs_len (l : List Vt) : (vxs l).length = l.length := by simp [vxs]
theorem VL.at3 {w : World} {ad : Option Addr} {n c : Nat} {l : List Vt} (h : VL w (.slice ad n c) l) (W : World) (hW : Below w.heap.size w W) (k : Nat) (hk : k < l.length) : ∃ b o, ad = some ⟨b, o, none⟩ /\ b < w.heap.size /\ W.cell? ⟨b, o + k * 3, none⟩ = some (.string (bstr (l[k]).n.pol)) /\ W.cell? ⟨b, o + k * 3 + 1, none⟩ = some (l[k]).u.val /\ W.cell? ⟨b, o + k * 3 + 2, none⟩ = some (l[k]).q.val :=
 (vs_cells h.rd).2 W (fun k hk _ => hW.block k hk) k hk
theorem findF_any (w : World) (x : Vt) (qd : Nat) (p : B) (hq : w.cell? ⟨qd, 0, none⟩ = some (.string (bstr p))) (hql : qd < w.heap.size) :
  Calls Tryz.prog 95 #[verV x, .pointer (some ⟨qd, 0, none⟩)] w fun e w' => e = .returned (.bool (decide (x.n.pol = p))) /\ Below w.heap.size w w' := by
 have l3 := same_bytes x.n.pol p;unfold verV;generalize decide (x.n.pol = p) = R at *;generalize x.u.val = U1 at *;generalize x.q.val = U2 at *;generalize bstr x.n.pol = S at *;generalize bstr p = T at *;have hb := (Below.refl w.heap.size w).alloc (zR _) (.cells #[.string S, U1, U2] 65);have HB := Bx.mk hb;have hq1 := (hb.cell (p := ⟨qd, 0, none⟩) hql).trans hq;clear hb hq;go_enter Tryz.func95, Tryz.ntmps95;go_wp2_with fail
 go_ret;exact ⟨rfl, HB.out⟩
theorem idxV_any (w : World) (v : Value) (l : List Vt) (h : VL w v l) (hn : l.length <= 100000) (qd : Nat) (p : B) (hq : w.cell? ⟨qd, 0, none⟩ = some (.string (bstr p))) (hql : qd < w.heap.size) :
  Calls Tryz.prog 94 #[v, .func (.func 95) #[] #[.pointer (some ⟨qd, 0, none⟩)]] w fun e w' => e = .returned (.int .i64 (fndP (vxs l) p)) /\ Below w.heap.size w w' := by
 obtain ⟨ad, c, rfl, -⟩ := h.rd.form;have HC := Bx.mk h.at3;obtain ⟨R, hR⟩ : ∃ R, R = fndP (vxs l) p := ⟨_, rfl⟩
 rw [<- hR];have HR := Bx.mk hR;obtain ⟨N, hN⟩ : ∃ N, N = l.length := ⟨_, rfl⟩
 have HN := Bx.mk hN;rw [<- hN] at hn |-;clear h hR hN;have HQ := Bx.mk hq;have HQL := Bx.mk hql;clear hq hql;have eg : ∀ args W, (callFunc 95 args).run Tryz.prog W = .ok (.enter 95 args) W := enters_of Tryz.func95 (by kernel_rfl) rfl
 go_enter Tryz.func94, Tryz.ntmps94;go_wp2_with fail
 go_loopw [8] (fun i wr => ∃ k : Nat, k <= N /\ i = .int .i64 k /\ Bx (∀ j, j < k -> decide (((vxs l)[j]!).pol = p) = false) /\ Bx (Below w.heap.size w wr)) (fun i _ => N - (intOf i).toNat)
 case atStart => exact ⟨0, by omega, rfl, ⟨fun j hj => by omega⟩, ⟨Below.refl _ _⟩⟩
 case round =>
  obtain ⟨k, hk, rfl, hF, hBw⟩ := hrel;by_cases hlt : k < N
  ·have hkl : k < l.length := by rw [<- HN.out]; exact hlt
   obtain ⟨b, o, rfl, hbl, c0, c1, c2⟩ := HC.out wr hBw.out k hkl;have HX := Bx.mk (show (vxs l)[k]! = (l[k]).n from vxs_at l k hkl);obtain ⟨x, hx⟩ : ∃ x, x = l[k] := ⟨_, rfl⟩
   rw [<- hx] at c0 c1 c2 HX;simp only [Sl.val] at c1 c2
   have hcf := findF_any wr x qd p ((hBw.out.cell (p := ⟨qd, 0, none⟩) HQL.out).trans HQ.out) (Nat.lt_of_lt_of_le HQL.out hBw.out.size);unfold verV at hcf;simp only [Sl.val] at hcf
   obtain ⟨r, hr⟩ : ∃ r, r = decide (x.n.pol = p) := ⟨_, rfl⟩
   rw [<- hr] at hcf;have HRX := Bx.mk hr;clear hx hbl hr;go_wp2_with fail
   go_at_call 95;refine hcf.mono ?_;rintro e w2 ⟨rfl, hb2⟩;have HB2 := Bx.mk (hBw.out.trans (hb2.mono hBw.out.size));clear hcf hb2 c0 c1 c2
   cases r with
   | true =>
    have HF2 := Bx.mk (show R = (k : Int) by rw [HR.out]; exact idxG_eq (by rw [vxs_len]; exact hkl) (by rw [HX.out]; exact HRX.out.symm) hF.out);clear hkl;go_wp2_with fail
    go_ret
    exact ⟨by rw [HF2.out]; rfl, HB2.out⟩
   | false =>
    clear hkl;go_wp2_with fail
    go_roundw
    case rel => exact ⟨k + 1, by omega, by go_num, ⟨fun j hj => by
     by_cases e : j = k
     ·subst e; rw [HX.out]; exact HRX.out.symm
     ·exact hF.out j (by omega)⟩, HB2⟩
    case measure => simp [intOf]; omega
  ·obtain rfl : N = k := by omega
   have HF2 := Bx.mk (show R = -1 by rw [HR.out]; exact idxG_no fun i hi => hF.out i (by rw [vxs_len, <- HN.out] at hi; exact hi));go_wp2_with fail
   go_ret;exact ⟨by rw [HF2.out]; rfl, hBw.out⟩
theorem find_any (w : World) (v : Value) (l : List Vt) (h : VL w v l) (hn : l.length <= 100000) (p : B) :
  Calls Tryz.prog 50 #[.agg #[v], .string (bstr p)] w fun e w' => e = .returned (.int .i64 (fndP (vxs l) p)) /\ Below w.heap.size w w' := by
 obtain ⟨ad, c, rfl, -⟩ := h.rd.form;obtain ⟨W1, hW1⟩ : ∃ W1, W1 = w.alloc (.cells #[.slice ad l.length c] 63) := ⟨_, rfl⟩
 obtain ⟨W2, hW2⟩ : ∃ W2, W2 = W1.alloc (.cells #[.string (bstr p)] 9) := ⟨_, rfl⟩
 have hb1 : Below w.heap.size w W1 := by rw [hW1]; exact (Below.refl _ _).alloc (zR _) _
 have hb2 : Below W1.heap.size W1 W2 := by rw [hW2]; exact (Below.refl _ _).alloc (zR _) _
 have hs1 : W1.heap.size = w.heap.size + 1 := by rw [hW1]; simp
 have hs2 : W2.heap.size = W1.heap.size + 1 := by rw [hW2]; simp
 have hr1 : W1.heap[w.heap.size]? = some (.cells #[.slice ad l.length c] 63 (0, 0)) := by rw [hW1]; exact heap_alloc_new _ _
 have hr2 : W2.heap[W1.heap.size]? = some (.cells #[.string (bstr p)] 9 (0, 0)) := by rw [hW2]; exact heap_alloc_new _ _
 have hr1' := (hb2.block w.heap.size (by omega)).trans hr1;have m0 := cell_of_row _ _ 0 _ _ _ hr1';have m1 := cell_of_row _ _ 0 _ _ _ hr2;simp only [List.getElem?_toArray, List.getElem?_cons_zero] at m0 m1
 have hB2 : Below w.heap.size w W2 := hb1.trans (hb2.mono hb1.size);have hidx := idxV_any W2 _ l (h.below hB2) hn W1.heap.size p m1 (by omega);have HB2 := Bx.mk hB2;obtain ⟨R, hR⟩ : ∃ R, R = fndP (vxs l) p := ⟨_, rfl⟩
 rw [<- hR] at hidx |-;obtain ⟨N, hN⟩ : ∃ N, N = l.length := ⟨_, rfl⟩
 rw [<- hN] at hidx hW1 m0 |-;rw [hs1] at hidx;obtain ⟨q1, hq1⟩ : ∃ q, q = w.heap.size + 1 := ⟨_, rfl⟩
 obtain ⟨q0, hq0⟩ : ∃ q, q = w.heap.size := ⟨_, rfl⟩
 rw [<- hq1] at hidx;rw [<- hq0] at m0;clear hb1 hb2 hs1 hs2 hr1 hr2 hr1' hB2 m1 hR hN h hn;go_enter Tryz.func50, Tryz.ntmps50;go_upto_region 1 with fail
 rw [<- hW1, <- hW2, <- hq1, <- hq0];clear hW1 hW2 hq1 hq0;go_wp2_with fail
 go_at_call 94;refine hidx.mono ?_;rintro e w3 ⟨rfl, hb3⟩;have HB3 := Bx.mk (HB2.out.trans (hb3.mono HB2.out.size));clear hidx hb3;go_wp2_with fail
 go_ret;exact ⟨rfl, HB3.out⟩
end Go.Proofs.YtmagjdocondmhaaGreat.Tr.Gr
namespace Go.Proofs.YtmagjdocondmhaaGreat.Rg
open Go Go.RowKit Go.Shelf Slc
theorem lt_of_at {w : World} {k : Nat} {ob : Obj} (h : w.heap[k]? = some ob) : k < w.heap.size := by
 rcases Nat.lt_or_ge k w.heap.size with q | q
 ·exact q
 ·rw [Array.getElem?_eq_none q] at h; cases h
theorem alloc_at {w : World} {c : Array Value} {t : TypeId} {n : Nat} (hn : n = w.heap.size) : (w.alloc (.cells c t)).heap[n]? = some (.cells c t (0, 0)) := by
 subst hn; exact heap_alloc_new _ _
theorem alloc_keep {w : World} {p : Nat} {ob o : Obj} (h : w.heap[p]? = some ob) : (w.alloc o).heap[p]? = some ob := by
 have := lt_of_at h
 show (w.heap.push o)[p]? = _
 rw [Array.getElem?_push_lt this, <- h, Array.getElem?_eq_getElem this]
theorem row_set {W : World} {p i : Nat} {c : Array Value} {t : TypeId} {fr : Nat × Nat} (h : W.heap[p]? = some (.cells c t fr)) (v : Value) : (W.setCell ⟨p, i, none⟩ v).heap[p]? = some (.cells (c.setIfInBounds i v) t fr) := by
 simp only [World.setCell, Array.getElem?_modify, if_true, h, Option.map_some]
 simp
theorem row_other {W : World} {p q i : Nat} {ob : Obj} (h : W.heap[p]? = some ob) (hne : p ≠ q) (v : Value) : (W.setCell ⟨q, i, none⟩ v).heap[p]? = some ob := by
 simp only [World.setCell, Array.getElem?_modify]
 rw [if_neg (by omega)]; exact h
theorem frozen_row {W : World} {p i : Nat} {c : Array Value} {t : TypeId} (h : W.heap[p]? = some (.cells c t (0, 0))) : W.frozen? ⟨p, i, none⟩ = false := by
 simp [World.frozen?, h]
theorem cells_kept {A B : World} {B0 p : Nat} {c : Array Value} {t : TypeId} {row : Option Nat} (h : A.heap[p]? = some (.cells c t (0, 0))) (hg : A.grownBy B row) (hr : ∀ r, row = some r -> B0 <= r /\ ∃ o : Obj, A.heap[r]? = some o /\ o.isCells = false) : B.heap[p]? = some (.cells c t (0, 0)) := by
 refine (hg.block p (lt_of_at h) fun e => ?_).trans h;obtain ⟨-, o, ho, hc⟩ := hr p e.symm;rw [h] at ho;obtain rfl := Option.some.inj ho;simp [Obj.isCells] at hc
theorem own_cells {α : Type} {w : World} {B : Nat} {t : TypeId} {z : Nat} {enc : α -> List Value} {v : Value} {l : List α} (h : Slc.Own w B t z enc v l) : ∀ (j : Nat) (o : Obj), v.ownBlock = some j -> w.heap[j]? = some o -> o.isCells = true := by
 intro j o hj ho;rcases h.2 with ⟨rfl, _⟩ | ⟨g, cap, cur, rfl, _, hg, _⟩
 ·cases hj
 ·simp only [Value.ownBlock, zO] at hj
  subst hj;rw [hg] at ho;obtain rfl := Option.some.inj ho;rfl
theorem own_kept {α : Type} {A B : World} {B0 b : Nat} {t : TypeId} {z : Nat} {enc : α -> List Value} {v : Value} {l : List α} {row : Option Nat} (h : Slc.Own A b t z enc v l) (hg : A.grownBy B row) (hr : ∀ r, row = some r -> B0 <= r /\ ∃ o : Obj, A.heap[r]? = some o /\ o.isCells = false) : Slc.Own B b t z enc v l := by
 refine h.keep fun k hk hlt => hg.block k hlt fun e => ?_
 obtain ⟨-, o, ho, hc⟩ := hr k e.symm;rw [own_cells h k o hk ho] at hc
 cases hc
structure KB (n p : Nat) (W W' : World) : Prop where
 os : W'.os = W.os
 tape : W'.tape = W.tape
 output : W'.output = W.output
 size : W.heap.size <= W'.heap.size
 block : ∀ k, k < n -> k ≠ p -> W'.heap[k]? = W.heap[k]?
theorem KB.refl (n p : Nat) (W : World) : KB n p W W := ⟨rfl, rfl, rfl, zR _, fun _ _ _ => rfl⟩
theorem KB.trans {n p : Nat} {A B C : World} (h : KB n p A B) (k : KB n p B C) : KB n p A C := ⟨k.os.trans h.os, k.tape.trans h.tape, k.output.trans h.output, Nat.le_trans h.size k.size, fun i h1 h2 => (k.block i h1 h2).trans (h.block i h1 h2)⟩
theorem KB.of_below {n p : Nat} {A B : World} (h : Below n A B) : KB n p A B := ⟨h.os, h.tape, h.output, h.size, fun k hk _ => h.block k hk⟩
theorem KB.set {n p : Nat} (A : World) (i : Nat) (v : Value) (hn : n <= A.heap.size) : KB n p A (A.setCell ⟨p, i, none⟩ v) := ⟨rfl, rfl, rfl, by simp, fun k hk hne => heap_setCell_other A _ k v fun e => hne e⟩
theorem rf_H {F : Fence} {n : Nat} {P : Program} {α : Type} {g : Operand} {ps : Array Tmp} {assign body : Code} {Q : Exit -> Act -> World -> Prop} {a : Act} {w : World}
  (hro : F.round = none) (h1 : 1 <= n) {gf : Nat} {lb : Array Value} (hg : a.eval g = .func (.func gf) #[] lb) (hFg : F.fn gf) (eg : ∀ args w, (callFunc gf args).run P w = .ok (.enter gf args) w)
  {encs : α -> Array Value} {Kp : World -> World -> Prop} {S Sp : List α -> Prop} {N : Nat} {w0 : World} (hseq : SeqStopsK F (n - 1) P gf lb encs Kp S Sp N w0)
  (hKt : ∀ {A B C : World}, Kp A B -> Kp B C -> Kp A C) (hKb : ∀ (W : World) (l : Nat) (o o' : Obj), w.heap.size <= l -> W.heap[l]? = some o -> o.isCells = false -> o.isWalk = false -> Kp W (W.putObj l o')) (hb0 : Below w0.heap.size w0 w) (hps : ∀ x, (encs x).size = ps.size)
  (I : List α -> World -> Prop) (Ix : Code -> List α -> World -> Prop) (hI : OwnFrom w.heap.size I) (hIx : ∀ c, OwnFrom w.heap.size (Ix c)) (h0 : I [] w) (Ax : Act -> α -> Act -> World -> Prop) (hAx : ∀ x a', OwnFrom w.heap.size (fun (_ : Unit) W => Ax a x a' W))
  (hassign : ∀ (l : Nat) (pre : List α) (x : α) (W : World) (K : Act -> World -> Prop), I pre W -> (∀ a' W', KeepsFrom w.heap.size W W' -> Kp W W' -> I pre W' -> Ax a x a' W' -> K a' W') ->
   assign.wpIn (F.inRound l) (n - 1 - 1) P (Exit.then K (fun _ _ _ => False)) { tmps := (ps.zip (encs x)).foldl (fun t (p, v) => t.setIfInBounds p v) a.tmps, defers := [] } W)
  (hbody : ∀ (l : Nat) (pre : List α) (x : α) (a' : Act) (W : World), w.heap.size <= l -> (∃ r, W.heap[l]? = some (.loop r)) -> I pre W -> Ax a x a' W -> pre.length < N -> body.wpIn (F.inRound l) (n - 1 - 1) P (ownPostG w.heap.size Kp I Ix (pre ++ [x]) W) a' W)
  (hdone : ∀ (D : Nat) (xs : List α) (W : World), w.heap.size <= D -> S xs -> I xs W -> W.heap[D]? = some (.deferred (some [])) -> Q .normal { a with defers := { target := .collected D, args := #[] } :: a.defers } W)
  (hstop : ∀ (D : Nat) (c : Code) (pre : List α) (W : World), w.heap.size <= D -> Sp pre -> Ix c pre W -> W.heap[D]? = some (.deferred (some [])) -> c.wpIn F n P Q { a with defers := { target := .collected D, args := #[] } :: a.defers } W) :
  (Code.rangeFunc g ps assign body).wpIn F n P Q a w :=
 wpIn_rangeFunc_ownH hro h1 hg hFg eg hseq hKt hKb hb0 hps I Ix hI hIx h0 (Ax a) hAx hassign hbody hdone hstop
end Go.Proofs.YtmagjdocondmhaaGreat.Rg
namespace Go.Proofs.YtmagjdocondmhaaGreat.Tr
open Go Go.RowKit Go.Shelf Go.Sort Slc St Mp Rg
attribute [local go_sem] Oper.semAt_some
end Go.Proofs.YtmagjdocondmhaaGreat.Tr
namespace Go.Proofs.YtmagjdocondmhaaGreat.Tr
open Go Go.RowKit Slc St Mp
theorem cloneS_any (w : World) (v : Value) (cs : List B) (h : Rd w encS v cs) (hl : cs.length <= 1000000) :
  Calls Tryz.prog 100 #[v] w fun e w' => ∃ u, e = .returned u /\ Slc.Own w' w.heap.size 9 1 encS u cs /\ Below w.heap.size w w' := by
 obtain ⟨i0, hi, hz0, hz1, hz2⟩ := info_parts info_str;have hsrc := h.src encS_ok;rcases h with ⟨rfl, rfl⟩ | ⟨b, o, c, rfl, hlt, hc, hcell⟩
 ·have hq := fun W : World => Lib.run_eql_slice_nil (P := Tryz.prog) W 34 _ none 0 0 0 0 und_strs
  go_enter Tryz.func100, Tryz.ntmps100;go_wp2
  go_ret;exact ⟨_, rfl, Slc.Own.nil _ _, Below.refl _ _⟩
 ·clear hcell;have hs1 := hsrc.below ((Below.refl w.heap.size w).alloc (zR _) (.cells #[] 9));have HS := Bx.mk hs1;have hn := heap_alloc_new w (.cells #[] 9);have HN := Bx.mk hn;have hq := fun W : World => Lib.run_eql_slice_nil (P := Tryz.prog) W 34 _ (some ⟨b, o, none⟩) cs.length c 0 0 und_strs
  clear hs1 hsrc hn;go_enter Tryz.func100, Tryz.ntmps100;have hs2 := HS.out;have hn2 := HN.out;go_wp2_with (at_builtin; refine wpList_append_fresh rfl _ _ _ rfl w.heap.size 9 i0 _ 1 16 und_strs hi hz0 hz1 hz2 rfl (by decide) w.heap.size rfl hn2 (zR _) (by simp) _ cs.length (cs.flatMap encS) rfl hs2 ?ap1 ?ap2 ?_)
  case ap1 => unfold maxLen; omega
  case ap2 => omega
  intro v' w4 hown hb _;have HO := Bx.mk (show Slc.Own w4 w.heap.size 9 1 encS v' cs from hown);have HB := Bx.mk (((Below.refl w.heap.size w).alloc (zR _) (.cells #[] 9)).trans (hb.mono (by simp)));clear hown hb hs2 hn2 hq;go_wp2
  go_ret;exact ⟨_, rfl, HO.out, HB.out⟩
def encM (b : Bool) : List Value := [.bool b]
theorem encM_ok : Enc 1 encM := ⟨fun c => rfl, fun c u hu => by
 simp only [encM, zS] at hu
 subst hu; rfl, by omega⟩
end Go.Proofs.YtmagjdocondmhaaGreat.Tr
namespace Go.Proofs.YtmagjdocondmhaaGreat.Tr
open Go Go.RowKit Slc St Mp
attribute [local go_sem] Oper.semAt_some
theorem grown_set' {W w : World} {bn : Nat} (h : W.grownBy w (some bn)) (j : Nat) (y : Value) : W.grownBy (w.setCell ⟨bn, j, none⟩ y) (some bn) :=
 ⟨h.os, h.tape, h.output, by simpa using h.size, fun k hk hne => by
  have hkb : k ≠ bn := fun e => hne (by rw [e])
  rw [heap_setCell_other _ _ _ _ (show k ≠ bn from hkb)]; exact h.block k hk hne⟩
theorem grown_bel {W w w' : World} {r : Option Nat} (h : W.grownBy w r) (hb : Below w.heap.size w w') : W.grownBy w' r :=
 ⟨hb.os.trans h.os, hb.tape.trans h.tape, hb.output.trans h.output, Nat.le_trans h.size hb.size, fun k hk hne => (hb.block k (Nat.lt_of_lt_of_le hk h.size)).trans (h.block k hk hne)⟩
end Go.Proofs.YtmagjdocondmhaaGreat.Tr
namespace Go.Proofs.YtmagjdocondmhaaGreat.Tr
open Go Go.RowKit St
section
variable {t : List Nd} {D : Int}
theorem set_at (m : List Bool) (i j : Nat) (b : Bool) (hi : i < m.length) : (m.set i b)[j]! = if j = i then b else m[j]! := by
 rw [List.getElem!_eq_getElem?_getD, List.getElem!_eq_getElem?_getD, List.getElem?_set];by_cases e : i = j
 ·subst e; simp [hi]
 ·rw [if_neg e, if_neg (fun q => e q.symm)]
structure PM (t : List Nd) (D : Int) (j : Nat) (m : List Bool) : Prop where
 len : m.length = t.length
 cl : ∀ k, t.length - j <= k -> k < t.length -> m[k]! = true -> 0 <= t[k]!.p -> m[t[k]!.p.toNat]! = true
 at_ : ∀ i, t.length - j <= i -> i < t.length -> t[i]!.d = D -> m[i]! = true
 why : ∀ i, i < t.length -> m[i]! = true -> t[i]!.d = D \/ ∃ k, k < t.length /\ m[k]! = true /\ t[k]!.p = (i : Int)
end
end Go.Proofs.YtmagjdocondmhaaGreat.Tr
namespace Go.Proofs.YtmagjdocondmhaaGreat.Tr
open Go Go.RowKit St
section
variable {t : List Nd} {D : Int}
theorem srcL_any (l : List (B × B)) : anyP ∉ srcL l := by
 unfold srcL;rw [setB_mem, List.mem_map];rintro ⟨m, hm, he⟩;rw [List.mem_filter] at hm;have := hm.2;unfold okM at this;simp [he] at this
theorem ascB_iff {l : List B} : ascB l = true ↔ Asc l /\ l ≠ [] := by
 unfold ascB;rw [Bool.and_eq_true, decide_eq_true_eq, Bool.not_eq_true', List.isEmpty_eq_false_iff]
end
end Go.Proofs.YtmagjdocondmhaaGreat.Tr
namespace Go.Proofs.YtmagjdocondmhaaGreat.Tr
open Go Go.RowKit St
section
variable {t : List Nd} {k : Nat}
end
end Go.Proofs.YtmagjdocondmhaaGreat.Tr
namespace Go.Proofs.YtmagjdocondmhaaGreat.Tr
open Go Go.RowKit Go.Sort Slc St
attribute [local go_sem] Oper.semAt_some
end Go.Proofs.YtmagjdocondmhaaGreat.Tr
namespace Go.Proofs.YtmagjdocondmhaaGreat.St
section
variable {α : Type} {lt : α -> α -> Bool}
end
end Go.Proofs.YtmagjdocondmhaaGreat.St
namespace Go.Proofs.YtmagjdocondmhaaGreat.Tr
open Go Go.RowKit Go.Sort Slc St
attribute [local go_sem] Oper.semAt_some
end Go.Proofs.YtmagjdocondmhaaGreat.Tr
namespace Go.Proofs.YtmagjdocondmhaaGreat.Tr
open Go Go.RowKit Go.Sort Slc St
attribute [local go_sem] Oper.semAt_some
end Go.Proofs.YtmagjdocondmhaaGreat.Tr
namespace Go.Proofs.YtmagjdocondmhaaGreat.Tr
open Go Go.RowKit Go.Shelf Go.Sort Slc St Mp Rg
attribute [local go_sem] Oper.semAt_some
def MB (w : World) (b : Nat) (m : List Bool) : Prop := w.heap[b]? = some (.cells (m.map Value.bool).toArray 4 (0, 0))
theorem MB.cell {w : World} {b : Nat} {m : List Bool} (h : MB w b m) (i : Nat) (hi : i < m.length) : w.cell? ⟨b, i, none⟩ = some (.bool m[i]!) := by
 have := cell_of_row _ _ i _ _ _ h;rw [this, getElem!_pos m i hi];simp [hi]
theorem MB.set {w : World} {b : Nat} {m : List Bool} (h : MB w b m) (i : Nat) (x : Bool) : MB (w.setCell ⟨b, i, none⟩ (.bool x)) b (m.set i x) := by
 have := row_set h (i := i) (.bool x);unfold MB;rw [this, List.map_set];simp
theorem MB.rd {w : World} {b c : Nat} {m : List Bool} (h : MB w b m) (hc : m.length <= c) : Rd w encM (.slice (some ⟨b, 0, none⟩) m.length c) m := by
 refine .inr ⟨b, 0, c, rfl, lt_of_some h, hc, fun j u hj => ?_⟩
 have e : m.flatMap encM = m.map Value.bool := by
  clear h hc hj
  induction m with
  | nil => rfl
  | cons x l ih => simp [encM, List.flatMap_cons, ih]
 rw [e] at hj;have := cell_of_row _ _ j _ _ _ h;rw [Nat.zero_add, this];simpa using hj
theorem made_marks (n : Nat) : madeCells (Value.bool false).cells (n * 1) = ((List.replicate n false).map Value.bool).toArray := by
 have := toList_madeCells_one (.bool false) n;have e : (Value.bool false).cells = #[.bool false] := rfl;rw [e, Nat.mul_one, List.map_replicate, <- this]
end Go.Proofs.YtmagjdocondmhaaGreat.Tr
namespace Go.Proofs.YtmagjdocondmhaaGreat.Tr
open Go Go.RowKit Slc St Mp
section
variable {P : Program} {α : Type} {enc : α -> List Value} {z : Nat}
end
def GrP (w : World) (l m : List Nt) (e : Ending) (w' : World) : Prop :=
 (2048 < l.length + m.length /\ e = .returned (.tuple #[.slice none 0 0, .bool false]) /\ Below w.heap.size w w') \/
 (l.length + m.length <= 2048 /\ ∃ v' l', e = .returned (.tuple #[v', .bool true]) /\ TO w' w.heap.size v' l' /\ nds l' = sortT (nds l ++ nds m) /\ Below w.heap.size w w')
theorem own_alloc {α : Type} {enc : α -> List Value} {z Bk : Nat} {e : TypeId} (E : Enc z enc) (w : World) (l : List α) (cs : Array Value) (hc : cs.toList = l.flatMap enc) (hB : Bk <= w.heap.size) (hl : l.length <= maxLen) :
  Slc.Own (w.alloc (.cells cs e)) Bk e z enc (.slice (some ⟨w.heap.size, 0, none⟩) l.length l.length) l := by
 have hs : cs.size = l.length * z := by rw [<- Array.length_toList, hc, flat_len E]
 refine ⟨flat_len E l, .inr ⟨w.heap.size, l.length, cs, rfl, hB, heap_alloc_new _ _, zR _, hl, hs, ?_⟩⟩;rw [<- hs, <- hc, <- Array.length_toList, List.take_length]
end Go.Proofs.YtmagjdocondmhaaGreat.Tr
namespace Go.Proofs.YtmagjdocondmhaaGreat.Tr.Gr
open Go Go.RowKit Slc St Mp Tr
theorem VtIn.and {w : World} {S S' : Nat -> Prop} {x : Vt} (h : VtIn w S x) (h' : VtIn w S' x) : VtIn w (fun k => S k /\ S' k) x := by
 refine ⟨⟨h.1.1, fun k hk => ⟨h.1.2 k hk, h'.1.2 k hk⟩⟩, ?_, h.2.2⟩;rcases h.2.1 with q | q
 ·exact .inl q
 ·rcases h'.2.1 with q' | q'
  ·exact .inl q'
  ·exact .inr ⟨q.1, fun k hk => ⟨q.2 k hk, q'.2 k hk⟩⟩
theorem GB.set {v : Value} {g : List Lv} {i : Nat} {L' : Lv} {k : Nat} (h : GB v (g.set i L') k) : GB v g k \/ L'.s.val.ownBlock = some k := by
 rcases h with h | ⟨L, hL, h⟩
 ·exact .inl (.inl h)
 ·rcases List.mem_or_eq_of_mem_set hL with q | rfl
  ·exact .inl (.inr ⟨L, q, h⟩)
  ·exact .inr h
theorem GO.setL {w : World} {B : Nat} {v : Value} {g : List Lv} (h : GO w B v g) (i : Nat) (hi : i < g.length) (L' : Lv) (hL : Slc.Own w B 65 3 encV L'.s.val L'.vs)
  (hb : ∀ k, L'.s.val.ownBlock = some k -> v.ownBlock ≠ some k /\ ∀ (j : Nat) (hj : j < g.length), j ≠ i -> (g[j]).s.val.ownBlock ≠ some k)
  (ho : ∀ (j : Nat) (hj : j < g.length), j ≠ i -> ∀ x ∈ (g[j]).vs, VtIn w (fun k => L'.s.val.ownBlock ≠ some k) x)
  (hx : ∀ x ∈ L'.vs, VtIn w (fun k => ¬ GB v (g.set i L') k) x) :
  ∃ gb cap, v = .slice (some ⟨gb, 0, none⟩) g.length cap /\ gb < w.heap.size /\ (∀ i, w.frozen? ⟨gb, i, none⟩ = false) /\ GO (w.setCell ⟨gb, i, none⟩ L'.s.val) B v (g.set i L') /\ w.grownBy (w.setCell ⟨gb, i, none⟩ L'.s.val) (some gb) := by
 obtain ⟨gb, cap, hv, hB, hlt, hfr, hown, hgr⟩ := h.own.set1 encL_ok i 0 hi (by omega) L'.s.val L' rfl;rw [Nat.mul_one, Nat.add_zero] at hown hgr;have hvb : v.ownBlock = some gb := by rw [hv]; rfl
 refine ⟨gb, cap, hv, hlt, hfr, ⟨hown, fun L hL' => ?_, ?_, ?_, ?_⟩, hgr⟩
 ·rcases List.mem_or_eq_of_mem_set hL' with q | rfl
  ·exact (h.lv L q).keep fun k hk hkl => hgr.block k hkl (by simp only [ne_eq, zO]; rintro rfl; exact h.ao L q k hk hvb)
  ·exact hL.keep fun k hk hkl => hgr.block k hkl (by simp only [ne_eq, zO]; rintro rfl; exact (hb k hk).1 hvb)
 ·intro a b ha hb' hab k hk;rw [zL] at ha hb';rw [List.getElem_set] at hk |-;by_cases e1 : i = a
  ·rw [if_pos e1] at hk;rw [if_neg (by omega)];exact (hb k hk).2 b hb' (by omega)
  ·rw [if_neg e1] at hk;by_cases e2 : i = b
   ·rw [if_pos e2];exact fun q => (hb k q).2 a ha (fun e => e1 e.symm) hk
   ·rw [if_neg e2]; exact h.ap a b ha hb' hab k hk
 ·intro L hL' k hk;rcases List.mem_or_eq_of_mem_set hL' with q | rfl
  ·exact h.ao L q k hk
  ·exact (hb k hk).1
 ·intro L hL' x hxm;have hfrm : Fr (fun k => ¬ (k ≠ gb)) w (w.setCell ⟨gb, i, none⟩ L'.s.val) := Fr.of_grown hgr fun k hk => by simp only [zO] at hk; simp [hk]
  have step : ∀ y, VtIn w (fun k => ¬ GB v (g.set i L') k) y -> VtIn (w.setCell ⟨gb, i, none⟩ L'.s.val) (fun k => ¬ GB v (g.set i L') k) y := fun y hy =>
   hy.keep hgr.size fun k hk hkl => hgr.block k hkl (by simp only [ne_eq, zO]; rintro rfl; exact hk (.inl hvb))
  apply step
  obtain ⟨j, hj, rfl⟩ := List.getElem_of_mem hL';rw [zL] at hj;rw [List.getElem_set] at hxm;by_cases e : i = j
  ·rw [if_pos e] at hxm; exact hx x hxm
  ·rw [if_neg e] at hxm;have h1 := h.nm _ (zM hj) x hxm;have h2 := ho j hj (fun q => e q.symm) x hxm
   exact (h1.and h2).mono fun k _ hk hn => by
    rcases GB.set hn with q | q
    ·exact hk.1 q
    ·exact hk.2 q
theorem GB.same {v : Value} {g : List Lv} {i : Nat} (hi : i < g.length) (vs : List Vt) {k : Nat} : GB v (g.set i ⟨vs, (g[i]).s⟩) k ↔ GB v g k := by
 constructor
 ·intro h;rcases GB.set h with q | q
  ·exact q
  ·exact .inr ⟨_, zM hi, q⟩
 ·rintro (h | ⟨L, hL, h⟩)
  ·exact .inl h
  ·obtain ⟨j, hj, rfl⟩ := List.getElem_of_mem hL;by_cases e : i = j
   ·subst e;exact .inr ⟨⟨vs, (g[i]).s⟩, List.mem_iff_getElem.2 ⟨i, by simpa using hj, by simp⟩, h⟩
   ·exact .inr ⟨g[j], List.mem_iff_getElem.2 ⟨j, by simpa using hj, by simp [List.getElem_set, e]⟩, h⟩
theorem GO.setV {w : World} {B : Nat} {v : Value} {g : List Lv} (h : GO w B v g) (i : Nat) (hi : i < g.length) (j : Nat) (hj : j < (g[i]).vs.length) (o : Nat) (ho : o < 3) (u : Value) (x' : Vt) (he : encV x' = (encV ((g[i]).vs[j])).set o u)
  (hx : VtIn w (fun k => ¬ GB v g k) x') :
  ∃ nb cap, (g[i]).s.val = .slice (some ⟨nb, 0, none⟩) (g[i]).vs.length cap /\ nb < w.heap.size /\ (∀ i, w.frozen? ⟨nb, i, none⟩ = false) /\ GO (w.setCell ⟨nb, j * 3 + o, none⟩ u) B v (g.set i ⟨(g[i]).vs.set j x', (g[i]).s⟩) /\ w.grownBy (w.setCell ⟨nb, j * 3 + o, none⟩ u) (some nb) := by
 obtain ⟨nb, cap, hv, hB, hlt, hfr, hown, hgr⟩ := (h.lv _ (zM hi)).set1 encV_ok j o hj ho u x' he;have hnb : (g[i]).s.val.ownBlock = some nb := by rw [hv]; rfl
 have hGB : GB v g nb := .inr ⟨_, zM hi, hnb⟩;refine ⟨nb, cap, hv, hlt, hfr, ⟨?_, fun L hL' => ?_, ?_, ?_, ?_⟩, hgr⟩
 ·have h1 := h.own.keep (w' := w.setCell ⟨nb, j * 3 + o, none⟩ u) fun k hk hkl => hgr.block k hkl (by simp only [ne_eq, zO]; rintro rfl; exact h.ao _ (zM hi) k hnb hk)
  have e : (g.set i ⟨(g[i]).vs.set j x', (g[i]).s⟩).flatMap encL = g.flatMap encL := by
   have := flat_set encL_ok (⟨(g[i]).vs.set j x', (g[i]).s⟩ : Lv) (g[i]).s.val 0 (by omega) g i hi rfl;rw [this, Nat.mul_one, Nat.add_zero];apply List.ext_getElem?
   intro q;rw [List.getElem?_set];by_cases eq : i = q
   ·subst eq;have hl : i < (g.flatMap encL).length := (by rw [flat_len encL_ok]; omega);rw [if_pos rfl, if_pos hl];have := flat_at encL_ok g i 0 hi (by omega);rw [Nat.mul_one, Nat.add_zero] at this;rw [this]; rfl
   ·rw [if_neg eq]
  unfold Slc.Own at h1 |-;rw [zL, e]; exact h1
 ·obtain ⟨q, hq, rfl⟩ := List.getElem_of_mem hL';rw [zL] at hq;rw [List.getElem_set];by_cases e : i = q
  ·subst e; rw [if_pos rfl]; exact hown
  ·rw [if_neg e];exact (h.lv _ (zM hq)).keep fun k hk hkl => hgr.block k hkl (by simp only [ne_eq, zO]; rintro rfl; exact h.ap i q hi hq e k hnb hk)
 ·intro a b ha hb' hab k hk;rw [zL] at ha hb'
  have e1 : ∀ (q : Nat) (hq : q < g.length), ((g.set i ⟨(g[i]).vs.set j x', (g[i]).s⟩)[q]'(by simpa using hq)).s = (g[q]).s := by
   intro q hq;rw [List.getElem_set];split
   ·rename_i e; subst e; rfl
   ·rfl
  rw [e1 a ha] at hk;rw [e1 b hb'];exact h.ap a b ha hb' hab k hk
 ·intro L hL' k hk;rcases List.mem_or_eq_of_mem_set hL' with q | rfl
  ·exact h.ao L q k hk
  ·exact h.ao _ (zM hi) k hk
 ·intro L hL' x hxm
  have step : ∀ y, VtIn w (fun k => ¬ GB v g k) y -> VtIn (w.setCell ⟨nb, j * 3 + o, none⟩ u) (fun k => ¬ GB v (g.set i ⟨(g[i]).vs.set j x', (g[i]).s⟩) k) y := fun y hy =>
   (hy.keep hgr.size fun k hk hkl => hgr.block k hkl (by simp only [ne_eq, zO]; rintro rfl; exact hk hGB)).mono fun k _ hk hn => hk ((GB.same hi _).1 hn)
  apply step
  rcases List.mem_or_eq_of_mem_set hL' with q | rfl
  ·exact h.nm L q x hxm
  ·rcases List.mem_or_eq_of_mem_set hxm with q | rfl
   ·exact h.nm _ (zM hi) x q
   ·exact hx
theorem GO.cellL {w : World} {B : Nat} {ad : Option Addr} {n c : Nat} {g : List Lv} (h : GO w B (.slice ad n c) g) (i : Nat) (hi : i < g.length) : ∃ gb, ad = some ⟨gb, 0, none⟩ /\ w.cell? ⟨gb, i, none⟩ = some (g[i]).s.val /\ (∀ j, w.frozen? ⟨gb, j, none⟩ = false) := by
 obtain ⟨gb, cap, hv, -, -, hfr, -, -⟩ := h.own.set1 encL_ok i 0 hi (by omega) (g[i]).s.val (g[i]) rfl;simp only [Value.slice.injEq] at hv
 obtain ⟨rfl, rfl, rfl⟩ := hv;have := h.own.cell encL_ok i hi 0 (by omega) _ rfl;rw [Nat.mul_one, Nat.add_zero] at this;exact ⟨gb, rfl, this, hfr⟩
end Go.Proofs.YtmagjdocondmhaaGreat.Tr.Gr
namespace Go.Proofs.YtmagjdocondmhaaGreat.Mp
open Go Go.RowKit Go.Maps Go.ChangeMaps Go.MapKept
section
variable {P : Program} {kt e t : TypeId} {K γ : Type} {ed : γ -> DW} {Y : Ky P kt K} {R : Value -> Option (DW × List MemPlace)} {w : World} {b n : Nat} {f : K -> Option γ}
theorem OwnF.clearM (h : OwnF w Y R ed b n f) (ht : P.underlying t = some (.map kt e)) : ∃ w', (∀ ty, (Builtin.clear_ #[t] ty #[.map (some b)]).run P w = .ok (.tuple #[]) w') /\ OwnF w' Y R ed b 0 (fun _ => none) /\ w.grownBy w' (some b) := by
 obtain ⟨D, ⟨es, clock, hb, F, hs, hD⟩, hf⟩ := h;refine ⟨setBlock w b (.map #[] clock), fun ty => ?_, ⟨.map [], ⟨#[], clock, heap_setBlock_same hb _, ⟨by simp, stamped_empty clock, by simp⟩, zR _, rfl⟩, IsF.empty Y ed⟩, ⟨rfl, rfl, rfl, by simp [setBlock], fun i _ hi => heap_setBlock_other hb _ (fun e => hi (by rw [e]))⟩⟩;simp [Builtin.clear_, run_underlying ht, MapKept.run_getObj_map hb, MapKept.run_setObj_map _ hb, Result.andThen, setBlock]
end
section
variable {P : Program} {kt e t : TypeId} {γ : Type} {ed : γ -> DW} {R : Value -> Option (DW × List MemPlace)} {w : World} {b n : Nat}
theorem OwnF.lenI {hk : P.underlying kt = some (.int .i64)} {f : Int -> Option γ} (h : OwnF w (kyInt hk) R ed b n f) (ht : P.underlying t = some (.map kt e)) (ks : List Int) (hn : ks.Nodup) (hm : ∀ k, k ∈ ks ↔ (f k).isSome = true) (ty : TypeId) :
  (Builtin.len_ #[t] ty #[.map (some b)]).run P w = .ok (.int .i64 ks.length) w := by
 obtain ⟨D, hown, hf⟩ := h;rw [hown.len ht ty]
 have hp : ks.Perm (intKeys D) := CollectedI.perm (left := fun _ => false) ⟨hn, fun x => by
  have h1 : Maps.has D (.int .i64 x) = (f x).isSome := hf.has_ x
  rw [h1, hm]; simp⟩ hown (int_keyed hk) hk fun _ => rfl
 have : ks.length = Maps.size D := by
  rw [hp.length_eq];obtain ⟨es, clock, -, -, -, rfl⟩ := hown;simp [intKeys, Maps.size]
 rw [this]
end
end Go.Proofs.YtmagjdocondmhaaGreat.Mp
namespace Go.Proofs.YtmagjdocondmhaaGreat.Tr.Gr
open Go Go.RowKit Slc St Mp Tr
attribute [local go_sem] Oper.semAt_some
def Vx.Oq (n : Vx) : Prop := Few n.ex /\ n.pol.length <= 1000000 /\ n.par.length <= 100000
def VqAt (w : World) (x : Vt) : Prop := Rq w x.u.val x.n.ex /\ Ri w x.q.val x.n.par /\ Vx.Oq x.n
theorem VqAt.below {w w' : World} {x : Vt} (h : VqAt w x) (hb : Below w.heap.size w w') : VqAt w' x := ⟨h.1.below hb, h.2.1.below hb, h.2.2⟩
theorem VtAt.q {w : World} {x : Vt} (h : VtAt w x) : VqAt w x := ⟨.inr h.1.1, h.2.1, h.2.2.1, h.2.2.2.1, h.2.2.2.2.1⟩
structure VQ (w : World) (v : Value) (l : List Vt) : Prop where
 rd : RqIn w (fun k => k < w.heap.size) encV v l
 at_ : ∀ x ∈ l, VqAt w x
theorem VQ.below {w w' : World} {v : Value} {l : List Vt} (h : VQ w v l) (hb : Below w.heap.size w w') : VQ w' v l := ⟨(h.rd.below hb).all, fun x hx => (h.at_ x hx).below hb⟩
theorem VL.q {w : World} {v : Value} {l : List Vt} (h : VL w v l) : VQ w v l := ⟨.inr ⟨h.rd, h.rd.lt⟩, fun x hx => (h.at_ x hx).q⟩
theorem VQ.at3 {w : World} {ad : Option Addr} {n c : Nat} {l : List Vt} (h : VQ w (.slice ad n c) l) (W : World) (hW : Below w.heap.size w W) (k : Nat) (hk : k < l.length) : ∃ b o, ad = some ⟨b, o, none⟩ /\ b < w.heap.size /\ W.cell? ⟨b, o + k * 3, none⟩ = some (.string (bstr (l[k]).n.pol)) /\ W.cell? ⟨b, o + k * 3 + 1, none⟩ = some (l[k]).u.val /\ W.cell? ⟨b, o + k * 3 + 2, none⟩ = some (l[k]).q.val :=
 (vs_cells (h.rd.rd (by omega))).2 W (fun k hk _ => hW.block k hk) k hk
structure GQ (w : World) (v : Value) (g : List Lv) : Prop where
 rd : Rd w encL v g
 lv : ∀ L ∈ g, VQ w L.s.val L.vs
theorem GQ.below {w w' : World} {v : Value} {g : List Lv} (h : GQ w v g) (hb : Below w.heap.size w w') : GQ w' v g := ⟨h.rd.below hb, fun L hL => (h.lv L hL).below hb⟩
theorem GL.q {w : World} {v : Value} {g : List Lv} (h : GL w v g) : GQ w v g := ⟨h.rd, fun L hL => (h.lv L hL).q⟩
theorem GQ.at1 {w : World} {ad : Option Addr} {n c : Nat} {g : List Lv} (h : GQ w (.slice ad n c) g) (W : World) (hW : Below w.heap.size w W) (k : Nat) (hk : k < g.length) : ∃ b o, ad = some ⟨b, o, none⟩ /\ b < w.heap.size /\ W.cell? ⟨b, o + k, none⟩ = some (g[k]).s.val :=
 (ls_cells h.rd).2 W (fun k hk _ => hW.block k hk) k hk
def badV (v : Vx) (n : Nat) : Bool := !ascB v.ex || (!ascI v.par || (decide (v.par[0]! < 0) || decide (v.par[v.par.length - 1]! >= (n : Int))))
def gfitB (v : Vx) (ab : List Vx) : Bool := !badV v ab.length && (if specV v then decide (v.par.length = 1) && (specV (ab[(v.par[0]!).toNat]!) && onlyB v.ex) else !decide (anyP ∈ v.ex))
theorem ascI_pos {l : List Int} (h : ascI l = true) : 0 < l.length := by
 unfold ascI at h;rw [Bool.and_eq_true] at h
 cases l with
 | nil => simp at h
 | cons a b => simp
theorem par_in {l : List Int} {n : Nat} (ha : ascI l = true) (h0 : ¬ l[0]! < 0) (h1 : ¬ l[l.length - 1]! >= (n : Int)) : ∀ p ∈ l, 0 <= p /\ p < (n : Int) := by
 have hp := ascI_pos ha;unfold ascI at ha;simp only [Bool.and_eq_true, decide_eq_true_eq] at ha
 have hs := List.pairwise_iff_getElem.1 ha.1;rw [getElem!_pos l 0 hp] at h0;rw [getElem!_pos l _ (by omega)] at h1;intro p hm;obtain ⟨i, hi, rfl⟩ := List.getElem_of_mem hm;constructor
 ·rcases Nat.eq_zero_or_pos i with e | e
  ·subst e; omega
  ·have := hs 0 i hp hi e; omega
 ·rcases Nat.lt_or_ge i (l.length - 1) with e | e
  ·have := hs i (l.length - 1) hi (by omega) e; omega
  ·have : i = l.length - 1 := by omega
   subst this; omega
theorem gfits_any (w : World) (x : Vt) (av : Value) (ab : List Vt) (hx : VqAt w x) (ha : VQ w av ab) (hn : ab.length <= 100000) :
  Calls Tryz.prog 43 #[verV x, av] w fun e w' => e = .returned (.bool (gfitB x.n (vxs ab))) /\ Below w.heap.size w w' := by
 obtain ⟨ad, c, rfl, -⟩ := ha.rd.form;have HA := Bx.mk ha.at3;obtain ⟨R, hR⟩ : ∃ R, R = gfitB x.n (vxs ab) := ⟨_, rfl⟩
 rw [<- hR];unfold gfitB badV at hR;rw [vxs_len] at hR;have HR := Bx.mk hR;have HXS := Bx.mk (show ∀ k (hk : k < ab.length), (vxs ab)[k]! = (ab[k]).n from fun k hk => vxs_at ab k hk);obtain ⟨N, hN⟩ : ∃ N, N = ab.length := ⟨_, rfl⟩
 have HN := Bx.mk hN;rw [<- hN] at hn |-;rw [<- HN.out] at HR;have hX := hx;obtain ⟨hex, hpar, hok⟩ := hx;have HEX := Bx.mk (fun (W : World) (hW : Below w.heap.size w W) => hex.below hW);have HPA := Bx.mk (fun (W : World) (hW : Below w.heap.size w W) => hpar.below hW);have HOK := Bx.mk hok;have hsp := fun W => gspec_any x W
 unfold verV at hsp |-;obtain ⟨pa, pc, hpq, -⟩ := RqIn.form hpar;obtain ⟨ua, uc, hup, -⟩ := hex.form;rw [hpq] at HPA hsp |-;rw [hup] at HEX hsp |-;have HPC := Bx.mk (Ri.cells (hpq ▸ hpar));obtain ⟨PN, hPN⟩ : ∃ PN, PN = x.n.par.length := ⟨_, rfl⟩
 have HPN := Bx.mk hPN;have hPb : PN <= 100000 := by rw [hPN]; exact hok.2.2
 obtain ⟨UN, hUN⟩ : ∃ UN, UN = x.n.ex.length := ⟨_, rfl⟩
 have HUN := Bx.mk hUN;rw [<- hPN] at HPA hsp |-;rw [<- hUN] at HEX hsp |-;obtain ⟨W0, hW0⟩ : ∃ W0, W0 = w.alloc (.cells #[.string (bstr x.n.pol), .slice ua UN uc, .slice pa PN pc] 65) := ⟨_, rfl⟩
 have HB0 := Bx.mk (show Below w.heap.size w W0 by rw [hW0]; exact (Below.refl _ _).alloc (zR _) _);have HR0 := Bx.mk (show W0.heap[w.heap.size]? = some (.cells #[.string (bstr x.n.pol), .slice ua UN uc, .slice pa PN pc] 65 (0, 0)) by rw [hW0]; exact heap_alloc_new _ _);obtain ⟨q, hq⟩ : ∃ q, q = w.heap.size := ⟨_, rfl⟩
 have HC0 := Bx.mk (show ∀ W, Below W0.heap.size W0 W -> W.cell? ⟨q, 0, none⟩ = some (.string (bstr x.n.pol)) /\ W.cell? ⟨q, 1, none⟩ = some (.slice ua UN uc) /\ W.cell? ⟨q, 2, none⟩ = some (.slice pa PN pc) by
  intro W hW;have hr := (hW.block _ (lt_of_some HR0.out)).trans HR0.out;rw [hq];have m0 := cell_of_row _ _ 0 _ _ _ hr;have m1 := cell_of_row _ _ 1 _ _ _ hr;have m2 := cell_of_row _ _ 2 _ _ _ hr;simp only [List.getElem?_toArray, List.getElem?_cons_zero, List.getElem?_cons_succ] at m0 m1 m2
  exact ⟨m0, m1, m2⟩)
 have FIN := Bx.mk (show ∀ W, Below W0.heap.size W0 W -> Below w.heap.size w W from fun W hW => HB0.out.trans (hW.mono HB0.out.size));clear ha hR hN hX hex hpar hok hpq hup hPN hUN;have HSP := Bx.mk hsp;clear hsp;obtain ⟨c0, c1, c2⟩ := HC0.out W0 (Below.refl _ _);have hc := gascS_q W0 _ x.n.ex (HEX.out W0 HB0.out) (by have := HOK.out.1.1; omega);obtain ⟨A, hA⟩ : ∃ A, A = ascB x.n.ex := ⟨_, rfl⟩
 rw [<- hA] at hc HR;have HAA := Bx.mk hA;clear hA;generalize bstr x.n.pol = S at *;go_enter Tryz.func43, Tryz.ntmps43;go_upto_region 1 with fail
 rw [<- hW0, <- hq];clear hW0 hq;go_wp2_with fail
 go_at_call 91;refine hc.mono ?_;rintro e w1 ⟨rfl, hb1⟩;have HB1 := Bx.mk hb1;clear hc hb1 c0 c1 c2;obtain ⟨c0, c1, c2⟩ := HC0.out w1 HB1.out
 cases A with
 | false =>
  have HF := Bx.mk (show R = false by rw [HR.out]; rfl);go_wp2_with fail
  go_ret
  exact ⟨by rw [HF.out]; rfl, FIN.out _ HB1.out⟩
 | true =>
 have hc := gascI_any w1 _ x.n.par (HPA.out w1 (FIN.out _ HB1.out)) (by have := HPN.out; omega);obtain ⟨A2, hA2⟩ : ∃ A, A = ascI x.n.par := ⟨_, rfl⟩
 rw [<- hA2] at hc HR;have HA2 := Bx.mk hA2;clear hA2;go_wp2_with fail
 go_at_call 92;refine hc.mono ?_;rintro e w2 ⟨rfl, hb2⟩;have HB2 := Bx.mk (HB1.out.trans (hb2.mono HB1.out.size));clear hc hb2 c0 c1 c2;obtain ⟨c0, c1, c2⟩ := HC0.out w2 HB2.out
 cases A2 with
 | false =>
  have HF := Bx.mk (show R = false by rw [HR.out]; rfl);go_wp2_with fail
  go_ret
  exact ⟨by rw [HF.out]; rfl, FIN.out _ HB2.out⟩
 | true =>
 have hpos : 0 < PN := by rw [HPN.out]; exact ascI_pos HA2.out.symm
 obtain ⟨b, o, rfl, hbl, d0⟩ := HPC.out w2 (FIN.out _ HB2.out) 0 (by rw [<- HPN.out]; exact hpos);obtain ⟨b', o', hbo, -, d1⟩ := HPC.out w2 (FIN.out _ HB2.out) (PN - 1) (by rw [<- HPN.out]; omega);simp only [zO, Addr.mk.injEq, and_true] at hbo
 obtain ⟨rfl, rfl⟩ := hbo;have e0 : x.n.par[0]! = x.n.par[0]'(by rw [<- HPN.out]; exact hpos) := getElem!_pos _ _ _;have e1 : x.n.par[PN - 1]! = x.n.par[PN - 1]'(by rw [<- HPN.out]; omega) := getElem!_pos _ _ _;rw [<- e0] at d0;rw [<- e1] at d1;rw [<- HPN.out] at HR;simp only [Nat.add_zero] at d0
 obtain ⟨P0, hP0⟩ : ∃ P0, P0 = x.n.par[0]! := ⟨_, rfl⟩
 obtain ⟨P1, hP1⟩ : ∃ P1, P1 = x.n.par[PN - 1]! := ⟨_, rfl⟩
 rw [<- hP0] at d0 HR;rw [<- hP1] at d1 HR;have HP0 := Bx.mk hP0;have HP1 := Bx.mk hP1;clear e0 e1 hP0 hP1 hbl;have w1' : IntKind.i64.wrap ((PN : Int) - 1) = ((PN - 1 : Nat) : Int) := by rw [IntWalk.i64_in _ (by omega)]; omega
 have w2' : (PN : Int) - 1 = ((PN - 1 : Nat) : Int) := by omega
 have w3' : ((PN : Int) - 1).toNat = PN - 1 := by omega
 have w4' : 0 <= (PN : Int) - 1 /\ (PN : Int) - 1 < PN := by omega
 by_cases hlo : P0 < 0
 ·have t1 : decide (P0 < 0) = true := zT hlo;have HF := Bx.mk (show R = false by rw [HR.out, t1]; rfl);go_wp2_with fail
  go_ret;exact ⟨by rw [HF.out]; rfl, FIN.out _ HB2.out⟩
 have t1 : decide (P0 < 0) = false := zF hlo;by_cases hhi : P1 >= (N : Int)
 ·have t2 : decide (P1 >= (N : Int)) = true := zT hhi;have HF := Bx.mk (show R = false by rw [HR.out, t1, t2]; rfl);go_wp2_with fail
  go_ret;exact ⟨by rw [HF.out]; rfl, FIN.out _ HB2.out⟩
 have t2 : decide (P1 >= (N : Int)) = false := zF hhi;have HRR := Bx.mk (show R = (if specV x.n then decide (PN = 1) && (specV ((vxs ab)[P0.toNat]!) && onlyB x.n.ex) else !decide (anyP ∈ x.n.ex)) by rw [HR.out, t1, t2]; rfl);have HIN := Bx.mk (par_in HA2.out.symm (by rw [<- HP0.out]; exact hlo) (by rw [<- HPN.out, <- HP1.out]; exact hhi));have hsp := HSP.out w2;obtain ⟨SP, hSP⟩ : ∃ s, s = specV x.n := ⟨_, rfl⟩
 rw [<- hSP] at hsp HRR;clear hSP;go_wp2_with fail
 go_at_call 41;refine hsp.mono ?_;rintro e w3 ⟨rfl, hb3⟩;have HB3 := Bx.mk (HB2.out.trans (hb3.mono HB2.out.size));clear hsp hb3 c0 c1 c2 d0 d1;obtain ⟨c0, c1, c2⟩ := HC0.out w3 HB3.out
 cases SP with
 | false =>
  have hcn := contains_q w3 _ x.n.ex anyP (HEX.out w3 (FIN.out _ HB3.out)) (by have := HOK.out.1.1; omega);rw [anyP_str] at hcn;go_wp2_with fail
  go_at_call 48;refine hcn.mono ?_;rintro e w4 ⟨rfl, rfl⟩;clear hcn;go_wp2_with fail
  go_ret
  exact ⟨by rw [HRR.out]; rfl, FIN.out _ HB3.out⟩
 | true =>
  by_cases hone : PN = 1
  ·have h0N : 0 <= P0 /\ P0 < (N : Int) := HIN.out P0 (by
    rw [HP0.out, getElem!_pos _ 0 (by rw [<- HPN.out]; exact hpos)]
    exact zM _)
   obtain ⟨pp, rfl⟩ : ∃ pp : Nat, P0 = (pp : Int) := ⟨P0.toNat, by omega⟩
   have hpp : pp < N := by omega
   obtain ⟨b2, o2, rfl, -, a0, a1, a2⟩ := HA.out w3 (FIN.out _ HB3.out) pp (by rw [<- HN.out]; exact hpp);have HAX := Bx.mk (HXS.out pp (by rw [<- HN.out]; exact hpp));obtain ⟨y, hy⟩ : ∃ y, y = ab[pp]'(by rw [<- HN.out]; exact hpp) := ⟨_, rfl⟩
   rw [<- hy] at a0 a1 a2 HAX;have hsy := gspec_any y w3;unfold verV at hsy;simp only [Sl.val] at a1 a2 hsy
   obtain ⟨SY, hSY⟩ : ∃ s, s = specV y.n := ⟨_, rfl⟩
   rw [<- hSY] at hsy;have d0 := (HPC.out w3 (FIN.out _ HB3.out) 0 (by rw [<- HPN.out]; exact hpos));obtain ⟨b3, o3, hbo, -, d0⟩ := d0;simp only [zO, Addr.mk.injEq, and_true] at hbo
   obtain ⟨rfl, rfl⟩ := hbo;rw [<- getElem!_pos x.n.par 0 (by rw [<- HPN.out]; exact hpos), <- HP0.out, Nat.add_zero] at d0;have t3 : ((PN : Int) == 1) = true := by simp; omega
   have t4 : ((PN : Int) = 1) = True := by simp; omega
   have HRS := Bx.mk (show R = (SY && onlyB x.n.ex) by
    have : (vxs ab)[((pp : Nat) : Int).toNat]! = y.n := HAX.out
    rw [HRR.out, if_pos rfl, zT hone, Bool.true_and, this, hSY])
   clear hy hSY w1' w2' w3' w4' hone;go_wp2_with fail
   go_at_call 41;refine hsy.mono ?_;rintro e w4 ⟨rfl, hb4⟩;have HB4 := Bx.mk (HB3.out.trans (hb4.mono HB3.out.size));clear hsy hb4 c0 c1 c2 d0 a0 a1 a2;obtain ⟨c0, c1, c2⟩ := HC0.out w4 HB4.out
   cases SY with
   | false =>
    have HF := Bx.mk (show R = false by rw [HRS.out]; rfl);go_wp2_with fail
    go_ret
    exact ⟨by rw [HF.out]; rfl, FIN.out _ HB4.out⟩
   | true =>
    have hon := gonly_q w4 _ x.n.ex (HEX.out w4 (FIN.out _ HB4.out));have HF := Bx.mk (show R = onlyB x.n.ex by rw [HRS.out]; rfl);go_wp2_with fail
    go_at_call 42;refine hon.mono ?_;rintro e w5 ⟨rfl, rfl⟩;clear hon;go_wp2_with fail
    go_ret;exact ⟨by rw [HF.out]; rfl, FIN.out _ HB4.out⟩
  ·have t3 : ((PN : Int) == 1) = false := by simp; omega
   have t4 : ((PN : Int) = 1) = False := by simp; omega
   have HF := Bx.mk (show R = false by rw [HRR.out, if_pos rfl, zF hone]; rfl);clear w1' w2' w3' w4' hone;go_wp2_with fail
   go_ret;exact ⟨by rw [HF.out]; rfl, FIN.out _ HB3.out⟩
end Go.Proofs.YtmagjdocondmhaaGreat.Tr.Gr
