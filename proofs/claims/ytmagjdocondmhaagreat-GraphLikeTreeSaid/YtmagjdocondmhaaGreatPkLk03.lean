/- packed -/
import Derived.Test.YtmagjdocondmhaaGreatPkLk02
import Derived.Test.YtmagjdocondmhaaGreatShelf
import Derived.WalkLawsBesides
import Derived.BigRegion
import Derived.Deep.LoopGhost
import Derived.Shelf.SlSortCmp.QuietGrown
set_option linter.unusedVariables false
set_option linter.unusedSimpArgs false
set_option maxRecDepth 100000
set_option maxHeartbeats 64000000
namespace Go.Proofs.YtmagjdocondmhaaGreat.Tr
open Go Go.RowKit Go.Sort Slc St
attribute [local go_sem] Oper.semAt_some
def cmpI (a b : Int) : Int := if a < b then -1 else if b < a then 1 else 0
def cmpB (a b : B) : Int := if a < b then -1 else if b < a then 1 else 0
def or3 (a b c : Int) : Int := if a ≠ 0 then a else if b ≠ 0 then b else c
def befI (x y : Nd) : Int := or3 (cmpI x.d y.d) (cmpI x.p y.p) (cmpB x.pol y.pol)
def ltT (x y : Nd) : Bool := decide (befI x y < 0)
theorem cmpI_lt (a b : Int) : cmpI a b < 0 ↔ a < b := by 
 unfold cmpI;split
 ·simp [*]
 ·split <;> simp [*]
theorem cmpI_zero (a b : Int) : cmpI a b = 0 ↔ a = b := by 
 unfold cmpI;split
 ·constructor <;> intro h <;> omega
 ·split <;> (constructor <;> intro h <;> omega)
theorem ltB_irr (a : B) : ¬ a < a := List.lt_irrefl a
theorem leB_iff (a b : B) : a <= b ↔ ¬ b < a := Iff.rfl
theorem ltB_co {a b c : B} (h : ¬ a < b) (h' : ¬ b < c) : ¬ a < c := (leB_iff c a).1 (List.le_trans ((leB_iff c b).2 h') ((leB_iff b a).2 h))
theorem ltB_tr {a b c : B} (h : a < b) (h' : b < c) : a < c := List.lt_trans h h'
theorem eqB {a b : B} (h : ¬ a < b) (h' : ¬ b < a) : a = b := List.le_antisymm ((leB_iff a b).2 h') ((leB_iff b a).2 h)
theorem cmpB_lt (a b : B) : cmpB a b < 0 ↔ a < b := by
 unfold cmpB;split
 ·simp [*]
 ·split <;> simp [*]
theorem ltT_iff (x y : Nd) : ltT x y = true ↔ x.d < y.d \/ (x.d = y.d /\ (x.p < y.p \/ (x.p = y.p /\ x.pol < y.pol))) := by
 unfold ltT befI or3;rw [decide_eq_true_eq];by_cases h1 : cmpI x.d y.d = 0
 ·rw [if_neg (by simpa using h1)];have e1 := (cmpI_zero _ _).1 h1;by_cases h2 : cmpI x.p y.p = 0
  ·rw [if_neg (by simpa using h2)];have e2 := (cmpI_zero _ _).1 h2;rw [cmpB_lt];constructor
   ·intro h; exact .inr ⟨e1, .inr ⟨e2, h⟩⟩
   ·rintro (h | ⟨-, h | ⟨-, h⟩⟩)
    ·omega
    ·omega
    ·exact h
  ·rw [if_pos h2, cmpI_lt];have e2 : x.p ≠ y.p := fun e => h2 ((cmpI_zero _ _).2 e)
   constructor
   ·intro h; exact .inr ⟨e1, .inl h⟩
   ·rintro (h | ⟨-, h | ⟨h, -⟩⟩)
    ·omega
    ·exact h
    ·exact absurd h e2
 ·rw [if_pos h1, cmpI_lt];have e1 : x.d ≠ y.d := fun e => h1 ((cmpI_zero _ _).2 e)
  constructor
  ·intro h; exact .inl h
  ·rintro (h | ⟨h, -⟩)
   ·exact h
   ·exact absurd h e1
theorem ltT_false (x y : Nd) : ltT x y = false ↔ y.d < x.d \/ (x.d = y.d /\ (y.p < x.p \/ (x.p = y.p /\ ¬ x.pol < y.pol))) := by
 have h := ltT_iff x y
 cases q : ltT x y with
 | true =>
  rw [q] at h;have h := h.1 rfl;constructor
  ·intro e; cases e
  ·rintro (h1 | ⟨h1, h2 | ⟨h2, h3⟩⟩)
   ·rcases h with h | ⟨h, -⟩ <;> omega
   ·rcases h with h | ⟨-, h | ⟨h, -⟩⟩ <;> omega
   ·rcases h with h | ⟨-, h | ⟨-, h⟩⟩
    ·omega
    ·omega
    ·exact absurd h h3
 | false =>
  rw [q] at h;refine ⟨fun _ => ?_, fun _ => rfl⟩;have h : ¬ (x.d < y.d \/ (x.d = y.d /\ (x.p < y.p \/ (x.p = y.p /\ x.pol < y.pol)))) := fun hh => by have := h.2 hh; cases this
  by_cases a1 : y.d < x.d
  ·exact .inl a1
  ·by_cases a2 : x.d < y.d
   ·exact absurd (.inl a2) h
   ·refine .inr ⟨by omega, ?_⟩;by_cases a3 : y.p < x.p
    ·exact .inl a3
    ·by_cases a4 : x.p < y.p
     ·exact absurd (.inr ⟨by omega, .inl a4⟩) h
     ·exact .inr ⟨by omega, fun a5 => h (.inr ⟨by omega, .inr ⟨by omega, a5⟩⟩)⟩
theorem ltT_ord : Ord ltT where
 irr x := (ltT_false x x).2 (.inr ⟨rfl, .inr ⟨rfl, ltB_irr _⟩⟩)
 tr x y z h1 h2 := by
  rw [ltT_iff] at *;rcases h1 with h1 | ⟨h1, h1' | ⟨h1', h1''⟩⟩ <;> rcases h2 with h2 | ⟨h2, h2' | ⟨h2', h2''⟩⟩
  ·exact .inl (by omega)
  ·exact .inl (by omega)
  ·exact .inl (by omega)
  ·exact .inl (by omega)
  ·exact .inr ⟨by omega, .inl (by omega)⟩
  ·exact .inr ⟨by omega, .inl (by omega)⟩
  ·exact .inl (by omega)
  ·exact .inr ⟨by omega, .inl (by omega)⟩
  ·exact .inr ⟨by omega, .inr ⟨by omega, ltB_tr h1'' h2''⟩⟩
 co x y z h1 h2 := by
  rw [ltT_false] at *;rcases h1 with h1 | ⟨h1, h1' | ⟨h1', h1''⟩⟩ <;> rcases h2 with h2 | ⟨h2, h2' | ⟨h2', h2''⟩⟩
  ·exact .inl (by omega)
  ·exact .inl (by omega)
  ·exact .inl (by omega)
  ·exact .inl (by omega)
  ·exact .inr ⟨by omega, .inl (by omega)⟩
  ·exact .inr ⟨by omega, .inl (by omega)⟩
  ·exact .inl (by omega)
  ·exact .inr ⟨by omega, .inl (by omega)⟩
  ·exact .inr ⟨by omega, .inr ⟨by omega, ltB_co h1'' h2''⟩⟩
def cfN (x y : Nt) : Int := befI x.n y.n
abbrev ltN : Nt -> Nt -> Bool := ltOf cfN
theorem ltN_ord : Ord ltN := ⟨fun x => ltT_ord.irr _, fun x y z h1 h2 => ltT_ord.tr _ _ _ h1 h2, fun x y z h1 h2 => ltT_ord.co _ _ _ h1 h2⟩
theorem less_bytes (a b : B) : Op.bytesLess (bstr a).toList (bstr b).toList = decide (a < b) := by
 rw [ByteArray.toList_eq, ByteArray.toList_eq, bytesLess_eq, bstr_list, bstr_list]
theorem same_bytes (a b : B) : ((bstr a).toList == (bstr b).toList) = decide (a = b) := by
 rw [ByteArray.toList_eq, ByteArray.toList_eq, bstr_list, bstr_list, Bool.eq_iff_iff]; simp
theorem cmp_any (w : World) (a b : Int) :
  Calls Tryz.prog 133 #[.int .i64 a, .int .i64 b] w fun e w' => e = .returned (.int .i64 (cmpI a b)) /\ w = w' := by
 have hnan : ∀ (x : Int) (W : World), Calls Tryz.prog 159 #[.int .i64 x] W fun e w' => e = .returned (.bool false) /\ W = w' := by
  intro x W;have t0 : (x != x) = false := by simp
  go_enter Tryz.func159, Tryz.ntmps159;go_wp2
  go_ret;exact ⟨rfl, rfl⟩
 have HN := Bx.mk hnan;clear hnan;by_cases h : a < b
 ·have hr : cmpI a b = -1 := by unfold cmpI; rw [if_pos h]
  rw [hr];have t0 : decide (a < b) = true := by simpa using h
  clear hr h;go_enter Tryz.func133, Tryz.ntmps133;go_wp2_with (go_at_call 159; refine (HN.out _ _).mono ?_; rintro e w' ⟨rfl, rfl⟩)
  go_ret;exact ⟨rfl, rfl⟩
 ·have t0 : decide (a < b) = false := by simpa using h
  by_cases h2 : b < a
  ·have hr : cmpI a b = 1 := by unfold cmpI; rw [if_neg h, if_pos h2]
   rw [hr];have t1 : decide (a > b) = true := by simpa using h2
   clear hr h h2;go_enter Tryz.func133, Tryz.ntmps133;go_wp2_with (go_at_call 159; refine (HN.out _ _).mono ?_; rintro e w' ⟨rfl, rfl⟩)
   go_ret;exact ⟨rfl, rfl⟩
  ·have hr : cmpI a b = 0 := by unfold cmpI; rw [if_neg h, if_neg h2]
   rw [hr];have t1 : decide (a > b) = false := by simpa using h2
   clear hr h h2;go_enter Tryz.func133, Tryz.ntmps133;go_wp2_with (go_at_call 159; refine (HN.out _ _).mono ?_; rintro e w' ⟨rfl, rfl⟩)
   go_ret;exact ⟨rfl, rfl⟩
theorem cmpS_any (w : World) (a b : B) :
  Calls Tryz.prog 134 #[.string (bstr a), .string (bstr b)] w fun e w' => e = .returned (.int .i64 (cmpB a b)) /\ w = w' := by
 have hnan : ∀ (x : ByteArray) (W : World), Calls Tryz.prog 160 #[.string x] W fun e w' => e = .returned (.bool false) /\ W = w' := by
  intro x W;have t0 : (x.toList == x.toList) = true := by simp
  go_enter Tryz.func160, Tryz.ntmps160;go_wp2
  go_ret;exact ⟨rfl, rfl⟩
 have HN := Bx.mk hnan;have l1 := less_bytes a b;have l2 := less_bytes b a;have l3 := same_bytes a b;clear hnan;by_cases h : a < b
 ·have hr : cmpB a b = -1 := by unfold cmpB; rw [if_pos h]
  rw [hr];rw [zT h] at l1;clear hr h l2 l3;generalize bstr a = X at *;generalize bstr b = Y at *;go_enter Tryz.func134, Tryz.ntmps134;go_wp2_with (go_at_call 160; refine (HN.out _ _).mono ?_; rintro e w' ⟨rfl, rfl⟩)
  go_ret;exact ⟨rfl, rfl⟩
 ·rw [zF h] at l1;by_cases h2 : b < a
  ·have hr : cmpB a b = 1 := by unfold cmpB; rw [if_neg h, if_pos h2]
   rw [hr];rw [zT h2] at l2;rw [zF (fun e => by subst e; exact h h2)] at l3;clear hr h h2;generalize bstr a = X at *;generalize bstr b = Y at *;go_enter Tryz.func134, Tryz.ntmps134;go_wp2_with (go_at_call 160; refine (HN.out _ _).mono ?_; rintro e w' ⟨rfl, rfl⟩)
   go_ret;exact ⟨rfl, rfl⟩
  ·have hr : cmpB a b = 0 := by unfold cmpB; rw [if_neg h, if_neg h2]
   rw [hr];rw [zF h2] at l2;rw [zT (eqB h h2)] at l3;clear hr h h2;generalize bstr a = X at *;generalize bstr b = Y at *;go_enter Tryz.func134, Tryz.ntmps134;go_wp2_with (go_at_call 160; refine (HN.out _ _).mono ?_; rintro e w' ⟨rfl, rfl⟩)
   go_ret;exact ⟨rfl, rfl⟩
structure Gx (w : World) where
 out : World
 is : ∃ q os, out = grow (w.drewN q) os
theorem grow_empty (w : World) : grow w #[] = w := by unfold grow; simp
def Gx.self (w : World) : Gx w := ⟨w, 0, #[], by rw [grow_empty]; rfl⟩
instance Gx.some (w : World) : Nonempty (Gx w) := ⟨Gx.self w⟩
theorem Gx.cell {w : World} (e : Gx w) {b o : Nat} (h : b < w.heap.size) : e.out.cell? ⟨b, o, none⟩ = w.cell? ⟨b, o, none⟩ := by
 obtain ⟨out, q, os, rfl⟩ := e;exact World.cell?_of_block (w := w) (heap_grow_old _ _ (by simpa using h))
theorem gx_of_same {P : Program} {f : FuncId} {args : Array Value} {w : World} {e : Gx w} {v : Value}
  (h : Calls P f args e.out fun r w' => r = .returned v /\ e.out = w') : Calls P f args e.out fun r w'' => r = .returned v /\ ∃ e' : Gx w, w'' = e'.out :=
 h.mono fun _ _ ⟨he, hb⟩ => ⟨he, e, hb.symm⟩
theorem Gx.alloc {w : World} (e : Gx w) (o : Obj) : ∃ q os, e.out.alloc o = grow (w.drewN q) os := by
 obtain ⟨out, q, os, rfl⟩ := e;exact ⟨q, _, by rw [alloc_eq_grow, grow_grow]⟩
theorem wp_region_gx_tail {P : Program} {id : Nat} {Q : Exit -> Act -> World -> Prop} {a : Act} {w : World} (n : Nat) {l h t : List Oper} (hm : P.follows .mixedOrders = true) (hB : Region.lexTailB .any l.toArray n = true)
  (hh : l.take n = h) (ht : l.drop n = t)
  (H : wpQuiet P l.toArray (fun w' => ∃ e : Gx w, w' = e.out) (fun a' => ∀ w', (∃ e : Gx w, w' = e.out) -> wpList P l.toArray Q t a' w') h a) : (Code.region id l.toArray true).wp P Q a w := by
 subst hh ht;exact wp_region_tail n hm hB ⟨⟨{ w with drawn := w.drawn + 1 }, 1, #[], by rw [grow_empty]; rfl⟩, rfl⟩ H
theorem or_any (w : World) (b : Nat) (x y z : Int) (h : w.heap[b]? = some (.cells #[.int .i64 x, .int .i64 y, .int .i64 z] 3 (0, 0))) :
  Calls Tryz.prog 132 #[.slice (some ⟨b, 0, none⟩) 3 3] w fun e w' => e = .returned (.int .i64 (or3 x y z)) /\ w = w' := by
 obtain ⟨R, hR⟩ : ∃ R, R = or3 x y z := ⟨_, rfl⟩
 rw [<- hR];have HR := Bx.mk hR;have c0 := cell_of_row _ _ 0 _ _ _ h;have c1 := cell_of_row _ _ 1 _ _ _ h;have c2 := cell_of_row _ _ 2 _ _ _ h;simp only [List.getElem?_toArray, List.getElem?_cons_zero, List.getElem?_cons_succ] at c0 c1 c2
 clear h hR;go_enter Tryz.func132, Tryz.ntmps132;go_wp2
 go_loop [8] (fun i => ∃ k : Nat, k <= 3 /\ i = .int .i64 k /\ Bx ((0 < k -> x = 0) /\ (1 < k -> y = 0) /\ (2 < k -> z = 0))) (fun i => 3 - (intOf i).toNat)
 case atStart => exact ⟨0, by omega, rfl, ⟨fun h => by omega, fun h => by omega, fun h => by omega⟩⟩
 case round =>
  obtain ⟨k, hk, rfl, hz⟩ := hrel;have hc : k = 0 \/ k = 1 \/ k = 2 \/ k = 3 := by omega
  rcases hc with rfl | rfl | rfl | rfl
  ·by_cases h0 : x = 0
   ·have t0 : (x != 0) = false := by simp [h0]
    have HN := Bx.mk h0;clear h0;go_wp2
    go_round
    case rel => exact ⟨1, by omega, rfl, ⟨fun _ => HN.out, fun h => by omega, fun h => by omega⟩⟩
    case measure => simp [intOf]
   ·have t0 : (x != 0) = true := by simpa using h0
    have HE := Bx.mk (show R = x by rw [HR.out, or3, if_pos h0]);clear h0;go_wp2
    go_ret;exact ⟨by rw [show R = _ from HE.out]; rfl, rfl⟩
  ·by_cases h0 : y = 0
   ·have t0 : (y != 0) = false := by simp [h0]
    have HN := Bx.mk h0;clear h0;go_wp2
    go_round
    case rel => exact ⟨2, by omega, rfl, ⟨fun _ => hz.out.1 (by omega), fun _ => HN.out, fun h => by omega⟩⟩
    case measure => simp [intOf]
   ·have t0 : (y != 0) = true := by simpa using h0
    have HE := Bx.mk (show R = y by rw [HR.out, or3, if_neg (by simpa using hz.out.1 (by omega)), if_pos h0]);clear h0;go_wp2
    go_ret;exact ⟨by rw [show R = _ from HE.out]; rfl, rfl⟩
  ·by_cases h0 : z = 0
   ·have t0 : (z != 0) = false := by simp [h0]
    have HN := Bx.mk h0;clear h0;go_wp2
    go_round
    case rel => exact ⟨3, by omega, rfl, ⟨fun _ => hz.out.1 (by omega), fun _ => hz.out.2.1 (by omega), fun _ => HN.out⟩⟩
    case measure => simp [intOf]
   ·have t0 : (z != 0) = true := by simpa using h0
    have HE := Bx.mk (show R = z by rw [HR.out, or3, if_neg (by simpa using hz.out.1 (by omega)), if_neg (by simpa using hz.out.2.1 (by omega))]);clear h0;go_wp2
    go_ret;exact ⟨by rw [show R = _ from HE.out]; rfl, rfl⟩
  ·have HE := Bx.mk (show R = 0 by rw [HR.out, or3, if_neg (by simpa using hz.out.1 (by omega)), if_neg (by simpa using hz.out.2.1 (by omega))]; exact hz.out.2.2 (by omega));go_wp2
   go_ret;exact ⟨by rw [show R = _ from HE.out]; rfl, rfl⟩
theorem before_any (x y : Nt) (w : World) : Calls Tryz.prog 117 #[nodV x, nodV y] w fun e w' => e = .returned (.int .i64 (cfN x y)) /\ ∃ q os', w' = grow (w.drewN q) os' := by
 have HC1 := Bx.mk (fun W => cmp_any W x.n.d y.n.d);have HC2 := Bx.mk (fun W => cmp_any W x.n.p y.n.p);have HC3 := Bx.mk (fun W => cmpS_any W x.n.pol y.n.pol);obtain ⟨R, hR⟩ : ∃ R, R = cfN x y := ⟨_, rfl⟩
 have HR := Bx.mk (show R = or3 (cmpI x.n.d y.n.d) (cmpI x.n.p y.n.p) (cmpB x.n.pol y.n.pol) from hR);rw [<- hR];clear hR;unfold nodV;generalize cmpI x.n.d y.n.d = R1 at *;generalize cmpI x.n.p y.n.p = R2 at *;generalize cmpB x.n.pol y.n.pol = R3 at *;generalize x.u.val = U1 at *;generalize y.u.val = U2 at *;generalize x.n.d = D1 at *;generalize y.n.d = D2 at *;generalize x.n.p = P1 at *;generalize y.n.p = P2 at *;generalize bstr x.n.pol = S1 at *;generalize bstr y.n.pol = S2 at *;obtain ⟨p, hp⟩ : ∃ p, p = w.heap.size := ⟨_, rfl⟩
 obtain ⟨W2, hW2⟩ : ∃ W2, W2 = (w.alloc (.cells #[.int .i64 D1, .int .i64 P1, .string S1, U1] 111)).alloc (.cells #[.int .i64 D2, .int .i64 P2, .string S2, U2] 111) := ⟨_, rfl⟩
 have hr1 : W2.heap[p]? = some (.cells #[.int .i64 D1, .int .i64 P1, .string S1, U1] 111 (0, 0)) := by rw [hW2, hp, heap_alloc_old _ _ (by simp)]; exact heap_alloc_new _ _
 have hr2 : W2.heap[p + 1]? = some (.cells #[.int .i64 D2, .int .i64 P2, .string S2, U2] 111 (0, 0)) := by
  rw [hW2, hp];have := heap_alloc_new (w.alloc (.cells #[.int .i64 D1, .int .i64 P1, .string S1, U1] 111)) (.cells #[.int .i64 D2, .int .i64 P2, .string S2, U2] 111);rwa [World.size_alloc] at this
 have hg2 : ∃ q os', W2 = grow (w.drewN q) os' := ⟨0, _, by rw [hW2, alloc_eq_grow, alloc_eq_grow, grow_grow]; rfl⟩
 have l1 := lt_of_block hr1;have l2 := lt_of_block hr2;have a0 := cell_of_row _ _ 0 _ _ _ hr1;have a1 := cell_of_row _ _ 1 _ _ _ hr1;have a2 := cell_of_row _ _ 2 _ _ _ hr1;have b0 := cell_of_row _ _ 0 _ _ _ hr2;have b1 := cell_of_row _ _ 1 _ _ _ hr2;have b2 := cell_of_row _ _ 2 _ _ _ hr2;simp only [List.getElem?_toArray, List.getElem?_cons_zero, List.getElem?_cons_succ] at a0 a1 a2 b0 b1 b2
 have f0 : ∀ e : Gx W2, _ := fun e => (e.cell l1).trans a0
 have f1 : ∀ e : Gx W2, _ := fun e => (e.cell l1).trans a1
 have f2 : ∀ e : Gx W2, _ := fun e => (e.cell l1).trans a2
 have g0 : ∀ e : Gx W2, _ := fun e => (e.cell l2).trans b0
 have g1 : ∀ e : Gx W2, _ := fun e => (e.cell l2).trans b1
 have g2 : ∀ e : Gx W2, _ := fun e => (e.cell l2).trans b2
 have HG2 := Bx.mk hg2;clear a0 a1 a2 b0 b1 b2 hr1 hr2 hg2 l1 l2;go_enter Tryz.func117, Tryz.ntmps117;go_wp2_with fail
 rw [<- hW2]
 try rw [<- hp]
 clear hW2 hp;refine wp_region_gx_tail 15 (by kernel_rfl) (by kernel_rfl) rfl rfl ?_;simp only [List.take_succ_cons, List.take_zero, List.drop_succ_cons, List.drop_zero]
 repeat (go_big_quiet_step (fail))
 go_big_quiet_step ((go_at_call 133; exact gx_of_same (HC1.out _)))
 repeat (go_big_quiet_step (fail))
 go_big_quiet_step ((go_at_call 133; exact gx_of_same (HC2.out _)))
 repeat (go_big_quiet_step (fail))
 go_big_quiet_step ((go_at_call 134; exact gx_of_same (HC3.out _)))
 repeat (go_big_quiet_step (fail))
 refine wpQuiet_nil ?_;rintro _ ⟨e1, rfl⟩;have hal := e1.alloc (.cells #[.int .i64 R1, .int .i64 R2, .int .i64 R3] 3);have hor := or_any (e1.out.alloc (.cells #[.int .i64 R1, .int .i64 R2, .int .i64 R3] 3)) e1.out.heap.size R1 R2 R3 (heap_alloc_new _ _);rw [<- HR.out] at hor;have HAL := Bx.mk hal;clear hal f0 f1 f2 g0 g1 g2;go_wp2_with (go_at_call 132; refine hor.mono ?_; rintro e w9 ⟨rfl, rfl⟩)
 go_ret;refine ⟨rfl, ?_⟩;obtain ⟨q1, o1, h1⟩ := HG2.out;obtain ⟨q2, o2, h2⟩ := HAL.out;refine ⟨q1 + q2, o1 ++ o2, ?_⟩;rw [h2, h1]
 show grow (grow ((w.drewN q1).drewN q2) o1) o2 = _
 rw [grow_grow];simp [World.drewN, Nat.add_assoc]
end Go.Proofs.YtmagjdocondmhaaGreat.Tr
namespace Go.Proofs.YtmagjdocondmhaaGreat.Tr
open Go Go.RowKit Go.Sort Slc St
attribute [local go_sem] Oper.semAt_some
theorem swk_cells {w0 W : World} {blk off : Nat} {d0 dk : Array Nt} (R : RowK encN 4 w0 blk off d0) (hs : dk.size = d0.size) (S : SWK encN 4 w0 blk off dk W) (i : Nat) (hi : i < dk.size) (j : Nat) (u : Value) (hu : (encN dk[i]!)[j]? = some u) :
  W.cell? ⟨blk, off + i * 4 + j, none⟩ = some u /\ W.frozen? ⟨blk, off + i * 4 + j, none⟩ = false := by
 have hH := S.holds R.hblk R.hH hs
 have hj : j < 4 := by
  have h1 := (List.getElem?_eq_some_iff.1 hu).1;rw [R.hk] at h1; exact h1
 have hij : i * 4 + j < dk.size * 4 := by omega
 have := hH (i * 4 + j) (by rw [size_flatK]; exact hij);rw [get_flatK encN 4 dk (i * 4 + j) hij] at this;have e1 : (i * 4 + j) / 4 = i := by omega
 have e2 : (i * 4 + j) % 4 = j := by omega
 rw [e1, e2] at this;have e3 : (encN dk[i]!)[j]! = u := by rw [List.getElem!_eq_getElem?_getD, hu]; rfl
 rw [e3, <- Nat.add_assoc] at this;exact this
theorem cells4 (w : World) (b o : Nat) (x0 x1 x2 x3 : Value) : w.setCells b o [x0, x1, x2, x3] = (((w.setCell ⟨b, o, none⟩ x0).setCell ⟨b, o + 1, none⟩ x1).setCell ⟨b, o + 2, none⟩ x2).setCell ⟨b, o + 3, none⟩ x3 := rfl
theorem drew_setCell (w : World) (a : Addr) (v : Value) : w.drew.setCell a v = (w.setCell a v).drew := rfl
theorem encN_mk (d p : Int) (s : B) (e : List B) (a : Option Addr) (n c : Nat) : encN ⟨⟨d, p, s, e⟩, ⟨a, n, c⟩⟩ = [.int .i64 d, .int .i64 p, .string (bstr s), .slice a n c] := rfl
theorem swap_any {w0 : World} {blk off cap : Nat} {d0 : Array Nt} (R : RowK encN 4 w0 blk off d0) (dk : Array Nt) (W : World) (hs : dk.size = d0.size) (S : SWK encN 4 w0 blk off dk W) (P X M Y Q : List Nt) (hd : dk.toList = P ++ (X ++ (M ++ (Y ++ Q)))) (hXY : X.length = Y.length) (hsz : dk.size < 1000000000)
  {n a b k : Nat} (hn : n = dk.size) (ha : a = P.length) (hb : b = P.length + X.length + M.length) (hk : k = X.length) (fv : Value) :
  Calls Tryz.prog 173 #[.slice (some ⟨blk, off, none⟩) n cap, .int .i64 (a : Nat), .int .i64 (b : Nat), .int .i64 (k : Nat), fv] W fun e w' =>
   e = .returned (.tuple #[]) /\ ∃ dk' : Array Nt, dk'.toList = P ++ (Y ++ (M ++ (X ++ Q))) /\ SWK encN 4 w0 blk off dk' w' := by
 have hlen : dk.size = P.length + X.length + M.length + Y.length + Q.length := by rw [<- Array.length_toList, hd]; simp; omega
 have HS := Bx.mk S;have HD := Bx.mk hd;have HN := Bx.mk hn;clear S hd;go_enter Tryz.func173, Tryz.ntmps173;go_wp2
 go_loopw [10] (fun i wr => ∃ (Y1 X2 X1 Y2 : List Nt) (di : Array Nt), i = .int .i64 (Y1.length : Nat) /\ X1.length = Y1.length /\ X2.length = Y2.length /\ Y1.length + Y2.length = k /\ di.size = n /\ Bx (X = X1 ++ X2 /\ Y = Y1 ++ Y2 /\ di.toList = P ++ (Y1 ++ (X2 ++ (M ++ (X1 ++ (Y2 ++ Q)))))) /\ Bx (SWK encN 4 w0 blk off di wr)) (fun i _ => k - (intOf i).toNat)
 case atStart => exact ⟨[], X, [], Y, dk, rfl, rfl, hXY, by simp; omega, hn.symm, ⟨rfl, rfl, by rw [HD.out]; simp⟩, HS⟩
 case round =>
  obtain ⟨Y1, X2, X1, Y2, di, rfl, h1, h2, h3, hdi, hB, hS⟩ := hrel;by_cases hlt : Y1.length < k
  ·obtain ⟨x, X2', rfl⟩ : ∃ x X2', X2 = x :: X2' := by
    cases X2 with
    | nil => simp at h2; omega
    | cons x l => exact ⟨x, l, rfl⟩
   obtain ⟨y, Y2', rfl⟩ : ∃ y Y2', Y2 = y :: Y2' := by
    cases Y2 with
    | nil => simp at h2
    | cons y l => exact ⟨y, l, rfl⟩
   obtain ⟨⟨xd, xp, xs, xe⟩, ⟨xa, xb, xc⟩⟩ := x;obtain ⟨⟨yd, yp, ys, ye⟩, ⟨ya, yb, yc⟩⟩ := y;obtain ⟨i, hi⟩ : ∃ i, i = Y1.length := ⟨_, rfl⟩
   rw [<- hi] at hlt |-;have HI := Bx.mk hi;have hXl := congrArg List.length hB.out.1;simp only [List.length_append, List.length_cons] at hXl h2 h3
   obtain ⟨u, hu⟩ : ∃ u, u = a + i := ⟨_, rfl⟩
   obtain ⟨v, hv⟩ : ∃ v, v = b + i := ⟨_, rfl⟩
   have hul : u < n := by omega
   have hvl : v < n := by omega
   have hsw := swp_step hB.out.2.2 (i := u) (j := v) (by omega) (by omega);have hgx : di[u]! = ⟨⟨xd, xp, xs, xe⟩, ⟨xa, xb, xc⟩⟩ := (get_list (A := P ++ Y1) (B := X2' ++ (M ++ (X1 ++ ((⟨⟨yd, yp, ys, ye⟩, ⟨ya, yb, yc⟩⟩ :: Y2') ++ Q)))) (by rw [hB.out.2.2]; simp) (i := u) (by simp; omega)).1;have hgy : di[v]! = ⟨⟨yd, yp, ys, ye⟩, ⟨ya, yb, yc⟩⟩ := (get_list (A := P ++ (Y1 ++ ((⟨⟨xd, xp, xs, xe⟩, ⟨xa, xb, xc⟩⟩ :: X2') ++ (M ++ X1)))) (B := Y2' ++ Q) (by rw [hB.out.2.2]; simp) (i := v) (by simp; omega)).1;have hS2 := hS.out.swapped R u v (by omega) (by omega);rw [hgx, hgy, encN_mk, encN_mk, cells4, cells4] at hS2;simp only [drew_setCell] at hS2
   have HS2 := Bx.mk hS2;have hsd : di.size = d0.size := by omega
   have cx := fun (j : Nat) (q : Value) (hq : (encN ⟨⟨xd, xp, xs, xe⟩, ⟨xa, xb, xc⟩⟩)[j]? = some q) => swk_cells R hsd hS.out u (by omega) j q (by rw [hgx]; exact hq)
   have cy := fun (j : Nat) (q : Value) (hq : (encN ⟨⟨yd, yp, ys, ye⟩, ⟨ya, yb, yc⟩⟩)[j]? = some q) => swk_cells R hsd hS.out v (by omega) j q (by rw [hgy]; exact hq)
   obtain ⟨x0, fx0⟩ := cx 0 _ rfl;obtain ⟨x1, fx1⟩ := cx 1 _ rfl;obtain ⟨x2, fx2⟩ := cx 2 _ rfl;obtain ⟨x3, fx3⟩ := cx 3 _ rfl;obtain ⟨y0, fy0⟩ := cy 0 _ rfl;obtain ⟨y1, fy1⟩ := cy 1 _ rfl;obtain ⟨y2, fy2⟩ := cy 2 _ rfl;obtain ⟨y3, fy3⟩ := cy 3 _ rfl;have w1 : IntKind.i64.wrap ((a : Int) + (i : Int)) = (u : Int) := by rw [hu]; push_cast; exact IntWalk.i64_in _ (by omega)
   have w2 : IntKind.i64.wrap ((b : Int) + (i : Int)) = (v : Int) := by rw [hv]; push_cast; exact IntWalk.i64_in _ (by omega)
   have huv : u ≠ v := by omega
   have hh1 : X1.length + 1 = (Y1 ++ [(⟨⟨yd, yp, ys, ye⟩, ⟨ya, yb, yc⟩⟩ : Nt)]).length := by simp; omega
   have hh2 : X2'.length = Y2'.length := by omega
   have hh3 : i + 1 = (Y1 ++ [(⟨⟨yd, yp, ys, ye⟩, ⟨ya, yb, yc⟩⟩ : Nt)]).length := by simp; omega
   have hh4 : i + 1 + Y2'.length = k := by omega
   have HH := Bx.mk (And.intro hh1 (And.intro hh2 (And.intro hh3 hh4)));clear hh1 hh2 hh3 hh4;have hib : i < 1000000000 := by omega
   clear hu hv hgx hgy cx cy hS2 hi ha hb hk hn hs hsd hXY h1 h2 h3 hlen hXl;simp only [Nat.add_zero, Sl.val] at x0 fx0 y0 fy0 x3 y3
   have HDN := Bx.mk (show (swp di u v).toList = P ++ ((Y1 ++ [⟨⟨yd, yp, ys, ye⟩, ⟨ya, yb, yc⟩⟩]) ++ (X2' ++ (M ++ ((X1 ++ [⟨⟨xd, xp, xs, xe⟩, ⟨xa, xb, xc⟩⟩]) ++ (Y2' ++ Q))))) from hsw);clear hsw hS;go_wp2_with fail
   have mixed : Tryz.prog.follows .mixedOrders = true := by kernel_rfl
   go_big_region_o
   clear x0 x1 x2 x3 y0 y1 y2 y3 fx0 fx1 fx2 fx3 fy0 fy1 fy2 fy3;go_wp2
   go_roundw
   case rel =>
    obtain ⟨q1, q2, q3, q4⟩ := HH.out;obtain ⟨e1, e2, -⟩ := hB.out;refine ⟨Y1 ++ [⟨⟨yd, yp, ys, ye⟩, ⟨ya, yb, yc⟩⟩], X2', X1 ++ [⟨⟨xd, xp, xs, xe⟩, ⟨xa, xb, xc⟩⟩], Y2', swp di u v, by rw [<- q3]; go_num, by rw [<- q1]; simp, q2, by omega, by rw [size_swp]; exact hdi, ⟨by rw [e1]; simp, by rw [e2]; simp, HDN.out⟩, ⟨HS2.out⟩⟩
   case measure => simp [intOf]; omega
  ·obtain ⟨rfl, rfl⟩ : X2 = [] /\ Y2 = [] := by
    have : Y2.length = 0 := (by omega);exact ⟨List.eq_nil_of_length_eq_zero (by omega), List.eq_nil_of_length_eq_zero this⟩
   have hBo := hB.out;simp only [List.append_nil, List.nil_append] at hBo
   obtain ⟨e1, e2, e3⟩ := hBo;have HF := Bx.mk (show di.toList = P ++ (Y ++ (M ++ (X ++ Q))) by rw [e3, e1, e2]);clear e1 e2 e3;go_wp2
   go_end0
   exact ⟨rfl, di, HF.out, hS.out⟩
theorem rot_any {w0 : World} {blk off cap : Nat} {d0 : Array Nt} (R : RowK encN 4 w0 blk off d0) (dk : Array Nt) (W : World) (hs : dk.size = d0.size) (S : SWK encN 4 w0 blk off dk W) (P U V Q : List Nt) (hd : dk.toList = P ++ (U ++ (V ++ Q))) (hU : 0 < U.length) (hV : 0 < V.length) (hsz : dk.size < 1000000000)
  {n a m b : Nat} (hn : n = dk.size) (ha : a = P.length) (hm : m = P.length + U.length) (hb : b = P.length + U.length + V.length) (fv : Value) :
  Calls Tryz.prog 170 #[.slice (some ⟨blk, off, none⟩) n cap, .int .i64 (a : Nat), .int .i64 (m : Nat), .int .i64 (b : Nat), fv] W fun e w' =>
   e = .returned (.tuple #[]) /\ ∃ dk' : Array Nt, dk'.toList = P ++ (V ++ (U ++ Q)) /\ SWK encN 4 w0 blk off dk' w' := by
 have hlen : dk.size = P.length + U.length + V.length + Q.length := by rw [<- Array.length_toList, hd]; simp; omega
 have HS := Bx.mk S;have HD := Bx.mk hd;have HSD := Bx.mk (show n = d0.size by omega);have hnb : n < 1000000000 := by omega
 obtain ⟨i0, hi0⟩ : ∃ i0, i0 = U.length := ⟨_, rfl⟩
 obtain ⟨j0, hj0⟩ : ∃ j0, j0 = V.length := ⟨_, rfl⟩
 have w1 : IntKind.i64.wrap ((m : Int) - (a : Int)) = (i0 : Int) := by rw [IntWalk.i64_in _ (by omega)]; omega
 have w2 : IntKind.i64.wrap ((b : Int) - (m : Int)) = (j0 : Int) := by rw [IntWalk.i64_in _ (by omega)]; omega
 have HST := Bx.mk (show i0 = U.length /\ j0 = V.length /\ P.length + i0 = m /\ m + j0 <= n /\ dk.size = n by omega);have hmn : m <= n := by omega
 clear S hd hn ha hm hb hi0 hj0 hlen hs;go_enter Tryz.func170, Tryz.ntmps170;go_wp2_with fail
 clear w1 w2;go_loopw [10, 11] (fun iv jv wr => ∃ (i j : Nat) (S1 U' V' S2 : List Nt) (di : Array Nt), iv = .int .i64 (i : Nat) /\ jv = .int .i64 (j : Nat) /\ 0 < i /\ 0 < j /\ i <= m /\ m + j <= n /\ Bx (i = U'.length /\ j = V'.length /\ P.length + S1.length + i = m /\ di.size = n /\ di.toList = P ++ (S1 ++ (U' ++ (V' ++ (S2 ++ Q)))) /\ V ++ U = S1 ++ (V' ++ U') ++ S2) /\ Bx (SWK encN 4 w0 blk off di wr)) (fun iv jv _ => (intOf iv).toNat + (intOf jv).toNat)
 case atStart =>
  obtain ⟨e1, e2, e3, e4, e5⟩ := HST.out;exact ⟨i0, j0, [], U, V, [], dk, rfl, rfl, by omega, by omega, by omega, e4, ⟨e1, e2, by simpa using e3, e5, by rw [HD.out]; simp, by simp⟩, HS⟩
 case round =>
  obtain ⟨i, j, S1, U', V', S2, di, rfl, rfl, i0', j0', him, hjn, hB, hS⟩ := hrel;obtain ⟨x, hx⟩ : ∃ x, x = m - i := ⟨_, rfl⟩
  have hwx : IntKind.i64.wrap ((m : Int) - (i : Int)) = (x : Int) := by rw [IntWalk.i64_in _ (by omega)]; omega
  have HX := Bx.mk hx;clear hx;rcases Nat.lt_trichotomy i j with hij | hij | hij
  ·
   have t0 : ((i : Int) != (j : Int)) = true := by simp; omega
   have t1 : decide ((i : Int) > (j : Int)) = false := zF (by omega);have t1' : decide (j < i) = false := zF (by omega);obtain ⟨Va, Vb, hV2, hVa⟩ := split_len (l := V') (n := j - i) (by have := hB.out.2.1; omega);obtain ⟨y, hy⟩ : ∃ y, y = m + j - i := ⟨_, rfl⟩
   have hwy : IntKind.i64.wrap (IntKind.i64.wrap ((m : Int) + (j : Int)) - (i : Int)) = (y : Int) := by rw [IntWalk.i64_in ((m : Int) + j) (by omega), IntWalk.i64_in _ (by omega)]; omega
   have hwy2 : IntKind.i64.wrap ((m : Int) + (j : Int) - (i : Int)) = (y : Int) := by rw [IntWalk.i64_in _ (by omega)]; omega
   have hsw := swap_any R di wr (by have := hB.out.2.2.2.1; have := HSD.out; omega) hS.out (cap := cap) (P ++ S1) U' Va Vb (S2 ++ Q) (by rw [hB.out.2.2.2.2.1, hV2]; simp) (by have h1 := hB.out.1; have h2 := hB.out.2.1; rw [hV2, List.length_append] at h2; omega) (by have := hB.out.2.2.2.1; omega)
    (n := n) (a := x) (b := y) (k := i) hB.out.2.2.2.1.symm (by have h1 := hB.out; rw [List.length_append, HX.out]; omega) (by have h1 := hB.out; rw [List.length_append]; omega) hB.out.1 fv
   have hwj : IntKind.i64.wrap ((j : Int) - (i : Int)) = ((j - i : Nat) : Int) := by rw [IntWalk.i64_in _ (by omega)]; omega
   have HY := Bx.mk hy;have HV2 := Bx.mk (And.intro hV2 hVa);clear hy hV2 hVa hS;go_wp2_with fail
   refine hsw.mono ?_;rintro e w2 ⟨rfl, dk2, hdk, hS2⟩;have HDK := Bx.mk hdk;have HS2 := Bx.mk hS2;clear hsw hdk hS2 hwx hwy hwy2;go_wp2_with fail
   clear hwj;go_roundw
   case rel =>
    obtain ⟨b1, b2, b3, b4, b5, b6⟩ := hB.out;obtain ⟨v1, v2⟩ := HV2.out;have hvb : Vb.length = i := (by rw [v1, List.length_append] at b2; omega);refine ⟨i, j - i, S1, Vb, Va, U' ++ S2, dk2, rfl, rfl, i0', by omega, him, by omega, ⟨hvb.symm, v2.symm, b3, ?_, by rw [HDK.out]; simp, by rw [b6, v1]; simp⟩, HS2⟩;rw [<- b4, <- Array.length_toList, <- Array.length_toList, HDK.out, b5, v1];simp only [List.length_append]; omega
   case measure => simp [intOf]; omega
  ·
   subst hij;have t0 : ((i : Int) != (i : Int)) = false := by simp
   have hsw := swap_any R di wr (by have := hB.out.2.2.2.1; have := HSD.out; omega) hS.out (cap := cap) (P ++ S1) U' [] V' (S2 ++ Q) (by rw [hB.out.2.2.2.2.1]; simp) (by have h1 := hB.out; omega) (by have := hB.out.2.2.2.1; omega)
    (n := n) (a := x) (b := m) (k := i) hB.out.2.2.2.1.symm (by have h1 := hB.out; rw [List.length_append, HX.out]; omega) (by have h1 := hB.out; rw [List.length_append, List.length_nil]; omega) hB.out.1 fv
   clear hS;go_wp2_with fail
   refine hsw.mono ?_;rintro e w2 ⟨rfl, dk2, hdk, hS2⟩;have HDK := Bx.mk hdk;have HS2 := Bx.mk hS2;clear hsw hdk hS2 hwx;go_wp2_with fail
   go_end0
   refine ⟨rfl, dk2, ?_, HS2.out⟩;have e6 := hB.out.2.2.2.2.2;rw [HDK.out, <- List.append_assoc V U Q, e6]; simp
  ·
   have t0 : ((i : Int) != (j : Int)) = true := by simp; omega
   have t1 : decide ((i : Int) > (j : Int)) = true := zT (by omega);have t1' : decide (j < i) = true := zT (by omega);obtain ⟨Ua, Ub, hU2, hUa⟩ := split_len (l := U') (n := j) (by have := hB.out.1; omega)
   have hsw := swap_any R di wr (by have := hB.out.2.2.2.1; have := HSD.out; omega) hS.out (cap := cap) (P ++ S1) Ua Ub V' (S2 ++ Q) (by rw [hB.out.2.2.2.2.1, hU2]; simp) (by have h1 := hB.out.2.1; omega) (by have := hB.out.2.2.2.1; omega)
    (n := n) (a := x) (b := m) (k := j) hB.out.2.2.2.1.symm (by have h1 := hB.out; rw [List.length_append, HX.out]; omega) (by have h1 := hB.out; have h2 := congrArg List.length hU2; rw [List.length_append] at h2; rw [List.length_append]; omega) hUa.symm fv
   have hwj : IntKind.i64.wrap ((i : Int) - (j : Int)) = ((i - j : Nat) : Int) := by rw [IntWalk.i64_in _ (by omega)]; omega
   have HU2 := Bx.mk (And.intro hU2 hUa);clear hU2 hUa hS;go_wp2_with fail
   refine hsw.mono ?_;rintro e w2 ⟨rfl, dk2, hdk, hS2⟩;have HDK := Bx.mk hdk;have HS2 := Bx.mk hS2;clear hsw hdk hS2 hwx;go_wp2_with fail
   clear hwj;go_roundw
   case rel =>
    obtain ⟨b1, b2, b3, b4, b5, b6⟩ := hB.out;obtain ⟨v1, v2⟩ := HU2.out;have hub : Ub.length = i - j := (by rw [v1, List.length_append] at b1; omega);refine ⟨i - j, j, S1 ++ V', Ub, Ua, S2, dk2, rfl, rfl, by omega, j0', by omega, hjn, ⟨hub.symm, v2.symm, by rw [List.length_append]; omega, ?_, by rw [HDK.out]; simp, by rw [b6, v1]; simp⟩, HS2⟩;rw [<- b4, <- Array.length_toList, <- Array.length_toList, HDK.out, b5, v1];simp only [List.length_append]; omega
   case measure => simp [intOf]; omega
end Go.Proofs.YtmagjdocondmhaaGreat.Tr
namespace Go.Proofs.YtmagjdocondmhaaGreat.Tr
open Go Go.RowKit Go.Sort Slc St
attribute [local go_sem] Oper.semAt_some
abbrev cmpV : Value := .func (.func 117) #[] #[]
theorem swk_load {w0 W : World} {blk off : Nat} {d0 dk : Array Nt} (R : RowK encN 4 w0 blk off d0) (hs : dk.size = d0.size) (S : SWK encN 4 w0 blk off dk W) (i : Nat) (hi : i < dk.size) {d p : Int} {s : ByteArray} {a : Option Addr} {n c : Nat} (hx : encN dk[i]! = [.int .i64 d, .int .i64 p, .string s, .slice a n c]) (q : Nat) (os : Array Obj) :
  (grow (W.drewN q) os).cell? ⟨blk, off + i * 4, none⟩ = some (.int .i64 d) /\ (grow (W.drewN q) os).cell? ⟨blk, off + i * 4 + 1, none⟩ = some (.int .i64 p) /\ (grow (W.drewN q) os).cell? ⟨blk, off + i * 4 + 2, none⟩ = some (.string s) /\ (grow (W.drewN q) os).cell? ⟨blk, off + i * 4 + 3, none⟩ = some (.slice a n c) := by
 have key := fun (j : Nat) (u : Value) (hu : (encN dk[i]!)[j]? = some u) => (swk_cells R hs (S.grown q os) i hi j u hu).1
 rw [hx] at key;exact ⟨key 0 _ rfl, key 1 _ rfl, key 2 _ rfl, key 3 _ rfl⟩
theorem list_at {dk : Array Nt} {l0 A l B : List Nt} (h : dk.toList = l0) (e : l0 = A ++ (l ++ B)) {k i : Nat} (hi : i = A.length + k) (hk : k < l.length) : dk[i]! = l[k] := by
 have e2 : l0 = (A ++ l.take k) ++ l[k] :: (l.drop (k + 1) ++ B) := by
  rw [e, List.append_assoc, <- List.cons_append, <- List.drop_eq_getElem_cons hk, <- List.append_assoc (l.take k), List.take_append_drop]
 exact (get_list (by rw [h, e2]) (by rw [hi, List.length_append, List.length_take]; omega)).1
theorem swp_comm (d : Array Nt) (i j : Nat) : swp d i j = swp d j i := by
 unfold swp;by_cases h : i = j
 ·subst h; rfl
 ·exact Array.setIfInBounds_comm _ _ h
theorem enc_parts (x : Nt) : ∃ (d p : Int) (s : ByteArray) (a : Option Addr) (n c : Nat), encN x = [.int .i64 d, .int .i64 p, .string s, .slice a n c] /\ nodV x = .agg #[.int .i64 d, .int .i64 p, .string s, .slice a n c] := ⟨_, _, _, _, _, _, rfl, rfl⟩
theorem swk_two {w0 W : World} {blk off : Nat} {d0 dk : Array Nt} (R : RowK encN 4 w0 blk off d0) (hs : dk.size = d0.size) (S : SWK encN 4 w0 blk off dk W) (u v : Nat) (hu : u < dk.size) (hv : v < dk.size) :
  ∃ (xd xp : Int) (xs : ByteArray) (xa : Option Addr) (xn xc : Nat) (yd yp : Int) (ys : ByteArray) (ya : Option Addr) (yn yc : Nat),
   W.cell? ⟨blk, off + u * 4, none⟩ = some (.int .i64 xd) /\ W.cell? ⟨blk, off + u * 4 + 1, none⟩ = some (.int .i64 xp) /\ W.cell? ⟨blk, off + u * 4 + 2, none⟩ = some (.string xs) /\ W.cell? ⟨blk, off + u * 4 + 3, none⟩ = some (.slice xa xn xc) /\
   W.cell? ⟨blk, off + v * 4, none⟩ = some (.int .i64 yd) /\ W.cell? ⟨blk, off + v * 4 + 1, none⟩ = some (.int .i64 yp) /\ W.cell? ⟨blk, off + v * 4 + 2, none⟩ = some (.string ys) /\ W.cell? ⟨blk, off + v * 4 + 3, none⟩ = some (.slice ya yn yc) /\
   W.frozen? ⟨blk, off + u * 4, none⟩ = false /\ W.frozen? ⟨blk, off + u * 4 + 1, none⟩ = false /\ W.frozen? ⟨blk, off + u * 4 + 2, none⟩ = false /\ W.frozen? ⟨blk, off + u * 4 + 3, none⟩ = false /\
   W.frozen? ⟨blk, off + v * 4, none⟩ = false /\ W.frozen? ⟨blk, off + v * 4 + 1, none⟩ = false /\ W.frozen? ⟨blk, off + v * 4 + 2, none⟩ = false /\ W.frozen? ⟨blk, off + v * 4 + 3, none⟩ = false /\
   SWK encN 4 w0 blk off (swp dk u v) (((((((((W.setCell ⟨blk, off + u * 4, none⟩ (.int .i64 yd)).setCell ⟨blk, off + u * 4 + 1, none⟩ (.int .i64 yp)).setCell ⟨blk, off + u * 4 + 2, none⟩ (.string ys)).setCell ⟨blk, off + u * 4 + 3, none⟩ (.slice ya yn yc)).setCell ⟨blk, off + v * 4, none⟩ (.int .i64 xd)).setCell ⟨blk, off + v * 4 + 1, none⟩ (.int .i64 xp)).setCell ⟨blk, off + v * 4 + 2, none⟩ (.string xs)).setCell ⟨blk, off + v * 4 + 3, none⟩ (.slice xa xn xc)).drew) := by
 obtain ⟨xd, xp, xs, xa, xn, xc, ex, -⟩ := enc_parts dk[u]!;obtain ⟨yd, yp, ys, ya, yn, yc, ey, -⟩ := enc_parts dk[v]!;have cx := fun (j : Nat) (q : Value) (hq : (encN dk[u]!)[j]? = some q) => swk_cells R hs S u hu j q hq
 have cy := fun (j : Nat) (q : Value) (hq : (encN dk[v]!)[j]? = some q) => swk_cells R hs S v hv j q hq
 rw [ex] at cx;rw [ey] at cy;have h := S.swapped R u v (by omega) (by omega);rw [ex, ey, cells4, cells4] at h;simp only [drew_setCell] at h
 exact ⟨xd, xp, xs, xa, xn, xc, yd, yp, ys, ya, yn, yc, (cx 0 _ rfl).1, (cx 1 _ rfl).1, (cx 2 _ rfl).1, (cx 3 _ rfl).1, (cy 0 _ rfl).1, (cy 1 _ rfl).1, (cy 2 _ rfl).1, (cy 3 _ rfl).1, (cx 0 _ rfl).2, (cx 1 _ rfl).2, (cx 2 _ rfl).2, (cx 3 _ rfl).2, (cy 0 _ rfl).2, (cy 1 _ rfl).2, (cy 2 _ rfl).2, (cy 3 _ rfl).2, h⟩
theorem sym_one {w0 : World} {blk off cap : Nat} {d0 : Array Nt} (R : RowK encN 4 w0 blk off d0) (dk : Array Nt) (W : World) (hs : dk.size = d0.size) (S : SWK encN 4 w0 blk off dk W) (P L Q : List Nt) (x : Nt) (hd : dk.toList = P ++ (x :: (L ++ Q))) (h2 : 0 < L.length) (sl : Srt ltN L) (hsz : dk.size < 1000000000)
  {n a m b : Nat} (hn : n = dk.size) (ha : a = P.length) (hm : m = a + 1) (hb : b = m + L.length) :
  Calls Tryz.prog 158 #[.slice (some ⟨blk, off, none⟩) n cap, .int .i64 (a : Nat), .int .i64 (m : Nat), .int .i64 (b : Nat), cmpV] W fun e w' =>
   e = .returned (.tuple #[]) /\ ∃ (dk' : Array Nt) (S' : List Nt), dk'.toList = P ++ (S' ++ Q) /\ Srt ltN S' /\ Stab ltN (x :: L) S' /\ SWK encN 4 w0 blk off dk' w' := by
 have hlen : dk.size = P.length + 1 + L.length + Q.length := by rw [<- Array.length_toList, hd]; simp; omega
 have HS := Bx.mk S;have HD := Bx.mk hd;have HSL := Bx.mk sl;have HSD := Bx.mk hs;have hnb : n < 1000000000 := by omega
 have hbn : b <= n := by omega
 have HL := Bx.mk (show b = m + L.length by omega);have HA := Bx.mk ha;have HM := Bx.mk hm;have HN := Bx.mk hn;have hma : m <= b := by omega
 have ham : a <= m := by omega
 have w1 : IntKind.i64.wrap ((m : Int) - (a : Int)) = 1 := by rw [IntWalk.i64_in _ (by omega)]; omega
 have hga : dk[a]! = x := (get_list (A := P) (B := L ++ Q) hd ha).1;have HGA := Bx.mk hga;clear S hd sl hs hb ha hm hn hlen hga;unfold cmpV;go_enter Tryz.func158, Tryz.ntmps158;go_wp2_with fail
 go_loopw [10, 11] (fun iv jv wr => ∃ (i j : Nat), iv = .int .i64 (i : Nat) /\ jv = .int .i64 (j : Nat) /\ m <= i /\ i <= j /\ j <= b /\ Bx (Lows ltN x L (i - m) (j - m)) /\ Bx (SWK encN 4 w0 blk off dk wr)) (fun iv jv _ => (intOf jv).toNat - (intOf iv).toNat)
 case atStart => exact ⟨m, b, rfl, rfl, by omega, by omega, by omega, ⟨by rw [HL.out, Nat.sub_self, Nat.add_sub_cancel_left]; exact Lows.start x L⟩, HS⟩
 case round =>
  obtain ⟨i, j, rfl, rfl, hmi, hij, hjb, hB, hS⟩ := hrel;by_cases hlt : i < j
  ·obtain ⟨h, hh⟩ : ∃ h, h = (i + j) / 2 := ⟨_, rfl⟩
   have hhi : i <= h := by omega
   have hhj : h < j := by omega
   have hhn : h < n := by omega
   have han : a < n := by omega
   have hgh : ∃ (hk : h - m < L.length), dk[h]! = L[h - m] := ⟨by have := HL.out; omega, by
    have := list_at HD.out (A := P ++ [x]) (l := L) (B := Q) (by simp) (k := h - m) (i := h) (by have := HA.out; have := HM.out; simp; omega) (by have := HL.out; omega)
    exact this⟩
   obtain ⟨hkL, hgh⟩ := hgh;obtain ⟨hd1, hp1, hs1, ha1, hn1, hc1, he1, hv1⟩ := enc_parts dk[h]!;obtain ⟨ad1, ap1, as1, aa1, an1, ac1, ae1, av1⟩ := enc_parts dk[a]!;have lh := fun q os => swk_load R HSD.out hS.out h (by rw [<- HN.out]; exact hhn) he1 q os
   have la := fun q os => swk_load R HSD.out hS.out a (by rw [<- HN.out]; exact han) ae1 q os
   have hcg := fun (q : Nat) (os : Array Obj) => before_any dk[h]! dk[a]! (grow (wr.drewN q) os)
   rw [hv1, av1] at hcg;have hq2 : ((i : Int) + (j : Int)) / 2 = (h : Int) := by omega
   have HH := Bx.mk hh;have hlv := HH;clear hh hv1 av1 he1 ae1 hlv;have HGH := Bx.mk hgh;have lh0 := fun q os => (lh q os).1
   have lh1 := fun q os => (lh q os).2.1
   have lh2 := fun q os => (lh q os).2.2.1
   have lh3 := fun q os => (lh q os).2.2.2
   have la0 := fun q os => (la q os).1
   have la1 := fun q os => (la q os).2.1
   have la2 := fun q os => (la q os).2.2.1
   have la3 := fun q os => (la q os).2.2.2
   clear lh la hgh;have mixed : Tryz.prog.follows .mixedOrders = true := by kernel_rfl
   have eg : ∀ args w, (callFunc 117 args).run Tryz.prog w = .ok (.enter 117 args) w := fun _ _ => rfl
   by_cases hlt2 : cfN dk[h]! dk[a]! < 0
   ·go_wp2_with fail
    go_quiet_grown (first | (go_at_fn 117; refine Calls.grown_of (hcg _ _)))
    go_wp2
    go_roundw
    case rel =>
     refine ⟨h + 1, j, by go_num, rfl, by omega, by omega, hjb, ⟨?_⟩, ⟨hS.out.grown _ _⟩⟩;rw [show h + 1 - m = h - m + 1 by omega];refine hB.out.up ltN_ord HSL.out (by omega) (by omega) ?_;rw [<- HGH.out, <- HGA.out]; exact zT hlt2
    case measure => simp [intOf]; omega
   ·go_wp2_with fail
    go_quiet_grown (first | (go_at_fn 117; refine Calls.grown_of (hcg _ _)))
    go_wp2
    go_roundw
    case rel =>
     refine ⟨i, h, rfl, rfl, hmi, hhi, by omega, ⟨?_⟩, ⟨hS.out.grown _ _⟩⟩;refine hB.out.down ltN_ord HSL.out (by omega) (by omega) ?_;rw [<- HGH.out, <- HGA.out]; exact zF (Int.not_lt.2 hlt2)
    case measure => simp [intOf]; omega
  ·obtain rfl : i = j := by omega
   go_wp2
   go_loopw [13] (fun kv wr => ∃ (k : Nat) (dj : Array Nt), kv = .int .i64 (k : Nat) /\ a <= k /\ k + 1 <= i /\ dj.size = n /\ Bx (dj.toList = P ++ ((L.take (k - a) ++ (x :: L.drop (k - a))) ++ Q)) /\ Bx (SWK encN 4 w0 blk off dj wr)) (fun kv _ => n - (intOf kv).toNat)
   case atStart => exact ⟨a, dk, rfl, by omega, by have := HM.out; omega, HN.out.symm, ⟨by rw [HD.out]; simp⟩, hS⟩
   case round =>
    obtain ⟨k, dj, rfl, hak, hki, hdj, hB2, hS2⟩ := hrel;have wi : IntKind.i64.wrap ((i : Int) - 1) = ((i - 1 : Nat) : Int) := (by rw [IntWalk.i64_in _ (by omega)]; omega);by_cases hk1 : k + 1 < i
    ·obtain ⟨u, hu⟩ : ∃ u, u = k + 1 := ⟨_, rfl⟩
     have wu : IntKind.i64.wrap ((k : Int) + 1) = (u : Int) := (by rw [IntWalk.i64_in _ (by omega)]; omega);have hkl : k - a < L.length := (by have := HM.out; have := HL.out; omega);have hun : u < n := by omega
     have hlist : dj.toList = (P ++ L.take (k - a)) ++ x :: ([] ++ L[k - a] :: (L.drop (k - a + 1) ++ Q)) := by
      rw [hB2.out]; simp only [List.append_assoc, List.nil_append, List.cons_append]; rw [List.drop_eq_getElem_cons hkl]; rfl
     have hswl := (swp_list hlist (i := k) (j := u) (by have := HA.out; simp; omega) (by have := HA.out; simp; omega)).1;have HSW := Bx.mk hswl;obtain ⟨xd, xp, xs, xa, xn, xc, yd, yp, ys, ya, yn, yc, x0, x1, x2, x3, y0, y1, y2, y3, fx0, fx1, fx2, fx3, fy0, fy1, fy2, fy3, hS3⟩ := swk_two R (show dj.size = d0.size by have := HSD.out; have := HN.out; omega) hS2.out k u (by omega) (by omega);have HS3 := Bx.mk hS3;have hku : k < u := (by omega);have huk : u <= i := (by omega);have hsz2 : (swp dj k u).size = n := (by rw [size_swp]; exact hdj);have HSZ := Bx.mk hsz2;have HU := Bx.mk hu;have hkz : (k : Int) < ((i - 1 : Nat) : Int) := (by omega);have mixed : Tryz.prog.follows .mixedOrders = true := (by kernel_rfl);clear hsz2 hS3 hS2 hswl hlist hu hB;go_wp2_with fail
     go_big_region_o
     clear x0 x1 x2 x3 y0 y1 y2 y3 fx0 fx1 fx2 fx3 fy0 fy1 fy2 fy3;go_wp2
     go_roundw
     case rel =>
      refine ⟨u, swp dj k u, rfl, by omega, by have := HU.out; omega, HSZ.out, ⟨?_⟩, HS3⟩;have hu := HU.out;rw [HSW.out, show u - a = k - a + 1 by omega, zA hkl];simp only [List.append_assoc, List.cons_append, List.nil_append, List.singleton_append]
     case measure => simp [intOf]; omega
    ·obtain rfl : i = k + 1 := by omega
     have HD2 := Lows.done ltN_ord HSL.out (i := k + 1 - m) (by have := hB.out; exact this);have hkn : ¬ (k : Int) < ((k + 1 - 1 : Nat) : Int) := (by omega);go_wp2
     (try simp only [Exit.inBlock, Exit.then]); refine bodyPost_ret (results_none rfl _ _ _) rfl ?_
     refine ⟨rfl, dj, _, ?_, HD2.1, HD2.2, hS2.out⟩;rw [hB2.out, show k + 1 - m = k - a by have := HM.out; omega]
theorem sym_last {w0 : World} {blk off cap : Nat} {d0 : Array Nt} (R : RowK encN 4 w0 blk off d0) (dk : Array Nt) (W : World) (hs : dk.size = d0.size) (S : SWK encN 4 w0 blk off dk W) (P L Q : List Nt) (x : Nt) (hd : dk.toList = P ++ (L ++ (x :: Q))) (h2 : 2 <= L.length) (sl : Srt ltN L) (hsz : dk.size < 1000000000)
  {n a m b : Nat} (hn : n = dk.size) (ha : a = P.length) (hm : m = a + L.length) (hb : b = m + 1) :
  Calls Tryz.prog 158 #[.slice (some ⟨blk, off, none⟩) n cap, .int .i64 (a : Nat), .int .i64 (m : Nat), .int .i64 (b : Nat), cmpV] W fun e w' =>
   e = .returned (.tuple #[]) /\ ∃ (dk' : Array Nt) (S' : List Nt), dk'.toList = P ++ (S' ++ Q) /\ Srt ltN S' /\ Stab ltN (L ++ [x]) S' /\ SWK encN 4 w0 blk off dk' w' := by
 have hlen : dk.size = P.length + L.length + 1 + Q.length := by rw [<- Array.length_toList, hd]; simp; omega
 have HS := Bx.mk S;have HD := Bx.mk hd;have HSL := Bx.mk sl;have HSD := Bx.mk hs;have hnb : n < 1000000000 := by omega
 have hbn : b <= n := by omega
 have hmn : m < n := by omega
 have HM := Bx.mk (show m = a + L.length by omega);have HA := Bx.mk ha;have HN := Bx.mk hn;have ham : a <= m := by omega
 have w1 : IntKind.i64.wrap ((m : Int) - (a : Int)) = ((L.length : Nat) : Int) := by rw [IntWalk.i64_in _ (by omega)]; omega
 have t1 : (((L.length : Nat) : Int) == 1) = false := by simp; omega
 have t1' : ¬ (((L.length : Nat) : Int) = 1) := by omega
 have t1'' : ¬ (L.length = 1) := by omega
 have w2 : IntKind.i64.wrap ((b : Int) - (m : Int)) = 1 := by rw [IntWalk.i64_in _ (by omega)]; omega
 have hgm : dk[m]! = x := (get_list (A := P ++ L) (B := Q) (by rw [hd]; simp) (by simp; omega)).1;have HGM := Bx.mk hgm;clear S hd sl hs hb ha hm hn hlen hgm;unfold cmpV;go_enter Tryz.func158, Tryz.ntmps158;go_wp2_with fail
 clear t1 t1' t1'' w1 w2;go_loopw [14, 15] (fun iv jv wr => ∃ (i j : Nat), iv = .int .i64 (i : Nat) /\ jv = .int .i64 (j : Nat) /\ a <= i /\ i <= j /\ j <= m /\ Bx (Ups ltN x L (i - a) (j - a)) /\ Bx (SWK encN 4 w0 blk off dk wr)) (fun iv jv _ => (intOf jv).toNat - (intOf iv).toNat)
 case atStart => exact ⟨a, m, rfl, rfl, by omega, by omega, by omega, ⟨by rw [HM.out, Nat.sub_self, Nat.add_sub_cancel_left]; exact Ups.start x L⟩, HS⟩
 case round =>
  obtain ⟨i, j, rfl, rfl, hmi, hij, hjb, hB, hS⟩ := hrel;by_cases hlt : i < j
  ·obtain ⟨h, hh⟩ : ∃ h, h = (i + j) / 2 := ⟨_, rfl⟩
   have hhi : i <= h := by omega
   have hhj : h < j := by omega
   have hhn : h < n := by omega
   have hgh : ∃ (hk : h - a < L.length), dk[h]! = L[h - a] := ⟨by have := HM.out; omega, by
    have := list_at HD.out (A := P) (l := L) (B := x :: Q) (by simp) (k := h - a) (i := h) (by have := HA.out; omega) (by have := HM.out; omega)
    exact this⟩
   obtain ⟨hkL, hgh⟩ := hgh;obtain ⟨hd1, hp1, hs1, ha1, hn1, hc1, he1, hv1⟩ := enc_parts dk[h]!;obtain ⟨ad1, ap1, as1, aa1, an1, ac1, ae1, av1⟩ := enc_parts dk[m]!;have lh := fun q os => swk_load R HSD.out hS.out h (by rw [<- HN.out]; exact hhn) he1 q os
   have la := fun q os => swk_load R HSD.out hS.out m (by rw [<- HN.out]; exact hmn) ae1 q os
   have hcg := fun (q : Nat) (os : Array Obj) => before_any dk[m]! dk[h]! (grow (wr.drewN q) os)
   rw [hv1, av1] at hcg;have hq2 : ((i : Int) + (j : Int)) / 2 = (h : Int) := by omega
   have HGH := Bx.mk hgh;clear hh hv1 av1 he1 ae1;have lh0 := fun q os => (lh q os).1
   have lh1 := fun q os => (lh q os).2.1
   have lh2 := fun q os => (lh q os).2.2.1
   have lh3 := fun q os => (lh q os).2.2.2
   have la0 := fun q os => (la q os).1
   have la1 := fun q os => (la q os).2.1
   have la2 := fun q os => (la q os).2.2.1
   have la3 := fun q os => (la q os).2.2.2
   clear lh la hgh;have mixed : Tryz.prog.follows .mixedOrders = true := by kernel_rfl
   have eg : ∀ args w, (callFunc 117 args).run Tryz.prog w = .ok (.enter 117 args) w := fun _ _ => rfl
   by_cases hlt2 : cfN dk[m]! dk[h]! < 0
   ·go_wp2_with fail
    go_quiet_grown (first | (go_at_fn 117; refine Calls.grown_of (hcg _ _)))
    go_wp2
    go_roundw
    case rel =>
     refine ⟨i, h, rfl, rfl, hmi, hhi, by omega, ⟨?_⟩, ⟨hS.out.grown _ _⟩⟩;refine hB.out.down ltN_ord HSL.out (by omega) (by omega) ?_;rw [<- HGH.out, <- HGM.out]; exact zT hlt2
    case measure => simp [intOf]; omega
   ·have tn : (!decide (cfN dk[m]! dk[h]! < 0)) = true := by rw [zF hlt2]; rfl
    go_wp2_with fail
    go_quiet_grown (first | (go_at_fn 117; refine Calls.grown_of (hcg _ _)))
    go_wp2
    go_roundw
    case rel =>
     refine ⟨h + 1, j, by go_num, rfl, by omega, by omega, hjb, ⟨?_⟩, ⟨hS.out.grown _ _⟩⟩;rw [show h + 1 - a = h - a + 1 by omega];refine hB.out.up ltN_ord HSL.out (by omega) (by omega) ?_;rw [<- HGH.out, <- HGM.out]; exact zF (Int.not_lt.2 hlt2)
    case measure => simp [intOf]; omega
  ·obtain rfl : i = j := by omega
   go_wp2
   go_loopw [17] (fun kv wr => ∃ (k : Nat) (dj : Array Nt), kv = .int .i64 (k : Nat) /\ i <= k /\ k <= m /\ dj.size = n /\ Bx (dj.toList = P ++ ((L.take (k - a) ++ (x :: L.drop (k - a))) ++ Q)) /\ Bx (SWK encN 4 w0 blk off dj wr)) (fun kv _ => (intOf kv).toNat)
   case atStart => exact ⟨m, dk, rfl, by omega, by omega, HN.out.symm, ⟨by rw [HD.out, show m - a = L.length by have := HM.out; omega]; simp⟩, hS⟩
   case round =>
    obtain ⟨k, dj, rfl, hak, hki, hdj, hB2, hS2⟩ := hrel;by_cases hk1 : i < k
    ·obtain ⟨u, hu⟩ : ∃ u, k = u + 1 := ⟨k - 1, by omega⟩
     have wu : IntKind.i64.wrap ((k : Int) - 1) = (u : Int) := (by rw [IntWalk.i64_in _ (by omega)]; omega);have hkl : u - a < L.length := (by have := HM.out; omega);have hun : u < n := by omega
     have hlist : dj.toList = (P ++ L.take (u - a)) ++ L[u - a] :: ([] ++ x :: (L.drop (u - a + 1) ++ Q)) := by
      rw [hB2.out, show k - a = u - a + 1 by omega, zA hkl]; simp only [List.append_assoc, List.nil_append, List.cons_append]
     have hswl := (swp_list hlist (i := u) (j := k) (by have := HA.out; simp; omega) (by have := HA.out; simp; omega)).1;rw [swp_comm] at hswl;have HSW := Bx.mk hswl;obtain ⟨xd, xp, xs, xa, xn, xc, yd, yp, ys, ya, yn, yc, x0, x1, x2, x3, y0, y1, y2, y3, fx0, fx1, fx2, fx3, fy0, fy1, fy2, fy3, hS3⟩ := swk_two R (show dj.size = d0.size by have := HSD.out; have := HN.out; omega) hS2.out k u (by omega) (by omega);have HS3 := Bx.mk hS3;have hku : u < k := (by omega);have hsz2 : (swp dj k u).size = n := (by rw [size_swp]; exact hdj);have HSZ := Bx.mk hsz2;have HU := Bx.mk hu;have hkz : (k : Int) > (i : Int) := (by omega);have hkn : k < n := (by omega);have mixed : Tryz.prog.follows .mixedOrders = true := (by kernel_rfl);clear hsz2 hS3 hS2 hswl hlist hu hB;go_wp2_with fail
     go_big_region_o
     clear x0 x1 x2 x3 y0 y1 y2 y3 fx0 fx1 fx2 fx3 fy0 fy1 fy2 fy3;go_wp2
     go_roundw
     case rel =>
      have hu := HU.out;refine ⟨u, swp dj k u, rfl, by omega, by omega, HSZ.out, ⟨?_⟩, HS3⟩;rw [HSW.out, List.drop_eq_getElem_cons hkl];simp only [List.append_assoc, List.cons_append, List.nil_append, List.singleton_append]
     case measure => have hu := HU.out; simp [intOf]; omega
    ·obtain rfl : i = k := by omega
     have HD2 := Ups.done ltN_ord HSL.out (i := i - a) (by have := hB.out; exact this);have hkn : ¬ (i : Int) > (i : Int) := (by omega);go_wp2
     (try simp only [Exit.inBlock, Exit.then]); refine bodyPost_ret (results_none rfl _ _ _) rfl ?_
     refine ⟨rfl, dj, _, ?_, HD2.1, HD2.2, hS2.out⟩;rw [hB2.out]
end Go.Proofs.YtmagjdocondmhaaGreat.Tr
