/- packed -/
import Derived.Test.YtmagjdocondmhaaGreatPkLk04
import Derived.Maps.Own
import Derived.Maps.OwnSet
import Derived.Maps.OwnOps
import Derived.Maps.Views
import Derived.Maps.StringElems
import Derived.Maps.RangeWalk
import Derived.StringKeys
import Derived.DataShut
set_option linter.unusedVariables false
set_option linter.unusedSimpArgs false
set_option maxRecDepth 100000
set_option maxHeartbeats 64000000
namespace Go.Proofs.YtmagjdocondmhaaGreat.Tr
open Go Go.RowKit St
def insS (x : B) : List B -> List B
 | [] => [x]
 | y :: l => if x < y then x :: y :: l else if x = y then y :: l else y :: insS x l
def setB (l : List B) : List B := l.foldl (fun a x => insS x a) []
abbrev Asc (l : List B) : Prop := l.Pairwise (· < ·)
theorem insS_mem (x y : B) (l : List B) : y ∈ insS x l ↔ y = x \/ y ∈ l := by
 induction l with
 | nil => simp [insS]
 | cons z l ih =>
  unfold insS;by_cases h1 : x < z
  ·rw [if_pos h1]; simp
  ·rw [if_neg h1];by_cases h2 : x = z
   ·rw [if_pos h2]; subst h2; simp
   ·rw [if_neg h2, List.mem_cons, ih, List.mem_cons];constructor
    ·rintro (h | h | h) <;> simp [h]
    ·rintro (h | h | h) <;> simp [h]
theorem ltB_or {x y : B} (h1 : ¬ x < y) (h2 : x ≠ y) : y < x := by
 rcases Classical.em (y < x) with h | h
 ·exact h
 ·exact absurd (eqB h1 h) h2
theorem insS_asc (x : B) (l : List B) (h : Asc l) : Asc (insS x l) := by
 induction l with
 | nil => simp [insS, Asc]
 | cons z l ih =>
  rw [Asc, List.pairwise_cons] at h;unfold insS;by_cases h1 : x < z
  ·rw [if_pos h1];refine List.pairwise_cons.2 ⟨fun y hy => ?_, List.pairwise_cons.2 h⟩;rcases List.mem_cons.1 hy with rfl | hy
   ·exact h1
   ·exact ltB_tr h1 (h.1 y hy)
  ·rw [if_neg h1];by_cases h2 : x = z
   ·rw [if_pos h2]; exact List.pairwise_cons.2 h
   ·rw [if_neg h2];refine List.pairwise_cons.2 ⟨fun y hy => ?_, ih h.2⟩;rcases (insS_mem x y l).1 hy with rfl | hy
    ·exact ltB_or h1 h2
    ·exact h.1 y hy
theorem foldS_mem (y : B) : ∀ (l a : List B), y ∈ l.foldl (fun a x => insS x a) a ↔ y ∈ a \/ y ∈ l
 | [], a => by simp
 | x :: l, a => by
  rw [List.foldl_cons, foldS_mem y l, insS_mem, List.mem_cons];constructor
  ·rintro ((h | h) | h) <;> simp [h]
  ·rintro (h | h | h) <;> simp [h]
theorem foldS_asc : ∀ (l a : List B), Asc a -> Asc (l.foldl (fun a x => insS x a) a)
 | [], a, h => h
 | x :: l, a, h => foldS_asc l _ (insS_asc x a h)
theorem setB_mem {y : B} {l : List B} : y ∈ setB l ↔ y ∈ l := by
 unfold setB; rw [foldS_mem]; simp
theorem setB_asc (l : List B) : Asc (setB l) := foldS_asc l [] List.Pairwise.nil
theorem asc_unique : ∀ (l m : List B), Asc l -> Asc m -> (∀ x, x ∈ l ↔ x ∈ m) -> l = m
 | [], [], _, _, _ => rfl
 | [], b :: m, _, _, h => by have := (h b).2 (by simp); cases this
 | a :: l, [], _, _, h => by have := (h a).1 (by simp); cases this
 | a :: l, b :: m, h1, h2, h => by
  rw [Asc, List.pairwise_cons] at h1 h2
  have e : a = b := by
   rcases List.mem_cons.1 ((h a).1 (by simp)) with q | q
   ·exact q
   ·rcases List.mem_cons.1 ((h b).2 (by simp)) with q' | q'
    ·exact q'.symm
    ·exact absurd (ltB_tr (h1.1 b q') (h2.1 a q)) (ltB_irr _)
  subst e;rw [asc_unique l m h1.2 h2.2 fun x => ?_];have hx := h x;rw [List.mem_cons, List.mem_cons] at hx;constructor
  ·intro q;rcases hx.1 (.inr q) with rfl | q'
   ·exact absurd (h1.1 _ q) (ltB_irr _)
   ·exact q'
  ·intro q;rcases hx.2 (.inr q) with rfl | q'
   ·exact absurd (h2.1 _ q) (ltB_irr _)
   ·exact q'
theorem setB_eq {l m : List B} (h : Asc m) (hm : ∀ x, x ∈ m ↔ x ∈ l) : m = setB l := asc_unique _ _ h (setB_asc l) fun x => (hm x).trans setB_mem.symm
theorem setB_congr {l m : List B} (h : ∀ x, x ∈ l ↔ x ∈ m) : setB l = setB m := setB_eq (setB_asc l) fun x => setB_mem.trans (h x)
theorem insS_length (x : B) (l : List B) : (insS x l).length <= l.length + 1 := by
 induction l with
 | nil => simp [insS]
 | cons z l ih =>
  unfold insS;split
  ·simp
  ·split
   ·simp
   ·simp only [List.length_cons]; omega
theorem foldS_length : ∀ (l a : List B), (l.foldl (fun a x => insS x a) a).length <= a.length + l.length
 | [], a => by simp
 | x :: l, a => by
  rw [List.foldl_cons];have := foldS_length l (insS x a);have := insS_length x a;simp only [List.length_cons]; omega
theorem setB_length (l : List B) : (setB l).length <= l.length := by
 have := foldS_length l [];simpa [setB] using this
theorem asc_nodup {l : List B} (h : Asc l) : l.Nodup := List.Pairwise.imp (fun {a b} hab e => by subst e; exact ltB_irr _ hab) h
section
variable {α : Type} {lt : α -> α -> Bool}
theorem ins_mem (x y : α) (l : List α) : y ∈ ins (lt := lt) x l ↔ y = x \/ y ∈ l := by
 induction l with
 | nil => simp [ins]
 | cons z l ih =>
  unfold ins;split
  ·simp
  ·rw [List.mem_cons, ih, List.mem_cons];constructor
   ·rintro (h | h | h) <;> simp [h]
   ·rintro (h | h | h) <;> simp [h]
theorem ins_srt (O : Ord lt) (x : α) (l : List α) (h : Srt lt l) : Srt lt (ins (lt := lt) x l) := by
 induction l with
 | nil => exact Srt.singleton x
 | cons z l ih =>
  have h' := h;rw [Srt, List.pairwise_cons] at h';unfold ins;by_cases q : lt x z = true
  ·rw [if_pos q];refine List.pairwise_cons.2 ⟨fun y hy => ?_, h⟩;rcases List.mem_cons.1 hy with rfl | hy
   ·exact O.asym q
   ·have := h'.1 y hy
    cases e : lt y x with
    | false => rfl
    | true => rw [O.tr _ _ _ e q] at this; cases this
  ·rw [if_neg q];refine List.pairwise_cons.2 ⟨fun y hy => ?_, ih h'.2⟩;rcases (ins_mem x y l).1 hy with rfl | hy
   ·simpa using q
   ·exact h'.1 y hy
theorem ins_stab (O : Ord lt) (x : α) (l : List α) (h : Srt lt l) : Stab lt (l ++ [x]) (ins (lt := lt) x l) := by
 induction l with
 | nil => exact Stab.refl _
 | cons z l ih =>
  have h' := h;rw [Srt, List.pairwise_cons] at h';unfold ins;by_cases q : lt x z = true
  ·rw [if_pos q]
   have : ∀ u ∈ z :: l, ∀ v ∈ [x], lt v u = true := by
    intro u hu v hv;rw [zS] at hv; subst hv
    rcases List.mem_cons.1 hu with rfl | hu
    ·exact q
    ·exact O.lt_of' (h'.1 u hu) q
   exact Stab.swap O this
  ·rw [if_neg q];exact (Stab.refl [z]).append (ih h'.2)
def srtL (l : List α) : List α := l.foldl (fun a x => ins (lt := lt) x a) []
theorem fold_srt (O : Ord lt) : ∀ (l a : List α), Srt lt a -> Srt lt (l.foldl (fun a x => ins (lt := lt) x a) a)
 | [], a, h => h
 | x :: l, a, h => fold_srt O l _ (ins_srt O x a h)
theorem fold_stab (O : Ord lt) : ∀ (l a : List α), Srt lt a -> Stab lt (a ++ l) (l.foldl (fun a x => ins (lt := lt) x a) a)
 | [], a, h => by simpa using Stab.refl a
 | x :: l, a, h => by
  have h1 := fold_stab O l _ (ins_srt O x a h);have h2 := (ins_stab O x a h).append (Stab.refl l);rw [List.append_assoc] at h2;exact h2.trans h1
theorem srtL_srt (O : Ord lt) (l : List α) : Srt lt (srtL (lt := lt) l) := fold_srt O l [] List.Pairwise.nil
theorem srtL_stab (O : Ord lt) (l : List α) : Stab lt l (srtL (lt := lt) l) := fold_stab O l [] List.Pairwise.nil
theorem srtL_unique (O : Ord lt) {l l' : List α} (h : Srt lt l') (h' : Stab lt l l') : l' = srtL (lt := lt) l := srt_unique O _ _ h (srtL_srt O l) (h'.symm.trans (srtL_stab O l))
theorem srtL_self (O : Ord lt) {l : List α} (h : Srt lt l) : srtL (lt := lt) l = l := (srtL_unique O h (Stab.refl l)).symm
theorem srtL_append (O : Ord lt) {l m : List α} (h : Srt lt l) : srtL (lt := lt) (l ++ m) = m.foldl (fun a x => ins (lt := lt) x a) l := by
 unfold srtL; rw [List.foldl_append]
 have := srtL_self O h;unfold srtL at this; rw [this]
theorem fold_length : ∀ (l a : List α), (l.foldl (fun a x => ins (lt := lt) x a) a).length = a.length + l.length
 | [], a => by simp
 | x :: l, a => by
  have e : ∀ a : List α, (ins (lt := lt) x a).length = a.length + 1 := by
   intro a
   induction a with
   | nil => rfl
   | cons z a ih => unfold ins; split <;> simp [ih]
  rw [List.foldl_cons, fold_length l, e]; simp; omega
end
abbrev sortT (l : List Nd) : List Nd := srtL (lt := ltT) l
theorem wrap_small {x : Int} (h0 : 0 <= x) (h1 : x <= 1000000) : IntKind.i64.wrap x = x := IntWalk.i64_in _ (by omega)
abbrev pn (t : List Nd) (n : Nd) : Nd := t[n.p.toNat]!
structure VT (t : List Nd) (D : Int) : Prop where
 dep : 0 <= D
 len : t.length <= 2048
 root : 0 < t.length -> t[0]!.d = 0 /\ t[0]!.p = -1 /\ t[0]!.pol = anyP /\ t[0]!.ex = [anyP]
 par : ∀ i, 0 < i -> i < t.length -> 0 <= t[i]!.p /\ t[i]!.p < i
 dd : ∀ i, 0 < i -> i < t.length -> t[i]!.d = (pn t t[i]!).d + 1
 le : ∀ i, i < t.length -> t[i]!.d <= D
 lt : ∀ i, i + 1 < t.length -> ltT t[i]! t[i + 1]! = true
 asc : ∀ i, i < t.length -> ascB t[i]!.ex = true
 sp : ∀ i, 0 < i -> i < t.length -> t[i]!.pol = anyP -> (pn t t[i]!).pol = anyP /\ t[i]!.ex = [anyP]
 ns : ∀ i, i < t.length -> t[i]!.pol ≠ anyP -> anyP ∉ t[i]!.ex
 leaf : ∀ i, i < t.length -> t[i]!.d < D -> ∃ n ∈ t, n.p = (i : Int)
theorem fit0_iff (n : Nd) : fit0 n = true ↔ n.d = 0 /\ n.p = -1 /\ n.pol = anyP /\ n.ex = [anyP] := by
 unfold fit0 spec onlyB; simp
theorem fitB_iff (t : List Nd) (i : Nat) (hi : 0 < i) (D : Int) : fitB t i D = true ↔
  0 <= t[i]!.p /\ t[i]!.p < i /\ t[i]!.d = IntKind.i64.wrap ((pn t t[i]!).d + 1) /\ t[i]!.d <= D /\ ltT t[i - 1]! t[i]! = true /\ ascB t[i]!.ex = true /\ (t[i]!.pol = anyP -> (pn t t[i]!).pol = anyP /\ t[i]!.ex = [anyP]) /\ (t[i]!.pol ≠ anyP -> anyP ∉ t[i]!.ex) := by
 unfold fitB pn;rw [if_neg (by omega)];unfold badB ltT spec onlyB;generalize t[i]! = x;generalize t[i - 1]! = q;generalize t[x.p.toNat]! = m;by_cases h : x.pol = anyP
 ·rw [zT h, if_pos rfl];simp [h, and_assoc]
 ·rw [zF h, if_neg (by simp)];simp [h, and_assoc]
theorem asc_any : ascB [anyP] = true := by decide
theorem valid_iff (t : List Nd) (D : Int) : validB t D = true ↔ VT t D := by
 unfold validB;simp only [Bool.and_eq_true, Bool.not_eq_true', Bool.or_eq_false_iff, decide_eq_false_iff_not, List.all_eq_true, List.mem_range, Bool.or_eq_true, List.any_eq_true, decide_eq_true_eq]
 constructor
 ·rintro ⟨⟨h1, h2⟩, h3, h4⟩
  have hr : 0 < t.length -> t[0]!.d = 0 /\ t[0]!.p = -1 /\ t[0]!.pol = anyP /\ t[0]!.ex = [anyP] := fun h => by
   have := h3 0 h;unfold fitB at this;rw [if_pos rfl, fit0_iff] at this;exact this
  have hf := fun i (h0 : 0 < i) (hi : i < t.length) => (fitB_iff t i h0 D).1 (h3 i hi)
  have hd : ∀ i, i < t.length -> 0 <= t[i]!.d /\ t[i]!.d <= i := by
   intro i
   induction i using Nat.strongRecOn with
   | _ i ih =>
    intro hi;by_cases h0 : i = 0
    ·subst h0; have := (hr hi).1; omega
    ·obtain ⟨a, b, c, -⟩ := hf i (by omega) hi;have hp : t[i]!.p.toNat < i := (by omega);have := ih _ hp (by omega);rw [c]; unfold pn; rw [wrap_small (by omega) (by omega)]
     omega
  refine ⟨by omega, by omega, hr, fun i h0 hi => ?_, fun i h0 hi => ?_, fun i hi => ?_, fun i hi => ?_, fun i hi => ?_, fun i h0 hi => ?_, fun i hi => ?_, fun i hi hlt => ?_⟩
  ·obtain ⟨a, b, -⟩ := hf i h0 hi; exact ⟨a, b⟩
  ·obtain ⟨a, b, c, -⟩ := hf i h0 hi;have hp : t[i]!.p.toNat < i := by omega
   have := hd _ (Nat.lt_trans hp hi);rw [c]; unfold pn; rw [wrap_small (by omega) (by omega)]
  ·by_cases h0 : i = 0
   ·subst h0; have := (hr hi).1; omega
   ·obtain ⟨a, b, c, d, -⟩ := hf i (by omega) hi; exact d
  ·obtain ⟨a, b, c, d, e, -⟩ := hf (i + 1) (by omega) hi; exact e
  ·by_cases h0 : i = 0
   ·subst h0; rw [(hr hi).2.2.2]; exact asc_any
   ·obtain ⟨a, b, c, d, e, f, -⟩ := hf i (by omega) hi; exact f
  ·obtain ⟨a, b, c, d, e, f, g, -⟩ := hf i h0 hi; exact g
  ·by_cases h0 : i = 0
   ·subst h0; intro h; exact absurd (hr hi).2.2.1 h
   ·obtain ⟨a, b, c, d, e, f, g, k⟩ := hf i (by omega) hi; exact k
  ·rcases h4 i hi with h | ⟨n, hn, h⟩
   ·exact absurd hlt h
   ·exact ⟨n, hn, h⟩
 ·intro V
  have hd : ∀ i, i < t.length -> 0 <= t[i]!.d /\ t[i]!.d <= i := by
   intro i
   induction i using Nat.strongRecOn with
   | _ i ih =>
    intro hi;by_cases h0 : i = 0
    ·subst h0; have := (V.root hi).1; omega
    ·obtain ⟨a, b⟩ := V.par i (by omega) hi;have hp : t[i]!.p.toNat < i := (by omega);have := ih _ hp (by omega);rw [V.dd i (by omega) hi];unfold pn;omega
  refine ⟨⟨by have := V.dep; omega, by have := V.len; omega⟩, fun i hi => ?_, fun i hi => ?_⟩
  ·by_cases h0 : i = 0
   ·subst h0;unfold fitB;rw [if_pos rfl, fit0_iff]; exact V.root hi
   ·obtain ⟨a, b⟩ := V.par i (by omega) hi;have hp : t[i]!.p.toNat < i := (by omega);have hq := hd _ (Nat.lt_trans hp hi);have hl := V.len;refine (fitB_iff t i (by omega) D).2 ⟨a, b, ?_, V.le i hi, ?_, V.asc i hi, V.sp i (by omega) hi, V.ns i hi⟩
    ·rw [V.dd i (by omega) hi, wrap_small (by unfold pn; omega) (by unfold pn; omega)]
    ·have := V.lt (i - 1) (by omega);rw [show i - 1 + 1 = i by omega] at this;exact this
  ·by_cases h : t[i]!.d < D
   ·exact .inr (V.leaf i hi h)
   ·exact .inl h
section
variable {t : List Nd} {D : Int}
theorem VT.dlo (V : VT t D) : ∀ i, i < t.length -> 0 <= t[i]!.d /\ t[i]!.d <= i := by
 intro i
 induction i using Nat.strongRecOn with
 | _ i ih =>
  intro hi;by_cases h0 : i = 0
  ·subst h0; have := (V.root hi).1; omega
  ·obtain ⟨a, b⟩ := V.par i (by omega) hi;have hp : t[i]!.p.toNat < i := by omega
   have := ih _ hp (by omega);rw [V.dd i (by omega) hi];unfold pn;omega
theorem VT.lt' (V : VT t D) : ∀ j i, i < j -> j < t.length -> ltT t[i]! t[j]! = true := by
 intro j
 induction j with
 | zero => intro i h; omega
 | succ j ih =>
  intro i h hj;by_cases e : i = j
  ·subst e; exact V.lt i hj
  ·exact ltT_ord.tr _ _ _ (ih i (by omega) (by omega)) (V.lt j hj)
theorem VT.srt (V : VT t D) : Srt ltT t := by
 unfold Srt;rw [List.pairwise_iff_getElem];intro i j hi hj h;have := V.lt' j i h hj;rw [getElem!_pos t i hi, getElem!_pos t j hj] at this;exact ltT_ord.asym this
theorem VT.keys (V : VT t D) {i j : Nat} (hi : i < t.length) (hj : j < t.length) (hd : t[i]!.d = t[j]!.d) (hp : t[i]!.p = t[j]!.p) (hq : t[i]!.pol = t[j]!.pol) : i = j := by
 have key : ∀ {i j : Nat}, i < j -> j < t.length -> t[i]!.d = t[j]!.d -> t[i]!.p = t[j]!.p -> t[i]!.pol = t[j]!.pol -> False := by
  intro i j h hj hd hp hq;have := (ltT_iff _ _).1 (V.lt' j i h hj);rw [hd, hp, hq] at this;rcases this with h | ⟨-, h | ⟨-, h⟩⟩
  ·omega
  ·omega
  ·exact ltB_irr _ h
 rcases Nat.lt_trichotomy i j with h | h | h
 ·exact (key h hj hd hp hq).elim
 ·exact h
 ·exact (key h hi hd.symm hp.symm hq.symm).elim
theorem VT.one (V : VT t D) : ∀ i j, i < t.length -> j < t.length -> t[i]!.d = t[j]!.d -> t[i]!.pol = anyP -> t[j]!.pol = anyP -> i = j := by
 intro i
 induction i using Nat.strongRecOn with
 | _ i ih =>
  intro j hi hj hd h1 h2;by_cases h0 : i = 0
  ·subst h0;by_cases h3 : j = 0
   ·exact h3.symm
   ·have a := V.par j (by omega) hj;have hp : t[j]!.p.toNat < t.length := (by omega);have b := V.dd j (by omega) hj;have c := (V.dlo _ hp).1;have d := (V.root hi).1;unfold pn at b;omega
  ·by_cases h3 : j = 0
   ·subst h3;have a := V.par i (by omega) hi;have hp : t[i]!.p.toNat < t.length := (by omega);have b := V.dd i (by omega) hi;have c := (V.dlo _ hp).1;have d := (V.root hj).1;unfold pn at b;omega
   ·have a := V.par i (by omega) hi;have b := V.par j (by omega) hj;have a2 := V.dd i (by omega) hi;have b2 := V.dd j (by omega) hj;have a3 := V.sp i (by omega) hi h1;have b3 := V.sp j (by omega) hj h2;unfold pn at a2 b2 a3 b3;have e := ih t[i]!.p.toNat (by omega) t[j]!.p.toNat (by omega) (by omega) (by omega) a3.1 b3.1;exact V.keys hi hj hd (by omega) (by rw [h1, h2])
end
def rk (m : List Bool) (i : Nat) : Nat := ((List.range i).filter fun j => m[j]!).length
def kpN (m : List Bool) (n : Nd) : Nd := ⟨n.d, if n.p < 0 then n.p else if m[n.p.toNat]! then ((rk m n.p.toNat : Nat) : Int) else 0, n.pol, n.ex⟩
def keepK (t : List Nd) (m : List Bool) (k : Nat) : List Nd := ((List.range k).filter fun j => m[j]!).map fun j => kpN m t[j]!
def keepP (t : List Nd) (m : List Bool) : List Nd := keepK t m t.length
theorem rk_succ (m : List Bool) (k : Nat) : rk m (k + 1) = rk m k + if m[k]! then 1 else 0 := by
 unfold rk;rw [List.range_succ, List.filter_append, List.length_append]
 cases h : m[k]! <;> simp [List.filter_cons, h, -List.getElem!_eq_getElem?_getD]
theorem rk_zero (m : List Bool) : rk m 0 = 0 := rfl
theorem rk_le (m : List Bool) : ∀ k, rk m k <= k
 | 0 => zR _
 | k + 1 => by rw [rk_succ]; have := rk_le m k; split <;> omega
theorem rk_mono (m : List Bool) {i j : Nat} (h : i <= j) : rk m i <= rk m j := by
 induction h with
 | refl => exact zR _
 | step _ ih => rw [rk_succ]; omega
theorem rk_lt (m : List Bool) {i j : Nat} (h : i < j) (hm : m[i]! = true) : rk m i < rk m j := by
 have := rk_mono m (show i + 1 <= j from h);rw [rk_succ, if_pos hm] at this; omega
theorem keepK_succ (t : List Nd) (m : List Bool) (k : Nat) : keepK t m (k + 1) = keepK t m k ++ if m[k]! then [kpN m t[k]!] else [] := by
 unfold keepK;rw [List.range_succ, List.filter_append, List.map_append]
 cases h : m[k]! <;> simp [List.filter_cons, h, -List.getElem!_eq_getElem?_getD]
theorem keepK_length (t : List Nd) (m : List Bool) (k : Nat) : (keepK t m k).length = rk m k := by unfold keepK rk; rw [List.length_map]
theorem keepP_length (t : List Nd) (m : List Bool) : (keepP t m).length = rk m t.length := keepK_length _ _ _
theorem keepK_at (t : List Nd) (m : List Bool) : ∀ (k i : Nat), i < k -> m[i]! = true -> (keepK t m k)[rk m i]? = some (kpN m t[i]!)
 | 0, i, h, _ => by omega
 | k + 1, i, h, hm => by
  rw [keepK_succ];by_cases e : i = k
  ·subst e;rw [List.getElem?_append_right (by rw [keepK_length]; exact zR _), keepK_length, Nat.sub_self, if_pos hm]; rfl
  ·have hlt : rk m i < rk m k := rk_lt m (by omega) hm;rw [List.getElem?_append_left (by rw [keepK_length]; exact hlt)];exact keepK_at t m k i (by omega) hm
theorem keepP_at (t : List Nd) (m : List Bool) {i : Nat} (hi : i < t.length) (hm : m[i]! = true) : (keepP t m)[rk m i]! = kpN m t[i]! := by
 have h := keepK_at t m t.length i hi hm;unfold keepP;rw [List.getElem!_eq_getElem?_getD, h]; rfl
theorem keepK_from (t : List Nd) (m : List Bool) : ∀ (k j : Nat), j < rk m k -> ∃ i, i < k /\ m[i]! = true /\ rk m i = j
 | 0, j, h => by rw [rk_zero] at h; omega
 | k + 1, j, h => by
  rw [rk_succ] at h;by_cases e : j < rk m k
  ·obtain ⟨i, h1, h2, h3⟩ := keepK_from t m k j e;exact ⟨i, by omega, h2, h3⟩
  ·cases hk : m[k]! with
   | false => rw [hk] at h; simp at h; omega
   | true => rw [hk] at h; simp at h; exact ⟨k, by omega, hk, by omega⟩
theorem keepP_from (t : List Nd) (m : List Bool) {j : Nat} (h : j < (keepP t m).length) : ∃ i, i < t.length /\ m[i]! = true /\ rk m i = j /\ (keepP t m)[j]! = kpN m t[i]! := by
 rw [keepP_length] at h;obtain ⟨i, h1, h2, h3⟩ := keepK_from t m _ j h;exact ⟨i, h1, h2, h3, by rw [<- h3]; exact keepP_at t m h1 h2⟩
def stepM (t : List Nd) (D : Int) (m : List Bool) (i : Nat) : List Bool :=
 let m1 := if t[i]!.d = D then m.set i true else m
 if m1[i]! && decide (t[i]!.p >= 0) then m1.set t[i]!.p.toNat true else m1
def pmB (t : List Nd) (D : Int) : Nat -> List Bool
 | 0 => List.replicate t.length false
 | j + 1 => stepM t D (pmB t D j) (t.length - 1 - j)
def pruneM (t : List Nd) (D : Int) : List Bool := pmB t D t.length
def pruneP (t : List Nd) (D : Int) : List Nd := keepP t (pruneM t D)
theorem stepM_length (t : List Nd) (D : Int) (m : List Bool) (i : Nat) : (stepM t D m i).length = m.length := by
 have e : ∀ (m1 : List Bool), m1.length = m.length -> (if m1[i]! && decide (t[i]!.p >= 0) then m1.set t[i]!.p.toNat true else m1).length = m.length := by
  intro m1 h;split
  ·rw [zL]; exact h
  ·exact h
 unfold stepM;refine e _ ?_;split
 ·rw [zL]
 ·rfl
theorem pmB_length (t : List Nd) (D : Int) : ∀ j, (pmB t D j).length = t.length
 | 0 => by simp [pmB]
 | j + 1 => by rw [pmB, stepM_length]; exact pmB_length t D j
def dnM (t : List Nd) (c : Nat -> Bool) : Nat -> List Bool
 | 0 => []
 | k + 1 => dnM t c k ++ [c k && (decide (t[k]!.p < 0) || (dnM t c k)[t[k]!.p.toNat]!)]
theorem dnM_length (t : List Nd) (c : Nat -> Bool) : ∀ k, (dnM t c k).length = k
 | 0 => rfl
 | k + 1 => by rw [dnM, List.length_append, dnM_length t c k]; rfl
theorem dnM_keep (t : List Nd) (c : Nat -> Bool) : ∀ (k i : Nat), i < k -> (dnM t c k)[i]! = (dnM t c (i + 1))[i]!
 | 0, i, h => by omega
 | k + 1, i, h => by
  by_cases e : i = k
  ·subst e; rfl
  ·rw [dnM];have hl := dnM_length t c k;rw [List.getElem!_eq_getElem?_getD, List.getElem?_append_left (by omega), <- List.getElem!_eq_getElem?_getD];exact dnM_keep t c k i (by omega)
theorem dnM_at (t : List Nd) (c : Nat -> Bool) (k i : Nat) (hi : i < k) (hp : t[i]!.p < i) : (dnM t c k)[i]! = (c i && (decide (t[i]!.p < 0) || (dnM t c k)[t[i]!.p.toNat]!)) := by
 rw [dnM_keep t c k i hi, dnM];have hl := dnM_length t c i;rw [List.getElem!_eq_getElem?_getD, List.getElem?_append_right (by omega), hl, Nat.sub_self];by_cases h0 : t[i]!.p < 0
 ·rw [zT h0]; simp
 ·have hq : t[i]!.p.toNat < i := by omega
  rw [dnM_keep t c i _ hq, <- dnM_keep t c k _ (by omega)]; simp
def expdP (t : List Nd) (D : Int) (p : B) : Bool := t.any fun n => decide (n.d = D - 1) && decide (p ∈ n.ex)
def wantP (t : List Nd) (D : Int) (n : Nd) (p : B) : Bool := decide (p ≠ anyP) && (decide (p ∈ n.ex) || (!expdP t D p && spec n))
def childP (t : List Nd) (D : Int) (n : Nd) (pol : List B) (all : Bool) : List B := setB (pol.filter (wantP t D n) ++ if all then n.ex else [])
def newN (D i : Int) (p : B) : Nd := ⟨D, i, p, [p]⟩
def moreK (t : List Nd) (D : Int) (pol : List B) (all : Bool) (k : Nat) : List Nd := (List.range k).flatMap fun (i : Nat) => if t[i]!.d < D - 1 then [] else (childP t D t[i]! pol all).map (newN D (i : Nat))
theorem moreK_succ (t : List Nd) (D : Int) (pol : List B) (all : Bool) (k : Nat) : moreK t D pol all (k + 1) = moreK t D pol all k ++ if t[k]!.d < D - 1 then [] else (childP t D t[k]! pol all).map (newN D (k : Nat)) := by
 unfold moreK; rw [List.range_succ, List.flatMap_append]; simp
theorem moreK_mono (t : List Nd) (D : Int) (pol : List B) (all : Bool) {i j : Nat} (h : i <= j) : (moreK t D pol all i).length <= (moreK t D pol all j).length := by
 induction h with
 | refl => exact zR _
 | step _ ih => rw [moreK_succ, List.length_append]; omega
def enterP (t : List Nd) (D : Int) (ps : List B) (cnt : Bool) : List Nd × Int :=
 if decide (D < 1) || !validB t (D - 1) then ([], 7) else
  let more := moreK t D (setB ps) (cnt && decide (anyP ∈ setB ps)) t.length
  if t.length + more.length > 2048 then ([], 2) else (pruneP (sortT (t ++ more)) D, 0)
def okM (m : B × B) : Bool := decide (m.1 ≠ anyP) && decide (m.2 ≠ anyP)
def srcL (l : List (B × B)) : List B := setB ((l.filter okM).map (·.1))
def subL (l : List (B × B)) (x : B) : List B := setB ((l.filter fun m => decide (m.1 = x) && okM m).map (·.2))
def nowN (l : List (B × B)) (D : Int) (n : Nd) : Nd := if decide (n.d < D) then n else if decide (n.pol ∈ srcL l) then ⟨n.d, n.p, n.pol, subL l n.pol⟩ else n
def lastS (t : List Nd) (D : Int) : Nat -> Int
 | 0 => -1
 | k + 1 => if !decide (t[k]!.d < D) && spec t[k]! then t[k]!.p else lastS t D k
def foundP (t : List Nd) (D : Int) (q : B) : Bool := t.any fun n => !decide (n.d < D) && decide (n.pol = q)
def mapMore (t : List Nd) (D : Int) (l : List (B × B)) : List Nd := ((srcL l).filter fun q => decide (lastS t D t.length >= 0) && !foundP t D q).map fun q => ⟨D, lastS t D t.length, q, subL l q⟩
def mapM (t : List Nd) (D : Int) (l : List (B × B)) : List Bool := t.map fun n => decide (n.d < D) || !decide (n.pol ∈ srcL l)
def mapP (t : List Nd) (D : Int) (l : List (B × B)) (ok : Bool) : List Nd × Int :=
 if decide (D < 1) || !validB t D then ([], 7) else
 if !ok then (pruneP (keepP t (mapM t D l)) D, 0) else
  if t.length + (mapMore t D l).length > 2048 then ([], 2) else (pruneP (sortT (t.map (nowN l D) ++ mapMore t D l)) D, 0)
def resC (t : List Nd) (D : Int) (ps : List B) (i : Nat) : Bool := (decide (t[i]!.p < 0) || !spec (pn t t[i]!) || spec t[i]! || decide (t[i]!.pol ∈ ps)) && !(spec t[i]! && decide (t[i]!.d = D) && decide (D > 0))
def resM (t : List Nd) (D : Int) (ps : List B) : List Bool := dnM t (resC t D ps) t.length
def haveK (t : List Nd) (D : Int) (ps : List B) (q : B) (k : Nat) : Bool := (List.range k).any fun i => (dnM t (resC t D ps) t.length)[i]! && (decide (t[i]!.p >= 0) && (spec (pn t t[i]!) && (!spec t[i]! && (decide (t[i]!.pol ∈ ps) && decide (t[i]!.pol = q)))))
def idxP (t : List Nd) (f : Nd -> Bool) : Int := if t.findIdx f < t.length then (t.findIdx f : Nat) else -1
def resMore (t out : List Nd) (D : Int) (ps : List B) : List Nd := ((setB ps).filter fun q => !haveK t D ps q t.length).map (newN D (idxP out fun n => spec n && decide (n.d = D - 1)))
def resP (t : List Nd) (D : Int) (ps : List B) : List Nd × Int :=
 if !validB t D then ([], 7) else
 if ps.isEmpty || decide (anyP ∈ ps) then (pruneP t D, 0) else
  let out := keepP t (resM t D ps)
  if t.any (fun n => spec n && decide (n.d = D) && decide (D > 0)) then
   if out.length + (resMore t out D ps).length > 2048 then ([], 2) else (pruneP (sortT (out ++ resMore t out D ps)) D, 0)
  else (pruneP out D, 0)
def polC (t : List Nd) (D : Int) (n : Nd) : Bool := decide (n.p >= 0) && (spec (pn t n) && (!spec n || decide (n.d = D)))
def polK (t : List Nd) (D : Int) (k : Nat) : List B := ((List.range k).filter fun i => polC t D t[i]!).map fun i => t[i]!.pol
theorem polK_succ (t : List Nd) (D : Int) (k : Nat) : polK t D (k + 1) = polK t D k ++ if polC t D t[k]! then [t[k]!.pol] else [] := by
 unfold polK;rw [List.range_succ, List.filter_append, List.map_append]
 cases h : polC t D t[k]! <;> simp [List.filter_cons, h, -List.getElem!_eq_getElem?_getD]
def polP (t : List Nd) (D : Int) : List B := if !validB t D then [] else setB (polK t D t.length)
def spAt (t : List Nd) (D : Int) : Int := idxP t fun n => decide (n.d = D) && spec n
def insL (t xs : List Nd) : List Nd := xs.foldl (fun a x => ins (lt := ltT) x a) t
theorem idxP_none {t : List Nd} {f : Nd -> Bool} (h : idxP t f < 0) : ∀ i, i < t.length -> f t[i]! = false := by
 unfold idxP at h;split at h
 ·omega
 ·rename_i h1
  intro i hi;have := List.findIdx_eq_length.1 (show t.findIdx f = t.length by have := List.findIdx_le_length (p := f) (xs := t); omega);rw [getElem!_pos t i hi];exact this _ (zM hi)
theorem idxP_some {t : List Nd} {f : Nd -> Bool} (h : 0 <= idxP t f) : ∃ i, i < t.length /\ idxP t f = (i : Int) /\ f t[i]! = true /\ ∀ j, j < i -> f t[j]! = false := by
 unfold idxP at h |-;split at h
 ·rename_i h1
  refine ⟨t.findIdx f, h1, by rw [if_pos h1], ?_, fun j hj => ?_⟩
  ·rw [getElem!_pos t _ h1]; exact List.findIdx_getElem
  ·rw [getElem!_pos t j (by omega)];have := List.not_of_lt_findIdx hj;simpa using this
 ·omega
theorem idxP_eq {t : List Nd} {f : Nd -> Bool} {i : Nat} (hi : i < t.length) (h : f t[i]! = true) (hb : ∀ j, j < i -> f t[j]! = false) : idxP t f = (i : Int) := by
 have e : t.findIdx f = i := by
  rw [List.findIdx_eq hi];rw [getElem!_pos t i hi] at h;refine ⟨h, fun j hj => ?_⟩;have := hb j hj;rwa [getElem!_pos t j (by omega)] at this
 unfold idxP; rw [e, if_pos hi]
theorem idxP_no {t : List Nd} {f : Nd -> Bool} (h : ∀ i, i < t.length -> f t[i]! = false) : idxP t f = -1 := by
 unfold idxP;rw [if_neg];intro hlt;have := List.findIdx_getElem (xs := t) (p := f) (w := hlt);have h2 := h _ hlt;rw [getElem!_pos t _ hlt, this] at h2
 cases h2
theorem mem_at {t : List Nd} {n : Nd} : n ∈ t ↔ ∃ i, i < t.length /\ t[i]! = n := by
 constructor
 ·intro h;obtain ⟨i, hi, e⟩ := List.getElem_of_mem h;exact ⟨i, hi, by rw [getElem!_pos t i hi]; exact e⟩
 ·rintro ⟨i, hi, rfl⟩;rw [getElem!_pos t i hi]; exact zM hi
theorem newN_inj {D i j : Int} {p q : B} : newN D i p = newN D j q ↔ i = j /\ p = q := by
 unfold newN;constructor
 ·intro h; injection h with _ h1 h2 _; exact ⟨h1, h2⟩
 ·rintro ⟨rfl, rfl⟩; rfl
theorem newN_lt {D i j : Int} {p q : B} (h : newN D i p ≠ newN D j q) : ltT (newN D i p) (newN D j q) = true \/ ltT (newN D j q) (newN D i p) = true := by
 rw [ltT_iff, ltT_iff];unfold newN;simp only [Int.lt_irrefl, false_or, true_and]
 by_cases h1 : i < j
 ·exact .inl (.inl h1)
 ·by_cases h2 : j < i
  ·exact .inr (.inl h2)
  ·obtain rfl : i = j := by omega
   have hpq : p ≠ q := fun e => h (by rw [e])
   by_cases h3 : p < q
   ·exact .inl (.inr ⟨rfl, h3⟩)
   ·exact .inr (.inr ⟨rfl, ltB_or h3 hpq⟩)
theorem new_pair {D : Int} {l : List Nd} (hn : l.Nodup) (hf : ∀ n ∈ l, ∃ i p, n = newN D i p) : l.Pairwise fun x y => ltT x y = true \/ ltT y x = true := by
 refine List.Pairwise.imp_of_mem ?_ hn;intro a b ha hb hab;obtain ⟨i, p, rfl⟩ := hf a ha;obtain ⟨j, q, rfl⟩ := hf b hb;exact newN_lt hab
theorem insL_length (t xs : List Nd) : (insL t xs).length = t.length + xs.length := fold_length xs t
theorem insL_mem {t xs : List Nd} {n : Nd} : n ∈ insL t xs ↔ n ∈ t \/ n ∈ xs := by
 unfold insL
 induction xs generalizing t with
 | nil => simp
 | cons x xs ih =>
  rw [List.foldl_cons, ih, ins_mem, List.mem_cons];constructor
  ·rintro ((h | h) | h) <;> simp [h]
  ·rintro (h | h | h) <;> simp [h]
theorem insL_srt {t : List Nd} (h : Srt ltT t) (xs : List Nd) : Srt ltT (insL t xs) := fold_srt ltT_ord xs t h
theorem sort_ins {t : List Nd} (h : Srt ltT t) (xs : List Nd) : sortT (t ++ xs) = insL t xs := srtL_append ltT_ord h
theorem moreK_mem {t : List Nd} {D : Int} {pol : List B} {all : Bool} {k : Nat} {n : Nd} : n ∈ moreK t D pol all k ↔ ∃ i, i < k /\ ¬ t[i]!.d < D - 1 /\ ∃ p ∈ childP t D t[i]! pol all, n = newN D (i : Nat) p := by
 unfold moreK;rw [List.mem_flatMap];constructor
 ·rintro ⟨i, hi, hn⟩;rw [List.mem_range] at hi;by_cases h : t[i]!.d < D - 1
  ·rw [if_pos h] at hn; cases hn
  ·rw [if_neg h, List.mem_map] at hn;obtain ⟨p, hp, rfl⟩ := hn;exact ⟨i, hi, h, p, hp, rfl⟩
 ·rintro ⟨i, hi, h, p, hp, rfl⟩;exact ⟨i, List.mem_range.2 hi, by rw [if_neg h]; exact List.mem_map.2 ⟨p, hp, rfl⟩⟩
theorem moreK_nodup (t : List Nd) (D : Int) (pol : List B) (all : Bool) : ∀ k, (moreK t D pol all k).Nodup
 | 0 => List.Pairwise.nil
 | k + 1 => by
  rw [moreK_succ, List.nodup_append];refine ⟨moreK_nodup t D pol all k, ?_, fun a ha b hb e => ?_⟩
  ·split
   ·exact List.Pairwise.nil
   ·unfold List.Nodup;rw [List.pairwise_map];refine List.Pairwise.imp ?_ (asc_nodup (setB_asc _));intro a b hab e;exact hab (newN_inj.1 e).2
  ·obtain ⟨i, hi, -, p, -, rfl⟩ := moreK_mem.1 ha;split at hb
   ·cases hb
   ·obtain ⟨q, -, rfl⟩ := List.mem_map.1 hb;have := (newN_inj.1 e).1;omega
theorem childP_mem {t : List Nd} {D : Int} {n : Nd} {pol : List B} {all : Bool} {p : B} : p ∈ childP t D n pol all ↔ (p ∈ pol /\ wantP t D n p = true) \/ (all = true /\ p ∈ n.ex) := by
 unfold childP;rw [setB_mem, List.mem_append, List.mem_filter]
 cases all <;> simp
theorem wantP_iff {t : List Nd} {D : Int} {n : Nd} {p : B} : wantP t D n p = true ↔ p ≠ anyP /\ (p ∈ n.ex \/ (expdP t D p = false /\ n.pol = anyP)) := by
 unfold wantP spec;simp [-List.getElem!_eq_getElem?_getD]
theorem expdP_iff {t : List Nd} {D : Int} {p : B} : expdP t D p = true ↔ ∃ i, i < t.length /\ t[i]!.d = D - 1 /\ p ∈ t[i]!.ex := by
 unfold expdP;rw [List.any_eq_true];constructor
 ·rintro ⟨n, hn, h⟩;obtain ⟨i, hi, rfl⟩ := mem_at.1 hn;rw [Bool.and_eq_true, decide_eq_true_eq, decide_eq_true_eq] at h;exact ⟨i, hi, h⟩
 ·rintro ⟨i, hi, h⟩;exact ⟨t[i]!, mem_at.2 ⟨i, hi, rfl⟩, by rw [Bool.and_eq_true, decide_eq_true_eq, decide_eq_true_eq]; exact h⟩
structure R2 (t : List Nd) (D : Int) (S : Nd -> Prop) (xs : List Nd) : Prop where
 nd : xs.Nodup
 form : ∀ n ∈ xs, ∃ i p, n = newN D i p
 mem : ∀ n, n ∈ xs ↔ S n
theorem VT.spAt_iff {t : List Nd} {D : Int} (V : VT t D) {i : Nat} (hi : i < t.length) : spAt t D = (i : Int) ↔ t[i]!.d = D /\ t[i]!.pol = anyP := by
 unfold spAt;constructor
 ·intro h;obtain ⟨j, hj, e, hf, -⟩ := idxP_some (t := t) (f := fun n => decide (n.d = D) && spec n) (by omega);obtain rfl : i = j := by omega
  rw [Bool.and_eq_true, decide_eq_true_eq] at hf;unfold spec at hf;rw [decide_eq_true_eq] at hf;exact hf
 ·rintro ⟨h1, h2⟩;refine idxP_eq hi (by unfold spec; rw [h1, h2]; simp) fun j hj => ?_
  cases q : (decide (t[j]!.d = D) && spec t[j]!) with
  | false => rfl
  | true =>
   unfold spec at q;rw [Bool.and_eq_true, decide_eq_true_eq, decide_eq_true_eq] at q;have := V.one j i (by omega) hi (by omega) q.2 h2;omega
theorem VT.pge {t : List Nd} {D : Int} (V : VT t D) {i : Nat} (hi : i < t.length) : -1 <= t[i]!.p /\ t[i]!.p < i := by
 by_cases h0 : i = 0
 ·subst h0; have := (V.root hi).2.1; omega
 ·have := V.par i (by omega) hi; omega
theorem VT.root0 {t : List Nd} {D : Int} (V : VT t D) {i : Nat} (hi : i < t.length) : t[i]!.p < 0 ↔ i = 0 := by
 constructor
 ·intro h;by_cases h0 : i = 0
  ·exact h0
  ·have := V.par i (by omega) hi; omega
 ·rintro rfl;have := (V.root hi).2.1; omega
theorem VT.pard {t : List Nd} {D : Int} (V : VT t D) {i : Nat} (hi : i < t.length) (h : 0 <= t[i]!.p) : t[i]!.p.toNat < i /\ t[t[i]!.p.toNat]!.d = t[i]!.d - 1 := by
 have h0 : 0 < i := by
  rcases Nat.eq_zero_or_pos i with q | q
  ·have := (V.root0 hi).2 q; omega
  ·exact q
 have a := V.par i h0 hi;have b := V.dd i h0 hi;unfold pn at b;omega
theorem mapP_at {t : List Nd} {β : Type} [Inhabited β] (f : Nd -> β) {i : Nat} (hi : i < t.length) : (t.map f)[i]! = f t[i]! := by
 rw [getElem!_pos (t.map f) i (by simpa using hi), getElem!_pos t i hi, List.getElem_map]
section
variable {t : List Nd} {D : Int}
theorem lastS_eq (V : VT t D) : ∀ k, k <= t.length -> lastS t D k = if 0 <= spAt t D /\ spAt t D < k then t[(spAt t D).toNat]!.p else -1
 | 0, _ => by rw [if_neg (by omega)]; rfl
 | k + 1, hk => by
  unfold lastS;have hi : k < t.length := by omega
  have hle := V.le k hi;by_cases h : t[k]!.d = D /\ t[k]!.pol = anyP
  ·have e := (V.spAt_iff hi).2 h;rw [if_pos (by unfold spec; simp [h, -List.getElem!_eq_getElem?_getD]), e, if_pos (by omega)]; simp
  ·have e : spAt t D ≠ (k : Int) := fun e => h ((V.spAt_iff hi).1 e)
   rw [if_neg, lastS_eq V k (by omega)]
   ·by_cases q : 0 <= spAt t D /\ spAt t D < k
    ·rw [if_pos q, if_pos (by omega)]
    ·rw [if_neg q, if_neg (by omega)]
   ·unfold spec;intro q;rw [Bool.and_eq_true, Bool.not_eq_true', decide_eq_false_iff_not, decide_eq_true_eq] at q;exact h ⟨by omega, q.2⟩
end
theorem spec_iff {n : Nd} : spec n = true ↔ n.pol = anyP := by unfold spec; simp
structure Bs (t : List Nd) (D : Int) (a : Nat) : Prop where
 le : a <= t.length
 lo : ∀ j, j < a -> t[j]!.d < D
 hi : ∀ j, a <= j -> j < t.length -> t[j]!.d = D
 pa : ∀ j, j < t.length -> -1 <= t[j]!.p /\ t[j]!.p < a /\ t[j]!.p < j
theorem ins_lo {x : Nd} : ∀ (A L : List Nd), (∀ n ∈ A, ltT x n = false) -> ins (lt := ltT) x (A ++ L) = A ++ ins (lt := ltT) x L
 | [], L, _ => rfl
 | y :: A, L, h => by
  rw [List.cons_append, ins, if_neg (by rw [h y (by simp)]; simp), ins_lo A L fun n hn => h n (by simp [hn])]; rfl
theorem getElem!_append_left' {α : Type} [Inhabited α] {A L : List α} {i : Nat} (h : i < A.length) : (A ++ L)[i]! = A[i]! := by
 rw [List.getElem!_eq_getElem?_getD, List.getElem!_eq_getElem?_getD, List.getElem?_append_left h]
theorem getElem!_append_right' {α : Type} [Inhabited α] {A L : List α} {i : Nat} (h : A.length <= i) : (A ++ L)[i]! = L[i - A.length]! := by
 rw [List.getElem!_eq_getElem?_getD, List.getElem!_eq_getElem?_getD, List.getElem?_append_right h]
theorem getElem!_take' {α : Type} [Inhabited α] {l : List α} {a i : Nat} (h : i < a) : (l.take a)[i]! = l[i]! := by
 rw [List.getElem!_eq_getElem?_getD, List.getElem!_eq_getElem?_getD, List.getElem?_take_of_lt h]
def rresC (t : List Nd) (ps : List B) (free : Bool) (i : Nat) : Bool := free || (decide (i = 0) || (!spec (pn t t[i]!) || (spec t[i]! || decide (t[i]!.pol ∈ ps))))
section
variable {t : List Nd} {D : Int}
theorem VT.dn (V : VT t D) (c : Nat -> Bool) {i : Nat} (hi : i < t.length) : (dnM t c t.length)[i]! = (c i && (decide (t[i]!.p < 0) || (dnM t c t.length)[t[i]!.p.toNat]!)) := dnM_at t c _ i hi (V.pge hi).2
def isX (D : Int) (n : Nd) : Bool := spec n && decide (n.d = D) && decide (D > 0)
theorem res_marks (V : VT t D) (ps : List B) : ∀ i, i < t.length -> (resM t D ps)[i]! = ((dnM t (rresC t ps false) t.length)[i]! && !isX D t[i]!) := by
 intro i
 induction i using Nat.strongRecOn with
 | _ i ih =>
  intro hi;unfold resM;rw [V.dn _ hi, V.dn _ hi]
  have e : resC t D ps i = (rresC t ps false i && !isX D t[i]!) := by
   unfold resC rresC isX;rw [show decide (t[i]!.p < 0) = decide (i = 0) by rw [Bool.eq_iff_iff, decide_eq_true_eq, decide_eq_true_eq]; exact V.root0 hi];simp [Bool.or_assoc, -List.getElem!_eq_getElem?_getD]
  rw [e];by_cases q : t[i]!.p < 0
  ·rw [zT q]; simp [-List.getElem!_eq_getElem?_getD]
  ·obtain ⟨h1, h2⟩ := V.pard hi (by omega);have h3 := ih _ h1 (by omega);unfold resM at h3
   have hx : isX D t[t[i]!.p.toNat]! = false := by
    unfold isX;have := V.le i hi;rw [zF (show ¬ t[t[i]!.p.toNat]!.d = D by omega)]; simp
   rw [h3, hx]
   cases rresC t ps false i <;> cases isX D t[i]! <;> simp [-List.getElem!_eq_getElem?_getD]
theorem res_spec (V : VT t D) (ps : List B) : ∀ i, i < t.length -> t[i]!.pol = anyP -> (dnM t (rresC t ps false) t.length)[i]! = true := by
 intro i
 induction i using Nat.strongRecOn with
 | _ i ih =>
  intro hi hs;rw [V.dn _ hi];have e : rresC t ps false i = true := by unfold rresC; rw [spec_iff.2 hs]; simp
  rw [e];by_cases q : t[i]!.p < 0
  ·rw [zT q]; rfl
  ·obtain ⟨h1, h2⟩ := V.pard hi (by omega);have h0 : 0 < i := by omega
   rw [ih _ h1 (by omega) (V.sp i h0 hi hs).1]; simp
theorem res_par (V : VT t D) (c : Nat -> Bool) {i : Nat} (hi : i < t.length) (hm : (dnM t c t.length)[i]! = true) (hp : 0 <= t[i]!.p) : (dnM t c t.length)[t[i]!.p.toNat]! = true := by
 rw [V.dn _ hi, zF (by omega)] at hm;simp only [Bool.false_or, Bool.and_eq_true] at hm
 exact hm.2
theorem keep_mem {m : List Bool} {n : Nd} : n ∈ keepP t m ↔ ∃ i, i < t.length /\ m[i]! = true /\ n = kpN m t[i]! := by
 rw [mem_at];constructor
 ·rintro ⟨j, hj, rfl⟩;obtain ⟨i, h1, h2, h3, h4⟩ := keepP_from t m hj;exact ⟨i, h1, h2, h4⟩
 ·rintro ⟨i, h1, h2, rfl⟩;exact ⟨rk m i, by rw [keepP_length]; exact rk_lt m h1 h2, keepP_at t m h1 h2⟩
end
section
variable {t : List Nd} {D : Int}
theorem any_at {f : Nd -> Bool} : t.any f = true ↔ ∃ i, i < t.length /\ f t[i]! = true := by
 rw [List.any_eq_true];constructor
 ·rintro ⟨n, hn, h⟩;obtain ⟨i, hi, rfl⟩ := mem_at.1 hn;exact ⟨i, hi, h⟩
 ·rintro ⟨i, hi, h⟩;exact ⟨_, mem_at.2 ⟨i, hi, rfl⟩, h⟩
theorem spAt_lt (t : List Nd) (D : Int) : spAt t D < t.length := by
 unfold spAt idxP;split
 ·rename_i h; omega
 ·omega
end
end Go.Proofs.YtmagjdocondmhaaGreat.Tr
namespace Go.Proofs.YtmagjdocondmhaaGreat.Mp
open Go Go.RowKit Go.Maps
abbrev DW := DataW Unit
structure Ky (P : Program) (kt : TypeId) (K : Type) where
 lit : K -> Lit
 val : K -> Value
 ok : K -> Prop
 keyed : Keyed P kt
 key : ∀ k, WideAt.IsKeyLit (lit k)
 inj : ∀ a b, lit a = lit b -> a = b
 of : ∀ k, ok k -> keyOf P kt (val k) = some (lit k)
def I64 (k : Int) : Prop := -9223372036854775808 <= k /\ k <= 9223372036854775807
def kyInt {P : Program} {kt : TypeId} (h : P.underlying kt = some (.int .i64)) : Ky P kt Int where
 lit k := .int .i64 k
 val k := .int .i64 k
 ok := I64
 keyed := int_keyed h
 key k := trivial
 inj a b e := by injection e
 of k hk := keyOf_int_mk h ((Lit.wf_int_iff _ _).2 hk)
def kyStr {P : Program} {kt : TypeId} (h : P.underlying kt = some .string) : Ky P kt (List UInt8) where
 lit k := .string k
 val k := .string ⟨k.toArray⟩
 ok k := k.length <= maxLen
 keyed := string_keyed h
 key k := trivial
 inj a b e := by injection e
 of k hk := WideMaps.keyOf_string_mk h (by show k.toArray.size <= _; simpa using hk)
section
variable {P : Program} {kt e t : TypeId} {K : Type}
structure IsF (Y : Ky P kt K) {γ : Type} (ed : γ -> DW) (D : DW) (f : K -> Option γ) : Prop where
 tidy : Tidy D
 at_ : ∀ (k : K) z, D.atKey (Y.lit k) z = match f k with | some d => ed d | none => z
 has_ : ∀ k : K, Maps.has D (Y.lit k) = (f k).isSome
variable {γ : Type} {ed : γ -> DW} {Y : Ky P kt K}
theorem IsF.empty (Y : Ky P kt K) (ed : γ -> DW) : IsF Y ed (.map []) (fun _ => none) := ⟨tidy_empty, fun n z => rfl, fun n => rfl⟩
theorem IsF.put [DecidableEq K] {D : DW} {f : K -> Option γ} (h : IsF Y ed D f) (k : K) (x : γ) : IsF Y ed (D.put (Y.lit k) (ed x)) (fun j => if j = k then some x else f j) := by
 refine ⟨h.tidy.put (Y.key k) _, fun m z => ?_, fun m => ?_⟩
 ·by_cases q : m = k
  ·subst q; rw [atKey_put_same h.tidy.isMap (Y.key _)]; simp
  ·rw [atKey_put_other (fun q2 => q (Y.inj _ _ q2)), h.at_ m z]; simp [q]
 ·by_cases q : m = k
  ·subst q; rw [has_put_same h.tidy.isMap (Y.key _)]; simp
  ·rw [has_put_other (fun q2 => q (Y.inj _ _ q2)), h.has_ m]; simp [q]
def OwnF (w : World) (Y : Ky P kt K) (R : Value -> Option (DW × List MemPlace)) (ed : γ -> DW) (b n : Nat) (f : K -> Option γ) : Prop := ∃ D : DW, w.ownsMap P kt R b n D /\ IsF Y ed D f
variable {R : Value -> Option (DW × List MemPlace)} {w : World} {b n : Nat} {f : K -> Option γ}
theorem OwnF.lt (h : OwnF w Y R ed b n f) : b < w.heap.size := by obtain ⟨D, h, _⟩ := h; exact h.lt
theorem OwnF.kept {w' : World} {row : Option Nat} (h : OwnF w Y R ed b n f) (hg : w.grownBy w' row) (hne : some b ≠ row) : OwnF w' Y R ed b n f := by
 obtain ⟨D, h, hm⟩ := h; exact ⟨D, h.kept hg hne, hm⟩
theorem OwnF.block {w' : World} (h : OwnF w Y R ed b n f) (hb : w'.heap[b]? = w.heap[b]?) : OwnF w' Y R ed b n f := by
 obtain ⟨D, ⟨es, clock, hh, r⟩, hm⟩ := h;exact ⟨D, ⟨es, clock, by rw [hb]; exact hh, r⟩, hm⟩
theorem OwnF.below {w' : World} (h : OwnF w Y R ed b n f) (hb : Below w.heap.size w w') : OwnF w' Y R ed b n f := h.block (hb.block b h.lt)
theorem OwnF.mono {n' : Nat} (h : OwnF w Y R ed b n f) (hn : n <= n') : OwnF w Y R ed b n' f := by
 obtain ⟨D, h, hm⟩ := h; exact ⟨D, h.mono hn, hm⟩
theorem OwnF.made (w : World) (Y : Ky P kt K) (R : Value -> Option (DW × List MemPlace)) (ed : γ -> DW) : OwnF (w.alloc (.map #[] 0)) Y R ed w.heap.size 0 (fun _ => none) := ⟨_, World.ownsMap_made w P kt R, IsF.empty Y ed⟩
theorem OwnF.put [DecidableEq K] (h : OwnF w Y R ed b n f) (ht : P.underlying t = some (.map kt e)) (hn : n < maxLen) {k : K} (hw : Y.ok k) (x : γ) (v : Value) (hx : R v = some (ed x, [])) :
  ∃ w', (Instr.mapUpdate t (.map (some b)) (Y.val k) v).run P w = .ok () w' /\ OwnF w' Y R ed b (n + 1) (fun j => if j = k then some x else f j) /\ w.grownBy w' (some b) := by
 obtain ⟨D, h, hm⟩ := h;obtain ⟨w', h1, h2, h3⟩ := h.update Y.keyed ht hn (Y.of k hw) hx;exact ⟨w', h1, ⟨_, h2, hm.put k x⟩, h3⟩
theorem OwnF.look (h : OwnF w Y R ed b n f) (ht : P.underlying t = some (.map kt e)) (ev : γ -> Value) (z0 : γ) (hz : (zeroValue e).run P w = .ok (ev z0) w) (hR : ∀ x, R (ev x) = some (ed x, []))
  (hinv : ∀ v x ps, R v = some (ed x, ps) -> v = ev x) {k : K} (hw : Y.ok k) :
  (Instr.lookup t (.map (some b)) (Y.val k) false).run P w = .ok (ev ((f k).getD z0)) w /\
  (Instr.lookup t (.map (some b)) (Y.val k) true).run P w = .ok (.tuple #[ev ((f k).getD z0), .bool (f k).isSome]) w := by
 obtain ⟨D, h, hm⟩ := h;have hat : D.atKey (Y.lit k) (ed z0) = ed ((f k).getD z0) := by rw [hm.at_]; cases f k <;> rfl
 obtain ⟨v, ps, h1, h2⟩ := h.lookup Y.keyed ht hz (hR z0) (Y.of k hw);obtain ⟨v', ps', h1', h2'⟩ := h.look_ok Y.keyed ht hz (hR z0) (Y.of k hw);rw [hm.has_] at h1';rw [hat] at h2 h2';exact ⟨by rw [h1, hinv _ _ _ h2], by rw [h1', hinv _ _ _ h2']⟩
end
section
variable {P : Program} {kt e t : TypeId} {γ : Type} {ed : γ -> DW} {R : Value -> Option (DW × List MemPlace)} {w : World} {b n : Nat}
theorem OwnF.putI {hk : P.underlying kt = some (.int .i64)} {f : Int -> Option γ} (h : OwnF w (kyInt hk) R ed b n f) (ht : P.underlying t = some (.map kt e)) (hn : n < maxLen) {k : Int} (hw : I64 k) (x : γ) (v : Value) (hx : R v = some (ed x, [])) :
  ∃ w', (Instr.mapUpdate t (.map (some b)) (.int .i64 k) v).run P w = .ok () w' /\ OwnF w' (kyInt hk) R ed b (n + 1) (fun j => if j = k then some x else f j) /\ w.grownBy w' (some b) := h.put ht hn (k := k) hw x v hx
theorem OwnF.putS {hk : P.underlying kt = some .string} {f : List UInt8 -> Option γ} (h : OwnF w (kyStr hk) R ed b n f) (ht : P.underlying t = some (.map kt e)) (hn : n < maxLen) {k : List UInt8} (hw : k.length <= maxLen) (x : γ) (v : Value) (hx : R v = some (ed x, [])) :
  ∃ w', (Instr.mapUpdate t (.map (some b)) (.string ⟨k.toArray⟩) v).run P w = .ok () w' /\ OwnF w' (kyStr hk) R ed b (n + 1) (fun j => if j = k then some x else f j) /\ w.grownBy w' (some b) := h.put ht hn (k := k) hw x v hx
theorem OwnF.lookI {hk : P.underlying kt = some (.int .i64)} {f : Int -> Option γ} (h : OwnF w (kyInt hk) R ed b n f) (ht : P.underlying t = some (.map kt e)) (ev : γ -> Value) (z0 : γ) (hz : (zeroValue e).run P w = .ok (ev z0) w) (hR : ∀ x, R (ev x) = some (ed x, []))
  (hinv : ∀ v x ps, R v = some (ed x, ps) -> v = ev x) {k : Int} (hw : I64 k) :
  (Instr.lookup t (.map (some b)) (.int .i64 k) false).run P w = .ok (ev ((f k).getD z0)) w /\
  (Instr.lookup t (.map (some b)) (.int .i64 k) true).run P w = .ok (.tuple #[ev ((f k).getD z0), .bool (f k).isSome]) w := h.look ht ev z0 hz hR hinv (k := k) hw
theorem OwnF.lookS {hk : P.underlying kt = some .string} {f : List UInt8 -> Option γ} (h : OwnF w (kyStr hk) R ed b n f) (ht : P.underlying t = some (.map kt e)) (ev : γ -> Value) (z0 : γ) (hz : (zeroValue e).run P w = .ok (ev z0) w) (hR : ∀ x, R (ev x) = some (ed x, []))
  (hinv : ∀ v x ps, R v = some (ed x, ps) -> v = ev x) {k : List UInt8} (hw : k.length <= maxLen) :
  (Instr.lookup t (.map (some b)) (.string ⟨k.toArray⟩) false).run P w = .ok (ev ((f k).getD z0)) w /\
  (Instr.lookup t (.map (some b)) (.string ⟨k.toArray⟩) true).run P w = .ok (.tuple #[ev ((f k).getD z0), .bool (f k).isSome]) w := h.look ht ev z0 hz hR hinv (k := k) hw
end
abbrev edB (b : Bool) : DW := .lit (.bool b)
abbrev edI (x : Int) : DW := .lit (.int .i64 x)
def rdB : Value -> Option (DW × List MemPlace)
 | .bool b => some (edB b, [])
 | _ => none
def rdI : Value -> Option (DW × List MemPlace)
 | .int .i64 x => some (edI x, [])
 | _ => none
theorem rdB_mk (b : Bool) : rdB (.bool b) = some (edB b, []) := rfl
theorem rdI_mk (x : Int) : rdI (.int .i64 x) = some (edI x, []) := rfl
theorem rdB_inv (v : Value) (b : Bool) (ps : List MemPlace) (h : rdB v = some (edB b, ps)) : v = .bool b := by
 unfold rdB at h;split at h
 ·simp only [zO, Prod.mk.injEq, DataW.lit.injEq, Lit.bool.injEq] at h; rw [h.1]
 ·cases h
theorem rdI_inv (v : Value) (b : Int) (ps : List MemPlace) (h : rdI v = some (edI b, ps)) : v = .int .i64 b := by
 unfold rdI at h;split at h
 ·simp only [zO, Prod.mk.injEq, DataW.lit.injEq, Lit.int.injEq, true_and] at h; rw [h.1]
 ·cases h
structure Sg where
 ad : Option (Nat × Nat)
 n : Nat
 c : Nat
def Sg.val (s : Sg) : Value := .slice (s.ad.map fun p => ⟨p.1, p.2, none⟩) s.n s.c
def edS (s : Sg) : DW := match s.ad with
 | none => .agg [.lit (.int .i64 s.n), .lit (.int .i64 s.c)]
 | some p => .agg [.lit (.int .i64 p.1), .lit (.int .i64 p.2), .lit (.int .i64 s.n), .lit (.int .i64 s.c)]
def rdS : Value -> Option (DW × List MemPlace)
 | .slice none n c => some (edS ⟨none, n, c⟩, [])
 | .slice (some ⟨b, o, none⟩) n c => some (edS ⟨some (b, o), n, c⟩, [])
 | _ => none
theorem rdS_mk (s : Sg) : rdS s.val = some (edS s, []) := by
 obtain ⟨ad, n, c⟩ := s
 cases ad <;> rfl
theorem edS_inj {s s' : Sg} (h : edS s = edS s') : s = s' := by
 obtain ⟨ad, n, c⟩ := s;obtain ⟨ad', n', c'⟩ := s';unfold edS at h
 cases ad <;> cases ad' <;> simp at h
 ·obtain ⟨h1, h2⟩ := h; congr 1 <;> omega
 ·rename_i p q
  obtain ⟨p1, p2⟩ := p;obtain ⟨q1, q2⟩ := q;simp at h
  obtain ⟨h1, h2, h3, h4⟩ := h;obtain rfl : p1 = q1 := by omega
  obtain rfl : p2 = q2 := by omega
  congr 1 <;> omega
theorem rdS_inv (v : Value) (s : Sg) (ps : List MemPlace) (h : rdS v = some (edS s, ps)) : v = s.val := by
 unfold rdS at h;split at h
 ·simp only [zO, Prod.mk.injEq] at h
  rw [<- edS_inj h.1]; rfl
 ·simp only [zO, Prod.mk.injEq] at h
  rw [<- edS_inj h.1]; rfl
 ·cases h
end Go.Proofs.YtmagjdocondmhaaGreat.Mp
namespace Go.Proofs.YtmagjdocondmhaaGreat.Tr
open Go Go.RowKit Slc St Mp
attribute [local go_sem] Oper.semAt_some
theorem u_int : Tryz.prog.underlying 3 = some (.int .i64) := Tryz.underlying3
theorem u_mapIB : Tryz.prog.underlying 72 = some (.map 3 4) := Tryz.underlying72
noncomputable abbrev kI : Ky Tryz.prog 3 Int := kyInt u_int
def parK (l : List Nd) (k : Nat) : Int -> Option Bool := fun j => if (l.take k).any (fun n => decide (n.p = j)) then some true else none
theorem parK_zero (l : List Nd) : parK l 0 = fun _ => none := by funext j; simp [parK]
theorem parK_succ (l : List Nd) (k : Nat) (hk : k < l.length) : parK l (k + 1) = fun j => if j = l[k]!.p then some true else parK l k j := by
 funext j
 unfold parK;rw [zA hk, List.any_append, getElem!_pos l k hk];by_cases e : j = (l[k]).p
 ·rw [if_pos e]; simp [e]
 ·have : decide ((l[k]).p = j) = false := zF fun h => e h.symm
  rw [if_neg e]; simp [this]
theorem nds_len (l : List Nt) : (nds l).length = l.length := by simp [nds]
theorem fitB_p {l : List Nd} {i : Nat} {D : Int} (h : fitB l i D = true) (hi : i <= 100000) : I64 l[i]!.p := by
 by_cases h0 : i = 0
 ·subst h0;unfold fitB at h;rw [if_pos rfl, fit0_iff] at h;unfold I64; omega
 ·have := (fitB_iff l i (by omega) D).1 h;unfold I64; omega
theorem valid_bad1 {l : List Nd} {D : Int} {i : Nat} (hi : i < l.length) (h : fitB l i D = false) : validB l D = false := by
 unfold validB;rw [Bool.and_eq_false_iff, Bool.and_eq_false_iff];right; left
 rw [List.all_eq_false];exact ⟨i, List.mem_range.2 hi, by rw [h]; simp⟩
theorem valid_bad2 {l : List Nd} {D : Int} {i : Nat} (hi : i < l.length) (h : l[i]!.d < D) (h2 : parK l l.length i = none) : validB l D = false := by
 unfold validB;rw [Bool.and_eq_false_iff, Bool.and_eq_false_iff];right; right
 rw [List.all_eq_false];refine ⟨i, List.mem_range.2 hi, ?_⟩;unfold parK at h2;rw [List.take_length] at h2;split at h2
 ·cases h2
 ·rename_i q
  rw [zT h, Bool.not_true, Bool.false_or]; exact q
theorem valid_good {l : List Nd} {D : Int} (h0 : ¬ D < 0) (h1 : ¬ l.length > 2048) (h2 : ∀ i, i < l.length -> fitB l i D = true) (h3 : ∀ i, i < l.length -> l[i]!.d < D -> parK l l.length i = some true) : validB l D = true := by
 unfold validB;rw [zF h0, zF h1];simp only [Bool.or_self, Bool.not_false, Bool.true_and, Bool.and_eq_true, List.all_eq_true, List.mem_range]
 refine ⟨h2, fun i hi => ?_⟩;by_cases q : l[i]!.d < D
 ·have := h3 i hi q;unfold parK at this;rw [List.take_length] at this;split at this
  ·rename_i q2; rw [q2]; simp
  ·cases this
 ·rw [zF q]; rfl
theorem valid_q (w : World) (v : Value) (l : List Nt) (h : TQ w v l) (hn : l.length <= 100000) (D : Int) :
  Calls Tryz.prog 80 #[v, .int .i64 D] w fun e w' => e = .returned (.bool (validB (nds l) D)) /\ Below w.heap.size w w' := by
 obtain ⟨R, hR⟩ : ∃ R, R = validB (nds l) D := ⟨_, rfl⟩
 rw [<- hR];have HR := Bx.mk hR;obtain ⟨ad, c, rfl, -⟩ := h.rd.form;have HL := Bx.mk h;have HC := Bx.mk h.cells.2;obtain ⟨N, hN⟩ : ∃ N, N = l.length := ⟨_, rfl⟩
 have HN := Bx.mk hN;rw [<- hN] at hn |-;clear h hR hN;by_cases hD : D < 0
 ·have HF := Bx.mk (show R = false by rw [HR.out]; unfold validB; rw [zT hD]; rfl);have t0 : decide (D < 0) = true := zT hD;clear hD;go_enter Tryz.func80, Tryz.ntmps80;go_wp2_with fail
  go_ret;exact ⟨by rw [HF.out]; rfl, Below.refl _ _⟩
 have t0 : decide (D < 0) = false := zF hD;by_cases hNb : N > 2048
 ·have HF := Bx.mk (show R = false by rw [HR.out]; unfold validB; rw [nds_len, <- HN.out, zT hNb]; simp);have t1 : decide ((N : Int) > 2048) = true := zT (by omega);clear hD hNb;go_enter Tryz.func80, Tryz.ntmps80;go_wp2_with fail
  go_ret;exact ⟨by rw [HF.out]; rfl, Below.refl _ _⟩
 have t1 : decide ((N : Int) > 2048) = false := zF (by omega);have HDN := Bx.mk (And.intro hD hNb);have hN2 : N <= 2048 := by omega
 clear hD hNb hn;have hmm := @run_makeMap Tryz.prog;have HM0 := Bx.mk (show OwnF (w.alloc (.map #[] 0)) kI rdB edB w.heap.size 0 (parK (nds l) 0) by rw [parK_zero]; exact OwnF.made w kI rdB edB);have HB0 := Bx.mk (show Below w.heap.size w (w.alloc (.map #[] 0)) from (Below.refl _ _).alloc (zR _) _);obtain ⟨W0, hW0⟩ : ∃ W0, W0 = w.alloc (.map #[] 0) := ⟨_, rfl⟩
 rw [<- hW0] at HM0 HB0;go_enter Tryz.func80, Tryz.ntmps80;go_wp2_with fail
 rw [<- hW0];clear hW0 hmm t0 t1;obtain ⟨p, hp⟩ : ∃ p, p = w.heap.size := ⟨_, rfl⟩
 have HP := Bx.mk hp;rw [<- hp] at HM0 HB0 |-;clear hp;go_loopw [20] (fun i wr => ∃ k : Nat, k <= N /\ i = .int .i64 k /\ Bx (∀ j, j < k -> fitB (nds l) j D = true) /\ Bx (OwnF wr kI rdB edB p k (parK (nds l) k)) /\ Bx (Below p w wr)) (fun i _ => N - (intOf i).toNat)
 case atStart => exact ⟨0, by omega, rfl, ⟨fun j hj => by omega⟩, HM0, HB0⟩
 case round =>
  obtain ⟨k, hk, rfl, hfd, hM, hBw⟩ := hrel;have hBw' : Below w.heap.size w wr := HP.out ▸ hBw.out;by_cases hlt : k < N
  ·have hkl : k < l.length := by rw [<- HN.out]; exact hlt
   obtain ⟨b, o, rfl, hbl, c0, c1, c2, c3⟩ := HC.out wr hBw' k hkl;have HLW := Bx.mk (HL.out.below hBw');have HX := Bx.mk (show (nds l)[k]! = (l[k]).n from nds_at l k hkl);obtain ⟨x, hx⟩ : ∃ x, x = l[k] := ⟨_, rfl⟩
   rw [<- hx] at c0 c1 c2 c3 HX;simp only [Sl.val] at c3
   clear hx hBw' hbl;go_upto_region 7 with fail
   obtain ⟨W1, hW1⟩ : ∃ W1, W1 = wr.alloc (.cells #[.int .i64 x.n.d, .int .i64 x.n.p, .string (bstr x.n.pol), .slice x.u.ad x.u.n x.u.c] 111) := ⟨_, rfl⟩
   have HB1 := Bx.mk (show Below wr.heap.size wr W1 by rw [hW1]; exact (Below.refl _ _).alloc (zR _) _);have hq1 : W1.heap[wr.heap.size]? = some (.cells #[.int .i64 x.n.d, .int .i64 x.n.p, .string (bstr x.n.pol), .slice x.u.ad x.u.n x.u.c] 111 (0, 0)) := by rw [hW1]; exact heap_alloc_new _ _
   rw [<- hW1];clear hW1 c0 c1 c2 c3;have HQ1 := Bx.mk hq1;have hcall := fits_q W1 _ l (HLW.out.below HB1.out) k hkl (by have := HN.out; omega) D;obtain ⟨q, hq⟩ : ∃ q, q = fitB (nds l) k D := ⟨_, rfl⟩
   have HQ := Bx.mk hq;rw [<- HN.out, <- hq] at hcall;clear hq hq1 hkl;go_wp2_with fail
   go_at_call 115;refine hcall.mono ?_;rintro e w2 ⟨rfl, hb2⟩;have HB2 := Bx.mk hb2;have HM2 := Bx.mk ((hM.out.below HB1.out).below hb2);have HBP := Bx.mk (show Below p w w2 from (hBw.out.trans (HB1.out.mono (by have := hBw.out.size; have := HP.out; omega))).trans (hb2.mono (by have := hBw.out.size; have := HB1.out.size; have := HP.out; omega)));have HQ2 := Bx.mk ((hb2.block _ (lt_of_some HQ1.out)).trans HQ1.out);clear hcall hb2
   cases q with
   | false =>
    have HF := Bx.mk (show R = false by rw [HR.out]; exact valid_bad1 (i := k) (by rw [nds_len, <- HN.out]; exact hlt) HQ.out.symm);go_wp2_with fail
    go_ret
    exact ⟨by rw [HF.out]; rfl, HP.out ▸ HBP.out⟩
   | true =>
    have hpi := fitB_p HQ.out.symm (by omega);rw [HX.out] at hpi;obtain ⟨w3, hrun, hop, hgr⟩ := HM2.out.putI u_mapIB (by unfold maxLen; omega) hpi true (.bool true) (rdB_mk _);have hq := HQ2.out;have k1 := cell_of_row _ _ 1 _ _ _ hq;simp only [List.getElem?_toArray, List.getElem?_cons_zero, List.getElem?_cons_succ] at k1
    have HOP := Bx.mk hop;have HGR := Bx.mk hgr;clear hpi hop hgr hq;go_wp2_with fail
    go_roundw
    case rel => exact ⟨k + 1, by omega, by go_num, ⟨fun j hj => by
     by_cases e : j = k
     ·subst e; exact HQ.out.symm
     ·exact hfd.out j (by omega)⟩, ⟨by rw [parK_succ _ _ (by rw [nds_len, <- HN.out]; exact hlt), HX.out]; exact HOP.out⟩, ⟨HBP.out.grown HGR.out (by have := HBP.out.size; have := HP.out; omega) (fun k hk => by simp only [zO] at hk; omega)⟩⟩
    case measure => simp [intOf]; omega
  ·obtain rfl : N = k := by omega
   have HAB := Bx.mk hfd.out;clear hfd hBw';go_wp2_with fail
   obtain ⟨wo, rfl⟩ : ∃ wo : World, wo = wr := ⟨_, rfl⟩
   go_loopw [36] (fun i wr => ∃ k : Nat, k <= N /\ i = .int .i64 k /\ Bx (∀ j, j < k -> (nds l)[j]!.d < D -> parK (nds l) N j = some true) /\ Bx (OwnF wr kI rdB edB p N (parK (nds l) N)) /\ Bx (Below p w wr)) (fun i _ => N - (intOf i).toNat)
   case atStart => exact ⟨0, by omega, rfl, ⟨fun j hj => by omega⟩, hM, hBw⟩
   case round =>
    clear hM hBw;obtain ⟨k, hk2, rfl, hfd, hM, hBw⟩ := hrel;have hBw' : Below w.heap.size w wr := HP.out ▸ hBw.out;by_cases hlt : k < N
    ·have hkl : k < l.length := by rw [<- HN.out]; exact hlt
     obtain ⟨b, o, rfl, hbl, c0, c1, c2, c3⟩ := HC.out wr hBw' k hkl;have HX := Bx.mk (show (nds l)[k]! = (l[k]).n from nds_at l k hkl);obtain ⟨x, hx⟩ : ∃ x, x = l[k] := ⟨_, rfl⟩
     rw [<- hx] at c0 c1 c2 c3 HX;simp only [Sl.val] at c3
     clear hx hBw' hbl;go_upto_region 14 with fail
     obtain ⟨W1, hW1⟩ : ∃ W1, W1 = wr.alloc (.cells #[.int .i64 x.n.d, .int .i64 x.n.p, .string (bstr x.n.pol), .slice x.u.ad x.u.n x.u.c] 111) := ⟨_, rfl⟩
     have HB1 := Bx.mk (show Below wr.heap.size wr W1 by rw [hW1]; exact (Below.refl _ _).alloc (zR _) _);have hq1 : W1.heap[wr.heap.size]? = some (.cells #[.int .i64 x.n.d, .int .i64 x.n.p, .string (bstr x.n.pol), .slice x.u.ad x.u.n x.u.c] 111 (0, 0)) := (by rw [hW1]; exact heap_alloc_new _ _);rw [<- hW1];clear hW1 c0 c1 c2 c3 hkl;have HM1 := Bx.mk (hM.out.below HB1.out);have HBP := Bx.mk (show Below p w W1 from hBw.out.trans (HB1.out.mono (by have := hBw.out.size; have := HP.out; omega)));have k0 := cell_of_row _ _ 0 _ _ _ hq1;simp only [List.getElem?_toArray, List.getElem?_cons_zero, List.getElem?_cons_succ] at k0
     clear hq1;by_cases td : x.n.d < D
     ·have t0 : decide (x.n.d < D) = true := zT td;have hlook := (HM1.out.lookI u_mapIB Value.bool false (Tryz.zeroValue4 _) rdB_mk rdB_inv (k := (k : Nat)) (by unfold I64; omega)).1;obtain ⟨q, hq⟩ : ∃ q, q = parK (nds l) N k := ⟨_, rfl⟩
      have HQ := Bx.mk hq;rw [<- hq] at hlook;have HTD := Bx.mk td;clear hq td
      have hqv : q = none \/ q = some true := by
       have := HQ.out;unfold parK at this;rw [this];split
       ·exact .inr rfl
       ·exact .inl rfl
      rcases hqv with rfl | rfl
      ·have HF := Bx.mk (show R = false by rw [HR.out]; exact valid_bad2 (i := k) (by rw [nds_len, <- HN.out]; exact hlt) (by rw [HX.out]; exact HTD.out) (by rw [nds_len, <- HN.out]; exact HQ.out.symm));simp only [Option.getD_none] at hlook
       go_wp2_with fail
       go_ret;exact ⟨by rw [HF.out]; rfl, HP.out ▸ HBP.out⟩
      ·simp only [Option.getD_some] at hlook
       go_wp2_with fail
       go_roundw
       case rel => exact ⟨k + 1, by omega, by go_num, ⟨fun j hj hd => by
        by_cases e : j = k
        ·subst e; exact HQ.out.symm
        ·exact hfd.out j (by omega) hd⟩, HM1, HBP⟩
       case measure => simp [intOf]; omega
     ·have t0 : decide (x.n.d < D) = false := zF td;have HTD := Bx.mk td;clear td;go_wp2_with fail
      go_roundw
      case rel => exact ⟨k + 1, by omega, by go_num, ⟨fun j hj hd => by
       by_cases e : j = k
       ·subst e; rw [HX.out] at hd; have := HTD.out; omega
       ·exact hfd.out j (by omega) hd⟩, HM1, HBP⟩
      case measure => simp [intOf]; omega
    ·obtain rfl : N = k := by omega
     have HF := Bx.mk (show R = true by rw [HR.out]; exact valid_good (by have := HDN.out.1; omega) (by rw [nds_len, <- HN.out]; have := HDN.out.2; omega) (by rw [nds_len, <- HN.out]; exact HAB.out) (by rw [nds_len, <- HN.out]; exact hfd.out));go_wp2_with fail
     go_ret;exact ⟨by rw [HF.out]; rfl, HP.out ▸ hBw.out⟩
theorem valid_any (w : World) (v : Value) (l : List Nt) (h : TL w v l) (hn : l.length <= 100000) (D : Int) :
  Calls Tryz.prog 80 #[v, .int .i64 D] w fun e w' => e = .returned (.bool (validB (nds l) D)) /\ Below w.heap.size w w' := valid_q w v l h.tq hn D
end Go.Proofs.YtmagjdocondmhaaGreat.Tr
