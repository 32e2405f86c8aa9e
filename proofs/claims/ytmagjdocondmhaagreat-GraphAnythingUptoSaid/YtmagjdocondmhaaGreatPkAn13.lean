/- packed -/
import Derived.Test.YtmagjdocondmhaaGreatPkAn12
set_option linter.unusedVariables false
set_option linter.unusedSimpArgs false
set_option maxRecDepth 100000
set_option maxHeartbeats 64000000
namespace Go.Proofs.YtmagjdocondmhaaGreat.Tr.Gr
open Go Go.RowKit Slc St Mp Tr Rg
theorem set_at (m : List Bool) (j i : Nat) (hj : j < m.length) : (m.set j false)[i]! = if i = j then false else m[i]! := by
 by_cases e : i = j
 ·subst e;rw [if_pos rfl, getElem!_pos _ i (by simpa using hj)]; simp
 ·rw [if_neg e];by_cases h : i < m.length
  ·rw [getElem!_pos _ i (by simpa using h), getElem!_pos m i h, List.getElem_set_ne (fun q => e q.symm)]
  ·rw [getElem!_neg _ i (by simpa using h), getElem!_neg m i h]
theorem rk_pre {m : List Bool} {j : Nat} : ∀ p, p <= j -> (∀ i, i < j -> m[i]! = true) -> rk m p = p
 | 0, _, _ => rk_zero m
 | p + 1, h, ht => by rw [rk_succ, rk_pre p (by omega) ht, ht p (by omega)]; simp
theorem rk_set {m : List Bool} {j : Nat} (hj : j < m.length) (ht : ∀ i, i <= j -> m[i]! = true) : ∀ p, rk (m.set j false) p = if p <= j then p else rk m p - 1
 | 0 => by rw [rk_zero]; simp
 | p + 1 => by
  rw [rk_succ, rk_set hj ht p, set_at m j p hj];by_cases e : p = j
  ·subst e;rw [if_pos (zR _), if_pos rfl, if_neg (by omega : ¬ p + 1 <= p), rk_succ, rk_pre p (zR _) (fun i hi => ht i (by omega)), ht p (zR _)];simp
  ·rw [if_neg e];by_cases q : p <= j
   ·rw [if_pos q, if_pos (by omega : p + 1 <= j), ht p q]; simp
   ·rw [if_neg q, if_neg (by omega : ¬ p + 1 <= j), rk_succ]
    have : j + 1 <= rk m p := by
     have h1 := rk_mono m (show j + 1 <= p by omega);rw [rk_pre (j + 1) (zR _) (fun i hi => ht i (by omega))] at h1;exact h1
    omega
theorem renD_append (k : Nat) : ∀ (a b : List Int), renD k (a ++ b) = renD k a ++ renD k b
 | [], b => rfl
 | x :: a, b => by rw [List.cons_append, renD, renD, renD_append k a b, List.append_assoc]
theorem renD_ren {m : List Bool} {j : Nat} (hj : j < m.length) (ht : ∀ i, i <= j -> m[i]! = true) : ∀ (ps : List Int), (∀ p ∈ ps, 0 <= p) -> renD j (renP m ps) = renP (m.set j false) ps
 | [], _ => rfl
 | p :: ps, h => by
  have h0 := h p List.mem_cons_self;rw [renP_cons, renP_cons, renD_append, renD_ren hj ht ps fun q hq => h q (List.mem_cons_of_mem _ hq)];congr 1
  rw [set_at m j p.toNat hj, rk_set hj ht];by_cases e : p.toNat = j
  ·rw [if_pos e, e, ht j (zR _), rk_pre j (zR _) (fun i hi => ht i (by omega))];simp [renD]
  ·rw [if_neg e]
   cases hm : m[p.toNat]! with
   | false => rfl
   | true =>
    simp only [if_true, renD, List.append_nil]
    by_cases q : p.toNat <= j
    ·rw [if_pos q, rk_pre p.toNat q (fun i hi => ht i (by omega)), if_pos (by omega : ((p.toNat : Nat) : Int) < (j : Int))]
    ·have h1 : j + 1 <= rk m p.toNat := by
      have h1 := rk_mono m (show j + 1 <= p.toNat by omega);rw [rk_pre (j + 1) (zR _) (fun i hi => ht i (by omega))] at h1;exact h1
     rw [if_neg q, if_neg (by omega), if_pos (by omega)];congr 1; omega
theorem delL_app {a b : List Vx} {j : Nat} (h : j < a.length) : delL (a ++ b) j = delL a j ++ b := by
 unfold delL;rw [List.take_append_of_le_length (by omega), List.drop_append_of_le_length (by omega), List.append_assoc]
theorem delL_end (a : List Vx) (x : Vx) : delL (a ++ [x]) a.length = a := by
 unfold delL;rw [List.take_append_of_le_length (zR _), List.take_length, List.drop_of_length_le (by simp), List.append_nil]
theorem keepT_cong (l : List Vx) {m m' : List Bool} : ∀ k, (∀ i, i < k -> m'[i]! = m[i]!) -> keepT l m' k = keepT l m k
 | 0, _ => rfl
 | k + 1, h => by rw [keepT_succ, keepT_succ, keepT_cong l k fun i hi => h i (by omega), h k (by omega)]
theorem keepT_set (l : List Vx) {m : List Bool} {j : Nat} (hj : j < m.length) (ht : ∀ i, i <= j -> m[i]! = true) : ∀ k, j < k -> keepT l (m.set j false) k = delL (keepT l m k) j
 | 0, h => by omega
 | k + 1, h => by
  rw [keepT_succ, keepT_succ, set_at m j k hj];by_cases e : k = j
  ·subst e;have hc := keepT_cong l (m := m) (m' := m.set k false) k fun i hi => by rw [set_at m k i hj, if_neg (by omega)]
   have hl : (keepT l m k).length = k := by rw [keepT_len, rk_pre k (zR _) (fun i hi => ht i (by omega))]
   rw [if_pos rfl, ht k (zR _), hc];simp only [if_true, Bool.false_eq_true, if_false, List.append_nil]
   have := delL_end (keepT l m k) l[k]!;rw [hl] at this;exact this.symm
  ·have hl : j < (keepT l m k).length := by
    rw [keepT_len];have h1 := rk_mono m (show j + 1 <= k by omega);rw [rk_pre (j + 1) (zR _) (fun i hi => ht i (by omega))] at h1;omega
   rw [if_neg e, keepT_set l hj ht k (by omega), delL_app hl]
theorem filtG_self {g : List (List Vx)} {i : Nat} (hi : i < g.length) (m : List Bool) : (filtG g i m)[i]! = keepT g[i]! m (g[i]!).length := by
 rw [getElem!_pos _ i (by rw [filtG_len]; exact hi)];unfold filtG;split
 ·rw [List.getElem_set_ne (by omega), List.getElem_set_self]
 ·rw [List.getElem_set_self]
theorem filtG_nxt {g : List (List Vx)} {i : Nat} (hi : i + 1 < g.length) (m : List Bool) : (filtG g i m)[i + 1]! = (g[i + 1]!).map (renV m) := by
 rw [getElem!_pos _ (i + 1) (by rw [filtG_len]; exact hi)];unfold filtG;simp only [if_pos hi]
 rw [List.getElem_set_self]
theorem dropG_step {g : List (List Vx)} (hP : PG g) {i : Nat} (hi : i < g.length) {m : List Bool} (hm : m.length = (g[i]!).length) {j : Nat} (hj : j < m.length) (ht : ∀ k, k <= j -> m[k]! = true) : dropG (filtG g i m) i j = filtG g i (m.set j false) := by
 unfold dropG;rw [filtG_len, filtG_self hi, <- keepT_set g[i]! hj ht (g[i]!).length (by omega)];by_cases h1 : i + 1 < g.length
 ·rw [if_pos h1, filtG_nxt h1];unfold filtG;rw [if_pos h1, if_pos h1, List.map_map]
  have e : (g[i + 1]!).map ((fun v => (⟨v.pol, v.ex, renD j v.par⟩ : Vx)) ∘ renV m) = (g[i + 1]!).map (renV (m.set j false)) := by
   apply List.map_congr_left
   intro v hv;simp only [Function.comp_apply, renV]
   rw [renD_ren hj ht v.par fun p hp => (hP.par i h1 v hv p hp).1]
  rw [e];apply List.ext_getElem
  ·simp
  ·intro k h2 h3;simp only [List.getElem_set]
   split
   ·rfl
   ·split
    ·rfl
    ·rfl
 ·rw [if_neg h1];unfold filtG;rw [if_neg h1, if_neg h1, List.set_set]
theorem allM_at {n i : Nat} (h : i < n) : (List.replicate n true)[i]! = true := by
 rw [getElem!_pos _ i (by simpa using h)]; simp
theorem renP_allM {n : Nat} : ∀ (ps : List Int), (∀ p ∈ ps, 0 <= p /\ p < (n : Int)) -> renP (List.replicate n true) ps = ps
 | [], _ => rfl
 | p :: ps, h => by
  obtain ⟨h0, h1⟩ := h p List.mem_cons_self;rw [renP_cons, renP_allM ps fun q hq => h q (List.mem_cons_of_mem _ hq), allM_at (by omega), rk_pre p.toNat (zR _) fun i hi => allM_at (by omega)];simp only [if_true, List.singleton_append]
  rw [Int.toNat_of_nonneg h0]
theorem keepT_allM (l : List Vx) : ∀ k, k <= l.length -> keepT l (List.replicate l.length true) k = l.take k
 | 0, _ => by simp [keepT]
 | k + 1, h => by
  rw [keepT_succ, keepT_allM l k (by omega), allM_at (by omega), if_pos rfl, zA (by omega), getElem!_pos l k (by omega)]
theorem filtG_allM {g : List (List Vx)} (hP : PG g) {i : Nat} (hi : i < g.length) : filtG g i (List.replicate (g[i]!).length true) = g := by
 have e1 : keepT g[i]! (List.replicate (g[i]!).length true) (g[i]!).length = g[i]! := by rw [keepT_allM _ _ (zR _), List.take_length]
 have e2 : g.set i g[i]! = g := by rw [getElem!_pos g i hi]; exact List.set_getElem_self hi
 unfold filtG;rw [e1, e2];split
 ·rename_i h1
  have e3 : (g[i + 1]!).map (renV (List.replicate (g[i]!).length true)) = g[i + 1]! := by
   conv => rhs; rw [<- List.map_id (g[i + 1]!)]
   apply List.map_congr_left
   intro v hv;unfold renV;rw [renP_allM v.par (hP.par i h1 v hv)];rfl
  rw [e3, getElem!_pos g (i + 1) h1];exact List.set_getElem_self h1
 ·rfl
abbrev OrdP (l : List Vx) : Prop := l.Pairwise fun a b => a.pol < b.pol
structure FitP (v : Vx) (ab : List Vx) : Prop where
 ex : ascB v.ex = true
 asc : v.par.Pairwise (· < ·)
 rg : ∀ p ∈ v.par, 0 <= p /\ p < (ab.length : Int)
 sp : specV v = true -> v.par.length <= 1 /\ (∀ p ∈ v.par, specV ab[p.toNat]! = true) /\ onlyB v.ex = true
 ns : specV v = false -> anyP ∉ v.ex
structure PV (g : List (List Vx)) : Prop where
 top : topB g[0]! = true \/ g[0]! = []
 ord : ∀ (k : Nat), OrdP g[k]!
 fit : ∀ k, k + 1 < g.length -> ∀ v ∈ g[k + 1]!, FitP v g[k]!
theorem renP_asc {m : List Bool} {ps : List Int} (h : ps.Pairwise (· < ·)) (h0 : ∀ p ∈ ps, 0 <= p) : (renP m ps).Pairwise (· < ·) := by
 unfold renP;rw [List.pairwise_map];refine List.Pairwise.imp_of_mem ?_ (h.filter _);intro a b ha hb hab;have h1 := List.mem_filter.1 ha;have h2 := List.mem_filter.1 hb;have a0 := h0 a h1.1;have b0 := h0 b h2.1;have := rk_lt m (i := a.toNat) (j := b.toNat) (by omega) h1.2;omega
theorem keepT_ord {l : List Vx} (h : OrdP l) (m : List Bool) : OrdP (keepT l m l.length) := h.sublist (keepT_sub l m)
theorem renL_ord {l : List Vx} (h : OrdP l) (m : List Bool) : OrdP (l.map (renV m)) := by
 unfold OrdP;rw [List.pairwise_map];exact h
theorem marksB_at {n : Nat} {bl : List Vx} {j : Nat} (hj : j < n) : (marksB n bl)[j]! = bl.any fun v => decide ((j : Int) ∈ v.par) := by
 unfold marksB;rw [getElem!_pos _ j (by simpa using hj)]; simp
theorem valid_pv {g : List (List Vx)} (h : gvalidB g = true) : PV g := by
 refine ⟨?_, fun k => ?_, fun k hk v hv => ?_⟩
 ·rcases Nat.eq_zero_or_pos g.length with h0 | hl
  ·right
   rw [getElem!_neg g 0 (by omega)]; rfl
  ·left
   unfold gvalidB at h;rw [zF (by omega), Bool.false_or, Bool.and_eq_true] at h;exact h.1
 ·by_cases hk : k < g.length
  ·cases k with
   | zero =>
    obtain ⟨v, hv, -⟩ := gvalid_top h hk
    rw [hv]; exact List.pairwise_singleton _ _
   | succ k =>
    unfold gvalidB at h;rw [zF (by omega), Bool.false_or, Bool.and_eq_true] at h;have h2 := List.all_eq_true.1 h.2 k (by rw [List.mem_range]; omega);unfold lvlB at h2;rw [Bool.and_eq_true, List.all_eq_true] at h2
    have h3 : ∀ i, 0 < i -> i < (g[k + 1]!).length -> ((g[k + 1]!)[i - 1]!).pol < ((g[k + 1]!)[i]!).pol := fun i h0 hi => by
     have := h2.1 i (by rw [List.mem_range]; exact hi);rw [Bool.and_eq_true] at this;have h4 := this.2;unfold ordB at h4;rw [zF (by omega), Bool.false_or, decide_eq_true_eq] at h4;exact h4
    refine List.pairwise_iff_getElem.2 fun i j hi hj hij => ?_
    have key : ∀ d, i + 1 + d < (g[k + 1]!).length -> ((g[k + 1]!)[i]!).pol < ((g[k + 1]!)[i + 1 + d]!).pol := by
     intro d
     induction d with
     | zero =>
      intro hd;have := h3 (i + 1) (by omega) hd
      rwa [Nat.add_sub_cancel] at this
     | succ d ih =>
      intro hd;have h5 := h3 (i + 1 + (d + 1)) (by omega) hd;rw [show i + 1 + (d + 1) - 1 = i + 1 + d by omega] at h5;exact ltB_tr (ih (by omega)) h5
    have := key (j - (i + 1)) (by omega);rw [show i + 1 + (j - (i + 1)) = j by omega, getElem!_pos _ i hi, getElem!_pos _ j hj] at this;exact this
  ·rw [getElem!_neg g k hk]; exact List.Pairwise.nil
 ·have h1 := (gvalid_at h k hk).2 v hv;have h2 := gfit_par h1;unfold gfitB at h1;rw [Bool.and_eq_true] at h1;have h3 := h1.1;unfold badV at h3;simp only [Bool.not_or, Bool.not_not, Bool.and_eq_true] at h3
  have h4 := h3.2.1;unfold ascI at h4;rw [Bool.and_eq_true, decide_eq_true_eq] at h4;refine ⟨h3.1, h4.1, h2.2.2, fun hs => ?_, fun hs => ?_⟩
  ·have h5 := h1.2;rw [if_pos hs] at h5;simp only [Bool.and_eq_true, decide_eq_true_eq] at h5
   obtain ⟨p, hp⟩ := List.length_eq_one_iff.1 h5.1;refine ⟨by omega, fun q hq => ?_, h5.2.2⟩;rw [hp] at hq h5;rw [zS] at hq;subst hq;exact h5.2.1
  ·have h5 := h1.2;rw [if_neg (by rw [hs]; simp)] at h5;simpa using h5
def upM (m : List Bool) (k : Nat) : List Bool := List.replicate k true ++ m.drop k
theorem upM_len {m : List Bool} {k : Nat} (h : k <= m.length) : (upM m k).length = m.length := by
 unfold upM;rw [List.length_append, List.length_replicate, List.length_drop]; omega
theorem upM_lo {m : List Bool} {k j : Nat} (h : j < k) (hk : k <= m.length) : (upM m k)[j]! = true := by
 rw [getElem!_pos _ j (by rw [upM_len hk]; omega)];unfold upM;rw [List.getElem_append_left (by rw [List.length_replicate]; exact h)];simp
theorem upM_hi {m : List Bool} {k j : Nat} (h : k <= j) (hj : j < m.length) : (upM m k)[j]! = m[j]! := by
 rw [getElem!_pos _ j (by rw [upM_len (by omega)]; exact hj), getElem!_pos m j hj];unfold upM;rw [List.getElem_append_right (by rw [List.length_replicate]; exact h), List.getElem_drop];congr 1
 rw [List.length_replicate]; omega
theorem upM_all (m : List Bool) : upM m m.length = List.replicate m.length true := by
 unfold upM;rw [List.drop_length, List.append_nil]
theorem upM_zero (m : List Bool) : upM m 0 = m := by simp [upM]
theorem upM_ext {m m' : List Bool} (hl : m.length = m'.length) (h : ∀ j, j < m.length -> m[j]! = m'[j]!) : m = m' := by
 apply List.ext_getElem hl
 intro j h1 h2;have := h j h1;rwa [getElem!_pos m j h1, getElem!_pos m' j h2] at this
theorem upM_keep {m : List Bool} {k : Nat} (hk : k < m.length) (h : m[k]! = true) : upM m (k + 1) = upM m k := by
 apply upM_ext (by rw [upM_len (by omega), upM_len (by omega)])
 intro j hj;rw [upM_len (by omega)] at hj;by_cases e : j < k
 ·rw [upM_lo (by omega) (by omega), upM_lo e (by omega)]
 ·by_cases q : j = k
  ·subst q;rw [upM_lo (by omega) (by omega), upM_hi (zR _) hj, h]
  ·rw [upM_hi (by omega) hj, upM_hi (by omega) hj]
theorem upM_drop {m : List Bool} {k : Nat} (hk : k < m.length) (h : m[k]! = false) : (upM m (k + 1)).set k false = upM m k := by
 apply upM_ext (by rw [zL, upM_len (by omega), upM_len (by omega)])
 intro j hj;rw [zL, upM_len (by omega)] at hj;rw [set_at _ k j (by rw [upM_len (by omega)]; exact hk)];by_cases q : j = k
 ·subst q;rw [if_pos rfl, upM_hi (zR _) hj, h]
 ·rw [if_neg q];by_cases e : j < k
  ·rw [upM_lo (by omega) (by omega), upM_lo e (by omega)]
  ·rw [upM_hi (by omega) hj, upM_hi (by omega) hj]
theorem up_drop {g : List (List Vx)} (hP : PG g) {i : Nat} (hi : i < g.length) {m : List Bool} (hm : m.length = (g[i]!).length) {k : Nat} (hk : k < m.length) (h : m[k]! = false) : dropG (filtG g i (upM m (k + 1))) i k = filtG g i (upM m k) := by
 rw [<- upM_drop hk h];exact dropG_step hP hi (by rw [upM_len (by omega)]; exact hm) (by rw [upM_len (by omega)]; exact hk) fun j hj => upM_lo (by omega) (by omega)
theorem up_rk {m : List Bool} {k : Nat} (hk : k < m.length) : rk (upM m (k + 1)) k = k := rk_pre k (zR _) fun j hj => upM_lo (by omega) (by omega)
theorem up_at {g : List (List Vx)} {i : Nat} (hi : i < g.length) {m : List Bool} (hm : m.length = (g[i]!).length) {k : Nat} (hk : k < m.length) : k < ((filtG g i (upM m (k + 1)))[i]!).length /\ ((filtG g i (upM m (k + 1)))[i]!)[k]! = (g[i]!)[k]! := by
 have h := keepT_at (l := g[i]!) (m := upM m (k + 1)) (p := k) (n := (g[i]!).length) (by omega) (upM_lo (by omega) (by omega));rw [up_rk hk] at h;rw [filtG_self hi];exact h
theorem up_ren {m : List Bool} {k : Nat} (hk : k < m.length) {ps : List Int} (h : ∀ p ∈ ps, 0 <= p) : (k : Int) ∈ renP (upM m (k + 1)) ps ↔ (k : Int) ∈ ps := by
 unfold renP;rw [List.mem_map];constructor
 ·rintro ⟨p, hp, he⟩;have h1 := (List.mem_filter.1 hp).1;have h0 := h p h1;rcases Nat.lt_or_ge k p.toNat with q | q
  ·have h2 := rk_mono (upM m (k + 1)) (show k + 1 <= p.toNat by omega);rw [rk_pre (k + 1) (zR _) fun j hj => upM_lo hj (by omega)] at h2;omega
  ·rw [rk_pre (j := k + 1) p.toNat (by omega) fun j hj => upM_lo hj (by omega)] at he;have : p = (k : Int) := by omega
   rw [<- this]; exact h1
 ·intro hp;refine ⟨(k : Int), List.mem_filter.2 ⟨hp, ?_⟩, ?_⟩
  ·rw [Int.toNat_natCast]; exact upM_lo (by omega) (by omega)
  ·rw [Int.toNat_natCast, up_rk hk]
theorem up_kid {g : List (List Vx)} (hP : PG g) {i : Nat} (hi : i + 1 < g.length) {m : List Bool} {k : Nat} (hk : k < m.length) : (((filtG g i (upM m (k + 1)))[i + 1]!).any fun v => decide ((k : Int) ∈ v.par)) = (g[i + 1]!).any fun v => decide ((k : Int) ∈ v.par) := by
 rw [filtG_nxt hi, List.any_map]
 have : ∀ v ∈ g[i + 1]!, ((fun v : Vx => decide ((k : Int) ∈ v.par)) ∘ renV (upM m (k + 1))) v = decide ((k : Int) ∈ v.par) := fun v hv => by
  simp only [Function.comp_apply, renV]
  exact decide_eq_decide.2 (up_ren hk fun p hp => (hP.par i hi v hv p hp).1)
 generalize hf : ((fun v : Vx => decide ((k : Int) ∈ v.par)) ∘ renV (upM m (k + 1))) = f at this |-;clear hf;generalize g[i + 1]! = l at *
 induction l with
 | nil => rfl
 | cons x l ih =>
  rw [List.any_cons, List.any_cons, this x List.mem_cons_self, ih fun v hv => this v (List.mem_cons_of_mem _ hv)]
theorem marksB_len (n : Nat) (l : List Vx) : (marksB n l).length = n := by simp [marksB]
theorem filtG_up {g : List (List Vx)} (hP : PG g) {i : Nat} (hi : i < g.length) {m : List Bool} (hm : m.length = (g[i]!).length) : filtG g i (upM m m.length) = g := by
 rw [upM_all, hm]; exact filtG_allM hP hi
theorem filtG_llen {g : List (List Vx)} {i : Nat} (hi : i < g.length) (m : List Bool) (j : Nat) : ((filtG g i m)[j]!).length <= (g[j]!).length := by
 rw [filtG_at hi j];split
 ·rename_i e; subst e; exact keepT_le _ _
 ·split
  ·rw [List.length_map]; exact zR _
  ·exact zR _
attribute [local go_sem] Oper.semAt_some
def delT (l : List Vt) (k : Nat) : List Vt := l.take k ++ l.drop (k + 1)
theorem delT_vxs (l : List Vt) (k : Nat) : vxs (delT l k) = delL (vxs l) k := by
 unfold delT delL vxs;rw [List.map_append, List.map_take, List.map_drop]
theorem delT_mem {l : List Vt} {k : Nat} {x : Vt} (h : x ∈ delT l k) : x ∈ l := by
 unfold delT at h;rcases List.mem_append.1 h with q | q
 ·exact List.mem_of_mem_take q
 ·exact List.mem_of_mem_drop q
def dnV (k : Nat) (v : Vx) : Vx := ⟨v.pol, v.ex, renD k v.par⟩
theorem renD_one (k : Nat) (p : Int) : renD k [p] = if p < (k : Int) then [p] else if p > (k : Int) then [p - 1] else [] := by
 unfold renD; rw [renD, List.append_nil]
theorem renD_len (k : Nat) : ∀ (l : List Int), (renD k l).length <= l.length
 | [] => zR _
 | p :: l => by
  rw [renD, List.length_append, List.length_cons];have := renD_len k l
  have h1 : (if p < (k : Int) then [p] else if p > (k : Int) then [p - 1] else []).length <= 1 := by
   split
   ·simp
   ·split <;> simp
  omega
theorem renD_mem {k : Nat} : ∀ {l : List Int} {q : Int}, q ∈ renD k l -> ∃ p ∈ l, (q = p /\ p < (k : Int)) \/ (q = p - 1 /\ p > (k : Int))
 | [], q, h => by cases h
 | p :: l, q, h => by
  rw [renD, List.mem_append] at h;rcases h with h | h
  ·by_cases h1 : p < (k : Int)
   ·rw [if_pos h1, zS] at h;exact ⟨p, List.mem_cons_self, .inl ⟨h, h1⟩⟩
   ·rw [if_neg h1] at h;by_cases h2 : p > (k : Int)
    ·rw [if_pos h2, zS] at h;exact ⟨p, List.mem_cons_self, .inr ⟨h, h2⟩⟩
    ·rw [if_neg h2] at h; cases h
  ·obtain ⟨p', h1, h2⟩ := renD_mem h;exact ⟨p', List.mem_cons_of_mem _ h1, h2⟩
theorem dnV_ok {k : Nat} {n : Vx} (h : Vx.Ok n) : Vx.Ok (dnV k n) := by
 refine ⟨h.1, h.2.1, Nat.le_trans (renD_len _ _) h.2.2.1, fun q hq => ?_⟩;obtain ⟨p, hp, e⟩ := renD_mem hq;have := h.2.2.2 p hp;rcases e with ⟨rfl, -⟩ | ⟨rfl, h1⟩ <;> omega
def DrF (W0 : World) (v sv u1 u2 : Value) (i k k1 gb : Nat) (l : List Vt) : Nat -> Value -> World -> Prop
 | 0, x, _ => x = v
 | 1, x, _ => x = .int .i64 i
 | 2, x, w => ∃ g, x = .slice (some ⟨g, 0, none⟩) 0 0 /\ w.heap[g]? = some (.cells #[] 65 (0, 0)) /\ W0.heap.size <= g
 | 3, x, _ => x = sv
 | 4, x, _ => x = .int .i64 k
 | 5, x, _ => x = u1
 | 6, x, w => Slc.Own w W0.heap.size 65 3 encV x (l.take k)
 | 7, x, _ => x = sv
 | 8, x, _ => x = .int .i64 k
 | 9, x, _ => x = .int .i64 k1
 | 10, x, _ => x = u2
 | 11, x, w => Slc.Own w W0.heap.size 65 3 encV x (l.take k ++ l.drop k1)
 | 12, x, _ => x = .pointer (some ⟨gb, i, none⟩)
 | 13, x, _ => x = .pointer (some ⟨gb, i, none⟩)
 | _, _, _ => True
theorem DrF.stable (W0 : World) (v sv u1 u2 : Value) (i k k1 gb : Nat) (l : List Vt) (j : Nat) (x : Value) (w w' : World) (h : DrF W0 v sv u1 u2 i k k1 gb l j x w) (hb : Below w.heap.size w w') : DrF W0 v sv u1 u2 i k k1 gb l j x w' := by
 match j with
 | 0 | 1 | 3 | 4 | 5 | 7 | 8 | 9 | 10 | 12 | 13 => exact h
 | 2 => obtain ⟨g, h1, h2, h3⟩ := h; exact ⟨g, h1, (hb.block g (lt_of_some h2)).trans h2, h3⟩
 | 6 => exact Slc.Own.below (t := 65) h hb
 | 11 => exact Slc.Own.below (t := 65) h hb
 | _ + 14 => exact trivial
def DrFC : Nat -> Option Nat
 | 2 => some 6
 | 6 => some 11
 | _ => none
theorem DrF.big (W0 : World) (v sv u1 u2 : Value) (i k k1 gb : Nat) (l : List Vt) (d : Nat -> Bool) (j : Nat) (x : Value) (w w' : World) (h6 : d 6 = true) (hc : ∀ q, DrFC j = some q -> mark d 11 q = false) (hne : j ≠ 11) (hj : j < 14) (h : DrF W0 v sv u1 u2 i k k1 gb l j x w) : DrF W0 v sv u1 u2 i k k1 gb l j x w' := by
 match j with
 | 0 | 1 | 3 | 4 | 5 | 7 | 8 | 9 | 10 | 12 | 13 => exact h
 | 2 => have := hc 6 rfl; simp [mark, h6] at this
 | 6 => have := hc 11 rfl; simp [mark] at this
 | 11 => exact absurd rfl hne
 | _ + 14 => omega
theorem rdrop_any (w : World) (B : Nat) (v : Value) (g : List Lv) (h : GO w B v g) (hP : PG (gxs g)) (hn : g.length <= 100000) (i : Nat) (hi : i < g.length) (k : Nat) (hk : k < (g[i]).vs.length) :
  Calls Tryz.prog 68 #[v, .int .i64 i, .int .i64 k] w fun e w' => (∃ u, e = .returned u) /\ ∃ g', GStep w B v g w' g' /\ gxs g' = dropG (gxs g) i k /\ NK w g g' := by
 obtain ⟨i0, hi0, hz0, hz1, hz2⟩ := info_parts info_ver;obtain ⟨ib, hib, hib0, hib1, hib2⟩ := info_parts info_int;have HG := Bx.mk h;have HLN := Bx.mk (pg_len hP);have HPAR := Bx.mk (fun (h1 : i + 1 < g.length) => pg_par hP h1);obtain ⟨ad, c, rfl, -⟩ := h.own.rd.form;obtain ⟨gb, rfl, l0, hgfr⟩ := h.cellL i hi;have HGLT := Bx.mk (show gb < w.heap.size from World.block_lt_of_cell? w _ l0);have HVL := Bx.mk (h.gl.lv _ (zM hi));have hll := pg_len hP _ (zM hi);obtain ⟨L, hL⟩ : ∃ L, L = g[i] := ⟨_, rfl⟩
 rw [<- hL] at l0 HVL hll hk;have HL := Bx.mk hL;obtain ⟨la, lc, hls, -⟩ := HVL.out.rd.form;rw [hls] at l0 HVL;have HLS := Bx.mk hls;obtain ⟨N, hN⟩ : ∃ N, N = g.length := ⟨_, rfl⟩
 have HN := Bx.mk hN;obtain ⟨NV, hNV⟩ : ∃ NV, NV = L.vs.length := ⟨_, rfl⟩
 have HNV := Bx.mk hNV;have HI := Bx.mk hi;have HKL := Bx.mk hk;rw [<- hNV] at l0 hll;rw [<- hN] at hn hi |-;have hiN : i < N := hi;have hoc := HVL.out.rd;rw [<- hNV] at hoc hk;obtain ⟨k1, hk1⟩ : ∃ k1, k1 = k + 1 := ⟨_, rfl⟩
 have HK1 := Bx.mk hk1;obtain ⟨u1, hu1, hr1⟩ := hoc.upto (P := Tryz.prog) (T := 61) encV_ok und_versE size_vers k (Nat.le_of_lt HKL.out);obtain ⟨u2, hu2, hr2⟩ := hoc.rest (P := Tryz.prog) (T := 61) encV_ok und_versE size_vers k1 (by have := HKL.out; omega);have HU1 := Bx.mk hu1;have HU2 := Bx.mk hu2;have HR1 := Bx.mk hr1;have HR2 := Bx.mk hr2;have HKN := Bx.mk hk;have HWK := Bx.mk (show IntKind.i64.wrap ((k : Int) + 1) = (k1 : Int) by rw [IntWalk.i64_in _ (by omega)]; omega);have HL0 := Bx.mk l0;have HFZ := Bx.mk hgfr;clear h hP hL hls hN hNV hoc hu1 hu2 hr1 hr2 hgfr hk1 hk;go_enter Tryz.func68, Tryz.ntmps68;go_upto_region 1 with fail
 clear l0;refine wp_region_factsV 14 DrFC (· == 11) (DrF w (.slice (some ⟨gb, 0, none⟩) N c) (.slice la NV lc) u1 u2 i k k1 gb L.vs) (by kernel_rfl) (by kernel_rfl) (by rfl) (DrF.stable w _ _ u1 u2 i k k1 gb L.vs) ?_ ?_ ?_
 ·intro q oq j v d w1 w2 hb hoq hd hc hne hj h _;obtain rfl : q = 11 := by simpa using hb
  simp only [List.getElem?_cons_succ, List.getElem?_cons_zero, zO] at hoq
  subst hoq;have h6 := hd ⟨6, .data⟩ (by simp) rfl;exact DrF.big w _ _ u1 u2 i k k1 gb L.vs d j v w1 w2 h6 hc hne hj h
 ·intro i' o hi9 ho9 xs w1 hb hd;have hcs : i' = 0 \/ i' = 1 \/ i' = 2 \/ i' = 3 \/ i' = 4 \/ i' = 5 \/ i' = 6 \/ i' = 7 \/ i' = 8 \/ i' = 9 \/ i' = 10 \/ i' = 11 \/ i' = 12 \/ i' = 13 := by omega
  simp only [List.take_succ_cons, List.take_zero, putFrom, Act.put, List.setIfInBounds_toArray, List.set_cons_succ, List.set_cons_zero, Nat.zero_add, Nat.reduceAdd]
  have HBB := Bx.mk hb;have HTL := Bx.mk (show (L.vs.take k).length <= 100000 by have h1 := HNV.out; rw [List.length_take]; omega);have HDL := Bx.mk (show (L.vs.take k).length + (L.vs.drop k1).length <= 200000 by have h1 := HNV.out; rw [List.length_take, List.length_drop]; omega);have lz := (hb.cell (p := ⟨gb, i, none⟩) HGLT.out).trans HL0.out;clear hb;rcases hcs with rfl | rfl | rfl | rfl | rfl | rfl | rfl | rfl | rfl | rfl | rfl | rfl | rfl | rfl
  all_goals
   simp only [List.getElem?_cons_succ, List.getElem?_cons_zero, zO] at ho9
   subst ho9;simp [NeedsB, Region.binds, DrF, DrFC] at hd
  all_goals clear hi9
  ·go_wp2_with fail
   exact ⟨rfl, rfl, rfl, Below.refl _ _⟩
  ·go_wp2_with fail
   exact ⟨rfl, rfl, rfl, Below.refl _ _⟩
  ·have HS := Bx.mk HBB.out.size;go_wp2_with fail
   exact ⟨rfl, rfl, ⟨_, rfl, heap_alloc_new _ _, HS.out⟩, (Below.refl _ _).alloc (zR _) _⟩
  ·go_wp2_with fail
   exact ⟨rfl, rfl, rfl, Below.refl _ _⟩
  ·go_wp2_with fail
   exact ⟨rfl, rfl, rfl, Below.refl _ _⟩
  ·obtain ⟨hd1, hd2⟩ := hd;have hu1 := HU1.out;go_wp2_with fail
   exact ⟨rfl, rfl, rfl, Below.refl _ _⟩
  ·obtain ⟨⟨g0, h0, hg0, hl0⟩, h3⟩ := hd;have hsr := (HR1.out.below HBB.out).src encV_ok;rw [<- h3] at hsr;have hsz := HBB.out.size;clear h3 lz;go_wp2_with (at_builtin; refine wpList_append_fresh rfl _ _ _ rfl w.heap.size 65 i0 _ 3 64 und_vers hi0 hz0 hz1 hz2 rfl (by decide) g0 h0 hg0 hl0 hsz (xs 5) (L.vs.take k).length ((L.vs.take k).flatMap encV) rfl hsr ?ap1 ?ap2 ?_)
   case ap1 => have := HTL.out; unfold maxLen; omega
   case ap2 => have := HTL.out; omega
   intro v' w4 hown hb4 _;have HO4 := Bx.mk (Own.of (l := L.vs.take k) hown (by have := HKL.out; simp; try omega) rfl);have HB4 := Bx.mk hb4;clear hown hb4 hsr hsz;go_wp2_with fail
   exact ⟨rfl, rfl, HO4.out, HB4.out⟩
  ·go_wp2_with fail
   exact ⟨rfl, rfl, rfl, Below.refl _ _⟩
  ·go_wp2_with fail
   exact ⟨rfl, rfl, rfl, Below.refl _ _⟩
  ·have wk := HWK.out;go_wp2_with fail
   exact ⟨rfl, rfl, rfl, Below.refl _ _⟩
  ·obtain ⟨hd1, hd2⟩ := hd;have hu2 := HU2.out;go_wp2_with fail
   exact ⟨rfl, rfl, rfl, Below.refl _ _⟩
  ·obtain ⟨hd1, h10, -⟩ := hd;have hsr := (HR2.out.below HBB.out).src encV_ok;rw [<- h10] at hsr;have hsz := HBB.out.size;have hd1' : w1.ownsRow w.heap.size 65 3 (xs 6) (L.vs.take k).length ((L.vs.take k).flatMap encV) := hd1;have HD1 := Bx.mk hd1;clear h10 hd1 lz;go_wp2_with (at_builtin; refine wpList_append_any rfl _ _ _ rfl w.heap.size 65 i0 _ 3 64 und_vers hi0 hz0 hz1 hz2 rfl (by decide) _ (L.vs.take k).length ((L.vs.take k).flatMap encV) rfl hd1' (xs 10) (L.vs.drop k1).length ((L.vs.drop k1).flatMap encV) rfl hsr ?bp1 ?bp2 hsz ?_)
   case bp1 => have := HDL.out; unfold maxLen; omega
   case bp2 => have := HDL.out; omega
   intro v' w4 ha;have HO4 := Bx.mk (Own.apd (m := L.vs.drop k1) HD1.out (by simp) (by simp) (by simp) (by simp) ha);have HB4 := Bx.mk ((Below.refl w.heap.size w1).grown ha.grown HBB.out.size fun k hk => (HD1.out.lt k hk).1);clear ha hsr hsz hd1';go_wp2_with fail
   exact ⟨rfl, rfl, HO4.out, HB4.out⟩
  ·obtain ⟨hd1, hd2⟩ := hd;go_wp2_with fail
   exact ⟨rfl, rfl, rfl, Below.refl _ _⟩
  ·go_wp2_with fail
   exact ⟨rfl, rfl, rfl, Below.refl _ _⟩
 ·intro xs w1 hb hf;have f0 := hf 0 (by omega) (fun c hc => by cases hc);have f1 := hf 1 (by omega) (fun c hc => by cases hc);have f3 := hf 3 (by omega) (fun c hc => by cases hc);have f4 := hf 4 (by omega) (fun c hc => by cases hc);have f5 := hf 5 (by omega) (fun c hc => by cases hc);have f7 := hf 7 (by omega) (fun c hc => by cases hc);have f8 := hf 8 (by omega) (fun c hc => by cases hc);have f9 := hf 9 (by omega) (fun c hc => by cases hc);have f10 := hf 10 (by omega) (fun c hc => by cases hc);have f11 := hf 11 (by omega) (fun c hc => by cases hc);have f12 := hf 12 (by omega) (fun c hc => by cases hc);have f13 := hf 13 (by omega) (fun c hc => by cases hc);simp only [DrF] at f0 f1 f3 f4 f5 f7 f8 f9 f10 f11 f12 f13
  have hBw' := hb;have hO' := f11;obtain ⟨s11, e11⟩ := sl_of f11;rw [e11] at hO';have hO2 : Slc.Own w1 w.heap.size 65 3 encV s11.val (delT L.vs k) := by unfold delT; rw [<- HK1.out]; exact hO'
  clear hf f11 hb;simp only [List.take_succ_cons, List.take_zero, List.drop_succ_cons, List.drop_zero, putFrom, Act.put, List.setIfInBounds_toArray, List.set_cons_succ, List.set_cons_zero, Nat.zero_add, Nat.reduceAdd, f0, f1, f3, f4, f5, f7, f8, f9, f10, e11, f12, f13]
  simp only [Sl.val]
  clear f0 f1 f3 f4 f5 f7 f8 f9 f10 e11 f12 f13 hO';generalize xs 2 = X2 at *;generalize xs 6 = X6 at *;have hGo := HG.out;have HBL := Bx.mk (show B <= w.heap.size from by have := hGo.lt (k := gb) (.inl rfl); omega);have hgw : w.grownBy w1 (g[i]'HI.out).s.val.ownBlock := ⟨hBw'.os, hBw'.tape, hBw'.output, hBw'.size, fun q hq _ => hBw'.block q hq⟩;obtain ⟨gb', cap', hgv, hgl, hgfz, l9, hS9⟩ := hGo.setL2 i HI.out hgw ⟨delT L.vs k, s11⟩ (hO2.mono HBL.out) (fun q hq => .inr (hO2.lt q hq).1) (fun x hx => hGo.nm _ (zM HI.out) x (by rw [<- HL.out]; exact delT_mem hx));simp only [Value.slice.injEq, zO, Addr.mk.injEq, and_true] at hgv
  obtain ⟨rfl, -, rfl⟩ := hgv;rw [<- HL.out, HLS.out] at l9;obtain ⟨W9, hW9⟩ : ∃ W9, W9 = w1.setCell ⟨gb, i, none⟩ (.slice s11.ad s11.n s11.c) := ⟨_, rfl⟩
  have hz9 := hgfz i;simp only [Sl.val] at hS9
  rw [<- hW9] at hS9;have HS9 := Bx.mk hS9
  have HG1 := Bx.mk (show gxs (g.set i ⟨delT L.vs k, s11⟩) = (gxs g).set i (delL (gxs g)[i]! k) by
   rw [gxs_at' g i HI.out, <- HL.out, <- delT_vxs]
   exact List.map_set)
  have HNK := Bx.mk (show NK w g (g.set i ⟨delT L.vs k, s11⟩) from fun B' hB' hq => hq.set i fun x hx => hq _ (zM HI.out) x (by rw [<- HL.out]; exact delT_mem hx));have HW9 := Bx.mk hW9;clear hW9 hS9 hGo hgw hgl hgfz hO2 hBw';go_upto_region 2 with fail
  rw [<- HW9.out];clear l9 hz9 HW9;generalize s11 = s11 at *;by_cases hlast : i + 1 = N
  ·have t1 : (((i : Int) + 1) == (N : Int)) = true := by simp; omega
   have HFE := Bx.mk (show gxs (g.set i ⟨delT L.vs k, s11⟩) = dropG (gxs g) i k by
    rw [HG1.out]; unfold dropG; rw [gxs_len, <- HN.out, if_neg (by omega)])
   have t2 : ((i : Int) + 1) = (N : Int) := by omega
   clear hlast;go_wp2_with fail
   refine bodyPost_ret (results_none rfl _ _ _) rfl ?_;rw [HN.out];exact ⟨⟨_, rfl⟩, _, HS9.out, HFE.out, HNK.out⟩
  ·have t1 : (((i : Int) + 1) == (N : Int)) = false := by simp; omega
   have t2 : ¬ ((i : Int) + 1) = (N : Int) := by omega
   have hk1N : i + 1 < N := by omega
   have HK1' := Bx.mk (show i + 1 < g.length by rw [<- HN.out]; exact hk1N);obtain ⟨X, hX⟩ : ∃ X, X = g[i + 1]'HK1'.out := ⟨_, rfl⟩
   have HXG := Bx.mk hX;have HPX := Bx.mk (show ∀ x ∈ X.vs, ∀ p ∈ x.n.par, 0 <= p /\ p < ((L.vs.length : Nat) : Int) by rw [hX, HL.out]; exact HPAR.out HK1'.out);have hXl : X.vs.length <= 100000 := by rw [hX]; exact HLN.out _ (zM HK1'.out)
   obtain ⟨g1, hg1⟩ : ∃ g1, g1 = g.set i ⟨delT L.vs k, s11⟩ := ⟨_, rfl⟩
   rw [<- hg1] at HS9 HG1 HNK;have HG1L := Bx.mk (show g1.length = g.length by rw [hg1]; simp);have HKX := Bx.mk (show i + 1 < g1.length by rw [HG1L.out]; exact HK1'.out)
   have HX1 := Bx.mk (show g1[i + 1]'HKX.out = X by
    rw [hX]; simp only [hg1]
    rw [List.getElem_set, if_neg (by omega)])
   have hXo := HS9.out.go.lv _ (zM HKX.out);rw [HX1.out] at hXo;obtain ⟨xa, xc, hxs, -⟩ := hXo.rd.form;obtain ⟨NX, hNX⟩ : ∃ NX, NX = X.vs.length := ⟨_, rfl⟩
   have HNX := Bx.mk hNX;rw [<- hNX] at hxs hXl;have HXS := Bx.mk hxs
   have HS := Bx.mk (show GStep w B (.slice (some ⟨gb, 0, none⟩) g.length c) g W9 (g1.set (i + 1) ⟨X.vs, X.s⟩) by
    have e : g1.set (i + 1) ⟨X.vs, X.s⟩ = g1 := by
     apply List.ext_getElem
     ·simp
     ·intro q h1 h2;rw [List.getElem_set];split
      ·rename_i e; subst e; exact HX1.out.symm
      ·rfl
    rw [e]; exact HS9.out)
   have HG1D := Bx.mk hg1;obtain ⟨i1, hi1⟩ : ∃ i1, i1 = i + 1 := ⟨_, rfl⟩
   have HI1 := Bx.mk hi1;have HI1N := Bx.mk (show i1 < N by omega);have HWI := Bx.mk (show IntKind.i64.wrap ((i : Int) + 1) = (i1 : Int) by rw [IntWalk.i64_in _ (by omega)]; omega);clear hlast hg1 hX hNX hXo hxs hi1;go_wp2_with fail
   clear t1 t2;go_loopw [7] (fun iv wr => ∃ (q : Nat) (vs2 : List Vt), q <= NX /\ iv = .int .i64 q /\ Bx (vs2.length = NX) /\ Bx (∀ r, r < NX -> (r < q -> (vs2[r]!).n = dnV k (X.vs[r]!).n) /\ (q <= r -> vs2[r]! = X.vs[r]!)) /\ Bx (∀ y ∈ vs2, ∀ kb, (y.u.val.ownBlock = some kb \/ y.q.val.ownBlock = some kb) -> (∃ z ∈ X.vs, z.u.val.ownBlock = some kb \/ z.q.val.ownBlock = some kb) \/ w.heap.size <= kb) /\ Bx (GStep w B (.slice (some ⟨gb, 0, none⟩) g.length c) g wr (g1.set (i + 1) ⟨vs2, X.s⟩))) (fun iv _ => NX - (intOf iv).toNat)
   case atStart => exact ⟨0, X.vs, by omega, rfl, ⟨HNX.out.symm⟩, ⟨fun r hr => ⟨fun h => by omega, fun _ => rfl⟩⟩, ⟨fun y hy kb hk => .inl ⟨y, hy, hk⟩⟩, HS⟩
   case round =>
    clear HS HS9;obtain ⟨q, vs2, hq, rfl, hvl, hvs, hvn, hS⟩ := hrel;obtain ⟨g2, hg2⟩ : ∃ g2, g2 = g1.set (i + 1) ⟨vs2, X.s⟩ := ⟨_, rfl⟩
    have HG2 := Bx.mk hg2;rw [<- hg2] at hS;have HK2 := Bx.mk (show i + 1 < g2.length by rw [hg2, zL]; exact HKX.out);have HX2 := Bx.mk (show g2[i + 1]'HK2.out = ⟨vs2, X.s⟩ by simp only [hg2]; rw [List.getElem_set, if_pos rfl]);clear hg2;obtain ⟨gb3, he3, x9, -⟩ := hS.out.go.cellL (i + 1) HK2.out;simp only [zO, Addr.mk.injEq, and_true] at he3
    subst he3;rw [HX2.out] at x9;simp only [HXS.out] at x9
    rw [<- HI1.out] at x9;have wi := HWI.out;have hi1N := HI1N.out;by_cases hlt2 : q < NX
    ·have HQL := Bx.mk (show q < vs2.length by rw [hvl.out]; exact hlt2);have hql := HQL.out;have hqX : q < X.vs.length := (by rw [<- HNX.out]; exact hlt2);have hown := hS.out.go.lv _ (zM HK2.out);rw [HX2.out] at hown
     have hxe : vs2[q] = X.vs[q] := by
      have := (hvs.out q hlt2).2 (zR _);rwa [getElem!_pos vs2 q hql, getElem!_pos X.vs q hqX] at this
     have hxm := HPX.out _ (zM hqX);have hnm := hS.out.go.nm _ (zM HK2.out) (vs2[q]) (by rw [HX2.out]; exact zM hql);obtain ⟨x, hx⟩ : ∃ x, x = vs2[q]'HQL.out := ⟨_, rfl⟩
     rw [<- hxe, <- hx] at hxm;rw [<- hx] at hnm;have HXE := Bx.mk hx;have HXM := Bx.mk hxm;have HNM := Bx.mk hnm;have hown' := hown;rw [HXS.out] at hown'
     obtain ⟨nb, hnb, c0, c1, c2, hfz⟩ : ∃ nb, xa = some ⟨nb, 0, none⟩ /\ wr.cell? ⟨nb, q * 3, none⟩ = some (.string (bstr x.n.pol)) /\ wr.cell? ⟨nb, q * 3 + 1, none⟩ = some x.u.val /\ wr.cell? ⟨nb, q * 3 + 2, none⟩ = some x.q.val /\ ∀ i, wr.frozen? ⟨nb, i, none⟩ = false := by
      obtain ⟨nb, cap, hv, -, -, hfr, -, -⟩ := hown'.set1 encV_ok q 0 hql (by omega) (.string (bstr (vs2[q]).n.pol)) vs2[q] rfl;simp only [Value.slice.injEq] at hv
      obtain ⟨rfl, -, -⟩ := hv;have hc := fun i u (hi : i < 3) (hu : (encV vs2[q])[i]? = some u) => hown'.cell encV_ok q hql i hi u hu
      rw [<- hx] at hc;exact ⟨nb, rfl, hc 0 _ (by omega) rfl, hc 1 _ (by omega) rfl, hc 2 _ (by omega) rfl, hfr⟩
     subst hnb;obtain ⟨pa, pc, hpq, -⟩ := RqIn.form hnm.2.1;have HPC := Bx.mk (Ri.cells (hpq ▸ hnm.2.1.all));obtain ⟨PN, hPN⟩ : ∃ PN, PN = x.n.par.length := ⟨_, rfl⟩
     have HPN := Bx.mk hPN;have hPNb : PN <= 100000 := (by rw [hPN]; exact hnm.2.2.2.2.1);rw [hpq, <- hPN] at c2;have HPQ := Bx.mk (show x.q.val = .slice pa PN pc by rw [hpq, hPN]);obtain ⟨W4, hW4⟩ : ∃ W4, W4 = wr := ⟨_, rfl⟩
     have HB0 := Bx.mk (show Below W4.heap.size W4 wr by rw [hW4]; exact Below.refl _ _);rw [<- hW4] at hS HNM;have HS4 := Bx.mk hS.out;have HSZ0 := Bx.mk (show W4.heap.size <= wr.heap.size by rw [hW4]; exact zR _);have HPC4 := HPC;rw [<- hW4] at HPC4;clear hown hown' hxe hxm hnm hx hpq hPN hql hqX hfz hS HPC hW4 c0 c1;go_wp2_with fail
     go_loopw [8, 10] (fun pv iv wz => ∃ n : Nat, n <= PN /\ iv = .int .i64 n /\ Bx (Slc.Own wz W4.heap.size 3 1 encI pv (renD k (x.n.par.take n))) /\ Bx (Below W4.heap.size W4 wz)) (fun _ iv _ => PN - (intOf iv).toNat)
     case atStart => exact ⟨0, by omega, rfl, ⟨Slc.Own.nil _ _⟩, HB0⟩
     case round =>
      clear HB0 HSZ0;obtain ⟨n, hn', rfl, hO5, hB5⟩ := hrel;obtain ⟨ra, rc, rfl, -⟩ := hO5.out.rd.form;obtain ⟨RL, hRL⟩ : ∃ RL, RL = (renD k (x.n.par.take n)).length := ⟨_, rfl⟩
      have HRL := Bx.mk hRL;have hRLb : RL <= n := (by rw [hRL]; exact Nat.le_trans (renD_len _ _) (by rw [List.length_take]; omega));rw [<- hRL];clear hRL;by_cases hlt3 : n < PN
      ·have hnl : n < x.n.par.length := by rw [<- HPN.out]; exact hlt3
       obtain ⟨bp, op, rfl, hbp, d0⟩ := HPC4.out wr hB5.out n hnl;have hpi := HXM.out _ (zM hnl);have HTK := Bx.mk (zA hnl);obtain ⟨p, hp⟩ : ∃ p, p = x.n.par[n] := ⟨_, rfl⟩
       rw [<- hp] at d0 hpi HTK;have HRS := Bx.mk (show renD k (x.n.par.take (n + 1)) = renD k (x.n.par.take n) ++ if p < (k : Int) then [p] else if p > (k : Int) then [p - 1] else [] by rw [HTK.out, renD_append, renD_one]);have HPI := Bx.mk (show 0 <= p /\ p < 100000 by have := HNV.out; omega);clear hp hnl hpi
       have hap : ∀ (y : Int) (M : List Int), renD k (x.n.par.take (n + 1)) = renD k (x.n.par.take n) ++ M -> M = [y] -> ∀ (v' : Value) (w' : World), Apd (wr.alloc (.cells #[.int .i64 y] 3)) W4.heap.size 3 1 (.slice ra RL rc) RL 1 ((renD k (x.n.par.take n)).flatMap encI) ([y].flatMap encI) v' w' ->
         Slc.Own w' W4.heap.size 3 1 encI v' (renD k (x.n.par.take (n + 1))) /\ Below W4.heap.size W4 w' := by
        intro y M e1 e2 v' w' ha;have hba : Below wr.heap.size wr (wr.alloc (.cells #[.int .i64 y] 3)) := (Below.refl _ _).alloc (zR _) _;have ho := hO5.out.below hba;rw [<- HRL.out] at ho;refine ⟨?_, (hB5.out.trans (hba.mono hB5.out.size)).grown ha.grown (by have := hB5.out.size; simp; omega) fun q hq => (ho.lt q hq).1⟩;rw [e1, e2];exact ho.apd (m := [y]) rfl rfl HRL.out rfl ha
       have HAP := Bx.mk hap
       have HOWR := Bx.mk (show ∀ y : Int, World.ownsRow (wr.alloc (.cells #[.int .i64 y] 3)) W4.heap.size 3 1 (.slice ra RL rc) RL ((renD k (x.n.par.take n)).flatMap encI) from fun y => by
        have hba : Below wr.heap.size wr (wr.alloc (.cells #[.int .i64 y] 3)) := (Below.refl _ _).alloc (zR _) _;have ho := hO5.out.below hba;unfold Slc.Own at ho
        rwa [<- HRL.out] at ho)
       have hm1 : RL + 1 <= maxLen := (by unfold maxLen; omega);have hm2 : (RL + 1) * 8 <= 140737488355328 := (by omega);have HBZ := Bx.mk (show ∀ y : Int, W4.heap.size <= (wr.alloc (.cells #[.int .i64 y] 3)).heap.size from fun y => by have := hB5.out.size; simp; omega);clear hap;by_cases hlo : p < (k : Int)
       ·have t1 : decide (p < (k : Int)) = true := zT hlo;have t2 : decide (p > (k : Int)) = false := zF (by omega);have t3 : decide ((k : Int) < p) = false := zF (by omega);have HE := Bx.mk (show (if p < (k : Int) then [p] else if p > (k : Int) then [p - 1] else []) = [p] by rw [if_pos hlo]);have HSRC := Bx.mk (src_int wr p);clear hlo;go_wp2_with (at_builtin; refine wpList_append_any rfl _ _ _ rfl W4.heap.size 3 ib _ 1 8 und_ints hib hib0 hib1 hib2 rfl (by decide) _ RL ((renD k (x.n.par.take n)).flatMap encI) rfl (HOWR.out p) _ 1 ([p].flatMap encI) rfl HSRC.out hm1 hm2 (HBZ.out p) ?_)
        intro v6 w6 hapd;have hf := HAP.out p _ HRS.out HE.out v6 w6 hapd;have HO6 := Bx.mk hf.1;have HB6 := Bx.mk hf.2;have d1 := (hf.2.block bp hbp);have hd6 := (hB5.out.block bp hbp)
        have d0' : w6.cell? ⟨bp, op + n, none⟩ = some (.int .i64 p) := by
         unfold World.cell? at d0 |-;rw [d1, <- hd6]; exact d0
        clear hapd hm1 hm2 d0 hf d1 hd6;go_wp2_with fail
        go_roundw
        case rel => exact ⟨n + 1, by omega, by go_num, HO6, HB6⟩
        case measure => simp [intOf]; omega
       ·have t1 : decide (p < (k : Int)) = false := zF hlo;by_cases hhi : p > (k : Int)
        ·have t2 : decide (p > (k : Int)) = true := zT hhi;have t3 : decide ((k : Int) < p) = true := zT hhi;obtain ⟨p1, hp1⟩ : ∃ p1, p1 = p - 1 := ⟨_, rfl⟩
         have HE := Bx.mk (show (if p < (k : Int) then [p] else if p > (k : Int) then [p - 1] else []) = [p1] by rw [if_neg hlo, if_pos hhi, hp1]);have HSRC := Bx.mk (src_int wr p1);have wp : IntKind.i64.wrap (p - 1) = p1 := (by have := HPI.out; rw [IntWalk.i64_in _ (by omega), hp1]);clear hlo hhi hp1;go_wp2_with (at_builtin; refine wpList_append_any rfl _ _ _ rfl W4.heap.size 3 ib _ 1 8 und_ints hib hib0 hib1 hib2 rfl (by decide) _ RL ((renD k (x.n.par.take n)).flatMap encI) rfl (HOWR.out p1) _ 1 ([p1].flatMap encI) rfl HSRC.out hm1 hm2 (HBZ.out p1) ?_)
         intro v6 w6 hapd;have hf := HAP.out p1 _ HRS.out HE.out v6 w6 hapd;have HO6 := Bx.mk hf.1;have HB6 := Bx.mk hf.2;clear hapd hm1 hm2 d0 hf wp;go_wp2_with fail
         go_roundw
         case rel => exact ⟨n + 1, by omega, by go_num, HO6, HB6⟩
         case measure => simp [intOf]; omega
        ·have t2 : decide (p > (k : Int)) = false := zF hhi;have t3 : decide ((k : Int) < p) = false := zF hhi
         have HO6 := Bx.mk (show Slc.Own wr W4.heap.size 3 1 encI (.slice ra RL rc) (renD k (x.n.par.take (n + 1))) by
          rw [HRS.out, if_neg hlo, if_neg hhi, List.append_nil];have := hO5.out
          rwa [<- HRL.out] at this)
         clear hlo hhi hm1 hm2;go_wp2_with fail
         go_roundw
         case rel => exact ⟨n + 1, by omega, by go_num, HO6, hB5⟩
         case measure => simp [intOf]; omega
      ·obtain rfl : n = PN := by omega
       have hRV : x.n.par.take n = x.n.par := (by rw [HPN.out, List.take_length]);have hgoz := HS4.out.go.below hB5.out;have hq2 : q < (g2[i + 1]'HK2.out).vs.length := (by rw [HX2.out]; exact HQL.out);have hgx : (g2[i + 1]'HK2.out).vs[q]'hq2 = x := (by rw [HXE.out]; congr 1; rw [HX2.out]);have hO6 := hO5.out;rw [hRV, <- show RL = (renD k x.n.par).length by rw [HRL.out, hRV]] at hO6
       have hpar : RqIn wr (fun j => ¬ GB (.slice (some ⟨gb, 0, none⟩) g.length c) g2 j) encI (.slice ra RL rc) (renD k x.n.par) := .inr ⟨hO6.rd, fun r hr hn => by
        have h1 := (hO6.lt r hr).1;have h2 := (HS4.out.go.lt hn).2
        omega⟩
       have hxin : VtIn wr (fun j => ¬ GB (.slice (some ⟨gb, 0, none⟩) g.length c) g2 j) ⟨dnV k x.n, x.u, ⟨ra, RL, rc⟩⟩ :=
        ⟨(HNM.out.below hB5.out).1, hpar, dnV_ok HNM.out.2.2⟩
       obtain ⟨nb', cap', hv', hnl', hfr', hgo', hgr'⟩ := hgoz.setV (i + 1) HK2.out q hq2 2 (by omega) (.slice ra RL rc) ⟨dnV k x.n, x.u, ⟨ra, RL, rc⟩⟩ (by rw [hgx]; rfl) hxin;have hv2 : (g2[i + 1]'HK2.out).s.val = .slice (some ⟨nb, 0, none⟩) NX xc := (by rw [HX2.out]; exact HXS.out);rw [hv2] at hv';simp only [Value.slice.injEq, zO, Addr.mk.injEq, and_true] at hv'
       obtain ⟨rfl, -, -⟩ := hv'
       have hset : g2.set (i + 1) ⟨(g2[i + 1]'HK2.out).vs.set q ⟨dnV k x.n, x.u, ⟨ra, RL, rc⟩⟩, (g2[i + 1]'HK2.out).s⟩ = g1.set (i + 1) ⟨vs2.set q ⟨dnV k x.n, x.u, ⟨ra, RL, rc⟩⟩, X.s⟩ := by
        rw [HX2.out, HG2.out, List.set_set]
       rw [hset] at hgo';obtain ⟨gb5, he5, x9, -⟩ := hgoz.cellL (i + 1) HK2.out;simp only [zO, Addr.mk.injEq, and_true] at he5
       subst he5;rw [hv2, <- HI1.out] at x9;have hnbG : GB (.slice (some ⟨gb, 0, none⟩) g.length c) g nb := .inr ⟨X, by rw [HXG.out]; exact zM _, by rw [HXS.out]; rfl⟩
       have c2 : wr.cell? ⟨nb, q * 3 + 2, none⟩ = some (x.q.val) := by
        have h1 := hgoz.lv _ (zM HK2.out);rw [hv2] at h1;have := h1.cell encV_ok q hq2 2 (by omega) x.q.val (by rw [hgx]; rfl);exact this
       have z2 := hfr' (q * 3 + 2);obtain ⟨W8, hW8⟩ : ∃ W8, W8 = wr.setCell ⟨nb, q * 3 + 2, none⟩ (.slice ra RL rc) := ⟨_, rfl⟩
       have HW8 := Bx.mk hW8;rw [<- hW8] at hgo' hgr'
       have HS8 := Bx.mk (show GStep w B (.slice (some ⟨gb, 0, none⟩) g.length c) g W8 (g1.set (i + 1) ⟨vs2.set q ⟨dnV k x.n, x.u, ⟨ra, RL, rc⟩⟩, X.s⟩) from
        ⟨hgo', (HS4.out.below hB5.out).fr.trans (Fr.of_grown (S := GB (.slice (some ⟨gb, 0, none⟩) g.length c) g) hgr' fun r hr => by
          simp only [zO] at hr; subst hr; exact hnbG) (fun _ _ h => h), fun r hr => by
         rw [<- hset] at hr
         exact HS4.out.nb r ((GB.same HK2.out _).1 hr)⟩)
       have HV8 := Bx.mk (show ∀ r, r < NX -> (r < q + 1 -> ((vs2.set q ⟨dnV k x.n, x.u, ⟨ra, RL, rc⟩⟩)[r]!).n = dnV k (X.vs[r]!).n) /\ (q + 1 <= r -> (vs2.set q ⟨dnV k x.n, x.u, ⟨ra, RL, rc⟩⟩)[r]! = X.vs[r]!) from fun r hr => by
        have hr2 : r < vs2.length := (by rw [hvl.out]; exact hr);have h0 := hvs.out r hr;rw [getElem!_pos vs2 r hr2] at h0;rw [getElem!_pos (vs2.set q _) r (by simpa using hr2), List.getElem_set];by_cases e : q = r
        ·subst e;rw [if_pos rfl];refine ⟨fun _ => ?_, fun h => by omega⟩;rw [<- h0.2 (zR _)]
         show dnV k x.n = dnV k (vs2[q]).n
         rw [HXE.out]
        ·rw [if_neg e]
         exact ⟨fun h => h0.1 (by omega), fun h => h0.2 (by omega)⟩)
       have HVN8 := Bx.mk (show ∀ y ∈ vs2.set q ⟨dnV k x.n, x.u, ⟨ra, RL, rc⟩⟩, ∀ kb, (y.u.val.ownBlock = some kb \/ y.q.val.ownBlock = some kb) -> (∃ z ∈ X.vs, z.u.val.ownBlock = some kb \/ z.q.val.ownBlock = some kb) \/ w.heap.size <= kb from fun y hy kb hkb => by
        rcases List.mem_or_eq_of_mem_set hy with e | rfl
        ·exact hvn.out y e kb hkb
        ·rcases hkb with e | e
         ·exact hvn.out x (by rw [HXE.out]; exact zM _) kb (.inl e)
         ·right
          have h1 := (hO6.lt kb e).1;have h2 := HS4.out.fr.size
          omega)
       have HVL8 := Bx.mk (show (vs2.set q ⟨dnV k x.n, x.u, ⟨ra, RL, rc⟩⟩).length = NX by rw [zL]; exact hvl.out);clear hW8 hgo' hgr' hset hv2 hfr' hnbG hO6 hpar hxin hgoz hgx hRV hnl';simp only [Sl.val] at c2
       go_wp2_with fail
       rw [<- HW8.out];go_roundw
       case rel => exact ⟨q + 1, _, by omega, by go_num, HVL8, HV8, HVN8, HS8⟩
       case measure => simp [intOf]; omega
    ·obtain rfl : q = NX := by omega
     have HFE := Bx.mk (show gxs g2 = dropG (gxs g) i k by
      rw [HG2.out];unfold dropG;rw [gxs_len, <- HN.out, if_pos (by have := HI1.out; have := HI1N.out; omega), <- HG1.out];have e1 : gxs (g1.set (i + 1) ⟨vs2, X.s⟩) = (gxs g1).set (i + 1) (vxs vs2) := List.map_set;rw [e1, gxs_at' g (i + 1) HK1'.out, <- HXG.out];congr 1
      apply List.ext_getElem
      ·simp [vxs, hvl.out, HNX.out]
      ·intro r h1 h2;have hr1 : r < vs2.length := (by simpa [vxs] using h1);have hr2 : r < X.vs.length := (by rw [<- HNX.out, <- hvl.out]; exact hr1);have := (hvs.out r (by rw [<- hvl.out]; exact hr1)).1 (by rw [<- hvl.out]; exact hr1);rw [getElem!_pos vs2 r hr1, getElem!_pos X.vs r hr2] at this;simp only [vxs, List.getElem_map]
       exact this)
     have HNK2 := Bx.mk (show NK w g g2 from fun B' hB' hq => by
      rw [HG2.out];refine (HNK.out B' hB' hq).set (i + 1) fun y hy kb hkb => ?_
      rcases hvn.out y hy kb hkb with ⟨z, hz, e⟩ | e
      ·exact hq _ (zM HK1'.out) z (by rw [<- HXG.out]; exact hz) kb e
      ·omega)
     go_wp2_with fail
     go_end0
     rw [HN.out];exact ⟨⟨_, rfl⟩, _, hS.out, HFE.out, HNK2.out⟩
theorem gx_len {g2 : List Lv} {G : List (List Vx)} (h : gxs g2 = G) : g2.length = G.length := by rw [<- h, gxs_len]
theorem GO.parC {w : World} {B : Nat} {gb N c : Nat} {g : List Lv} (h : GO w B (.slice (some ⟨gb, 0, none⟩) N c) g) {j : Nat} (hj : j < g.length) {la : Option Addr} {NV lc : Nat} (hl : (g[j]).s.val = .slice la NV lc) {r : Nat} (hr : r < (g[j]).vs.length) :
  ∃ b o pa pc, la = some ⟨b, o, none⟩ /\ w.cell? ⟨b, o + r * 3 + 2, none⟩ = some (.slice pa ((g[j]).vs[r]).n.par.length pc) /\ Ri w (.slice pa ((g[j]).vs[r]).n.par.length pc) ((g[j]).vs[r]).n.par := by
 have hv := h.gl.lv _ (zM hj);rw [hl] at hv;obtain ⟨b, o, e, -, -, -, c2⟩ := hv.at3 w (Below.refl _ _) r hr;have hx := hv.at_ _ (zM hr);obtain ⟨pa, pc, hpq, -⟩ := RqIn.form hx.2.1;rw [hpq] at c2;exact ⟨b, o, pa, pc, e, c2, hpq ▸ hx.2.1.all⟩
theorem rorph_any (w : World) (B : Nat) (v : Value) (g : List Lv) (h : GO w B v g) (hP : PG (gxs g)) (hn : g.length <= 100000) :
  Calls Tryz.prog 75 #[v] w fun e w' => (∃ u, e = .returned u) /\ ∃ g', GStep w B v g w' g' /\ gxs g' = fwdG (gxs g) (g.length - 1) /\ NK w g g' := by
 obtain ⟨ad, c, rfl, -⟩ := h.own.rd.form;have HP := Bx.mk hP;have HS0 := Bx.mk (GStep.refl h);obtain ⟨N, hN⟩ : ∃ N, N = g.length := ⟨_, rfl⟩
 have HN := Bx.mk hN;obtain ⟨v, hv⟩ : ∃ v, v = Value.slice ad g.length c := ⟨_, rfl⟩
 rw [<- hv] at HS0 h |-;have hvN : v = .slice ad N c := by rw [hv, hN]
 rw [<- hN] at hn;have HVN := Bx.mk hvN;obtain ⟨Q, hQ⟩ : ∃ Q, Q = fun (e : Ending) (w' : World) => (∃ u, e = .returned u) /\ ∃ g', GStep w B v g w' g' /\ gxs g' = fwdG (gxs g) (g.length - 1) /\ NK w g g' := ⟨_, rfl⟩
 have HQ := Bx.mk hQ;rw [<- hQ, hvN];clear hP h hN hv hvN hQ;go_enter Tryz.func75, Tryz.ntmps75;go_wp2_with fail
 go_loopw [2] (fun i wr => ∃ (j : Nat) (g2 : List Lv), Bx (1 <= j /\ (j <= N \/ j = 1)) /\ i = .int .i64 (j : Nat) /\ Bx (GStep w B v g wr g2) /\ Bx (gxs g2 = fwdG (gxs g) (j - 1)) /\ Bx (NK w g g2)) (fun i _ => N + 1 - (intOf i).toNat)
 case atStart => exact ⟨1, g, ⟨by omega⟩, rfl, HS0, ⟨rfl⟩, ⟨NK.refl _ _⟩⟩
 case round =>
  clear HS0;obtain ⟨j, g1, HJ, rfl, hS, hF, hK⟩ := hrel;have hjb : j <= 100001 := by have := HJ.out; omega
  by_cases hlt : j < N
  ·have HF := hF;obtain ⟨G, hG⟩ : ∃ G, G = fwdG (gxs g) (j - 1) := ⟨_, rfl⟩
   have HGD := Bx.mk hG;have HGL := Bx.mk (show G.length = N by rw [hG, fwdG_len, gxs_len, HN.out]);have HPG := Bx.mk (show PG G by rw [hG]; exact fwdG_pg HP.out (j - 1) (.inl (by rw [gxs_len, <- HN.out]; omega)));obtain ⟨M, hM⟩ : ∃ M, M = marksA G[j]! := ⟨_, rfl⟩
   have HM := Bx.mk hM;have HML := Bx.mk (show M.length = (G[j]!).length by rw [hM, marksA_len]);have HGE := Bx.mk (show gxs g1 = G by rw [hG]; exact hF.out);have HJL := Bx.mk (show j < G.length by rw [HGL.out]; exact hlt)
   have HMB := Bx.mk (show M.length <= 100000 by
    rw [HML.out, getElem!_pos G j HJL.out]; exact HPG.out.len _ (zM _))
   have HJ1 := Bx.mk (show j < g1.length by rw [gx_len HGE.out]; exact HJL.out);have hj1 := HJ1.out;have HLV := Bx.mk (show (g1[j]'HJ1.out).vs.length = M.length by rw [HML.out, <- HGE.out, gxs_at' g1 j HJ1.out, vxs_len]);have hgo := hS.out.go;rw [HVN.out] at hgo;obtain ⟨gb, rfl, l0, -⟩ := hgo.cellL j hj1;obtain ⟨la, lc, hls, -⟩ := (hgo.gl.lv _ (zM hj1)).rd.form;rw [HLV.out] at hls;rw [hls] at l0;have hNK := hK;clear hK;obtain ⟨K, hK⟩ : ∃ K, K = M.length := ⟨_, rfl⟩
   have HK := Bx.mk hK;rw [<- hK] at l0;have hKb : K <= 100000 := by rw [hK]; exact HMB.out
   obtain ⟨z0, hz0⟩ : ∃ z0, z0 = (K : Int) - 1 := ⟨_, rfl⟩
   have HZ0 := Bx.mk hz0;have wz : IntKind.i64.wrap ((K : Int) - 1) = z0 := by rw [IntWalk.i64_in _ (by omega), hz0]
   have HS1 := Bx.mk (show GStep w B v g wr g1 /\ gxs g1 = filtG G j (upM M K) from ⟨hS.out, by rw [HGE.out, hK]; exact (filtG_up HPG.out HJL.out HML.out).symm⟩);clear hG hM hK hz0 hgo hls hj1 hF HF hS;go_wp2_with fail
   clear l0 wz;go_loopw [3] (fun z wz => ∃ (m : Nat) (x : Int) (g2 : List Lv), m <= K /\ z = .int .i64 x /\ Bx (x = (m : Int) - 1) /\ Bx (GStep w B v g wz g2 /\ gxs g2 = filtG G j (upM M m)) /\ Bx (NK w g g2)) (fun z _ => (intOf z + 1).toNat)
   case atStart => exact ⟨K, z0, g1, zR _, rfl, HZ0, HS1, hNK⟩
   case round =>
    clear HS1;obtain ⟨m, x, g2, hm, rfl, HX, hS2, hK2⟩ := hrel
    cases m with
    | zero =>
     obtain rfl : x = -1 := (by have := HX.out; omega);have t1 : decide ((-1 : Int) >= 0) = false := rfl
     have HFE := Bx.mk (show gxs g2 = fwdG (gxs g) (j + 1 - 1) by
      have := hS2.out.2;rw [upM_zero] at this
      rw [this, show j + 1 - 1 = (j - 1) + 1 by have := HJ.out; omega, fwdG, <- HGD.out, show j - 1 + 1 = j by have := HJ.out; omega, HM.out])
     have HSE := Bx.mk hS2.out.1;clear hS2;go_wp2_with fail
     go_roundw
     case rel => exact ⟨j + 1, g2, ⟨by omega⟩, by go_num, HSE, HFE, hK2⟩
     case measure => simp [intOf]; omega
    | succ r =>
     obtain rfl : x = (r : Int) := (by have := HX.out; omega);have hrM : r < M.length := (by rw [<- HK.out]; omega);have hj2 : j < g2.length := (by rw [gx_len hS2.out.2, filtG_len]; exact HJL.out);have hat := up_at HJL.out HML.out hrM;rw [<- hS2.out.2, gxs_at' g2 j hj2, vxs_len] at hat;obtain ⟨hr2, he2⟩ := hat;rw [vxs_at _ _ hr2] at he2;have hgo := hS2.out.1.go;rw [HVN.out] at hgo;obtain ⟨gb2, heq, l0, -⟩ := hgo.cellL j hj2;simp only [zO, Addr.mk.injEq, and_true] at heq
     subst heq;obtain ⟨la2, lc2, hls, -⟩ := (hgo.gl.lv _ (zM hj2)).rd.form;obtain ⟨b, o, pa, pc, rfl, c2, -⟩ := hgo.parC hj2 hls hr2;rw [hls] at l0;obtain ⟨NV, hNV⟩ : ∃ NV, NV = (g2[j]).vs.length := ⟨_, rfl⟩
     rw [<- hNV] at l0 hr2;rw [he2] at c2;obtain ⟨PN, hPN⟩ : ∃ PN, PN = ((G[j]!)[r]!).par.length := ⟨_, rfl⟩
     rw [<- hPN] at c2
     have hNVb : NV <= 100000 := by
      have h1 := filtG_llen HJL.out (upM M (r + 1)) j;rw [<- hS2.out.2, gxs_at' g2 j hj2, vxs_len, <- HML.out] at h1;have := HMB.out;omega
     have hmk : M[r]! = decide (0 < PN) := by rw [HM.out, marksA_at _ _ (by rw [<- HML.out]; exact hrM), hPN]
     have hPNb : PN <= 100000 := by
      have h1 := (hS2.out.1.go.nm _ (zM hj2) _ (zM (by rw [<- hNV]; exact hr2 : r < (g2[j]).vs.length))).2.2.2.2.1;rw [he2, <- hPN] at h1; exact h1
     have t0 : decide ((r : Int) >= 0) = true := (by simp);have wr1 : IntKind.i64.wrap ((r : Int) - 1) = (r : Int) - 1 := (by rw [IntWalk.i64_in _ (by omega)]);have HGO2 := Bx.mk hS2.out.1.go;have HPG2 := Bx.mk (show PG (gxs g2) by rw [hS2.out.2]; exact HPG.out.filt HJL.out _);have HGN2 := Bx.mk (show g2.length <= 100000 by rw [gx_len hS2.out.2, filtG_len, HGL.out]; exact hn);have HSS := Bx.mk hS2.out.1;have HSG := Bx.mk hS2.out.2;have HRM := Bx.mk hrM;by_cases hp0 : PN = 0
     ·subst hp0;have t2 : (((0 : Nat) : Int) == 0) = true := rfl;have hd := rdrop_any wr B v g2 HGO2.out HPG2.out HGN2.out j hj2 r (by rw [<- hNV]; exact hr2);rw [HVN.out] at hd;have HMF := Bx.mk (show M[r]! = false by rw [hmk]; rfl);clear hNV hPN hmk hls he2 hrM hS2 hgo;go_wp2_with fail
      go_at_call 68;refine hd.mono ?_;rintro e w2 ⟨⟨u, rfl⟩, g3, hs3, hg3, hk3⟩;have HK3 := Bx.mk (hK2.out.trans HSS.out.fr.size hk3);have HS3 := Bx.mk (show GStep w B v g w2 g3 /\ gxs g3 = filtG G j (upM M r) from ⟨HSS.out.trans (by rw [HVN.out]; exact hs3), by rw [hg3, HSG.out, up_drop HPG.out HJL.out HML.out HRM.out HMF.out]⟩);clear hd hs3 hg3 hk3 c2 l0 t2;go_wp2_with fail
      go_roundw
      case rel => exact ⟨r, (r : Int) - 1, g3, by omega, by first | rfl | go_num, ⟨rfl⟩, HS3, HK3⟩
      case measure => simp [intOf]; try omega
     ·have t2 : ((PN : Int) == 0) = false := by simp; omega
      have t3 : ¬ (PN : Int) = 0 := (by omega);have HS3 := Bx.mk (show GStep w B v g wr g2 /\ gxs g2 = filtG G j (upM M r) from ⟨HSS.out, by rw [HSG.out, upM_keep HRM.out (by rw [hmk, decide_eq_true_eq]; omega)]⟩);clear hNV hPN hmk hls he2 hrM hS2 hgo hp0;go_wp2_with fail
      go_roundw
      case rel => exact ⟨r, (r : Int) - 1, g2, by omega, by first | rfl | go_num, ⟨rfl⟩, HS3, hK2⟩
      case measure => simp [intOf]; try omega
  ·have HFE := Bx.mk (show gxs g1 = fwdG (gxs g) (g.length - 1) by
    rw [hF.out, <- HN.out];congr 1
    have := HJ.out; omega)
   go_wp2_with fail
   go_end0
   rw [HQ.out];exact ⟨⟨_, rfl⟩, g1, hS.out, HFE.out, hK.out⟩
theorem any_take {l : List Vx} {j : Nat} (hj : j < l.length) (f : Vx -> Bool) : (l.take (j + 1)).any f = ((l.take j).any f || f l[j]!) := by
 rw [zA hj, List.any_append, getElem!_pos l j hj];simp
theorem mem_take {l : List Int} {n : Nat} (hn : n < l.length) (r : Int) : decide (r ∈ l.take (n + 1)) = (decide (r ∈ l.take n) || decide (l[n] = r)) := by
 rw [zA hn, Bool.eq_iff_iff];simp only [decide_eq_true_eq, Bool.or_eq_true, List.mem_append, zS]
 constructor
 ·rintro (h | h)
  ·exact .inl h
  ·exact .inr h.symm
 ·rintro (h | h)
  ·exact .inl h
  ·exact .inr h.symm
def PrN (w : World) (B : Nat) (v : Value) (g : List Lv) (e : Ending) (w' : World) : Prop :=
 ∃ v' g', e = .returned v' /\ GO w' B v' g' /\ gxs g' = pruneG (gxs g) /\ Fr (GB v g) w w' /\ (∀ k, GB v' g' k -> GB v g k \/ w.heap.size <= k) /\ NK w g g'
theorem rprune_any (w : World) (B : Nat) (v : Value) (g : List Lv) (h : GO w B v g) (hP : PG (gxs g)) (hn : g.length <= 100000) :
  Calls Tryz.prog 58 #[v] w fun e w' => PrN w B v g e w' := by
 have ho := rorph_any w B v g h hP hn;obtain ⟨ad, c, rfl, -⟩ := h.own.rd.form;have HP := Bx.mk hP;obtain ⟨N, hN⟩ : ∃ N, N = g.length := ⟨_, rfl⟩
 have HN := Bx.mk hN;obtain ⟨v, hv⟩ : ∃ v, v = Value.slice ad g.length c := ⟨_, rfl⟩
 rw [<- hv] at h ho |-;have hvN : v = .slice ad N c := by rw [hv, hN]
 rw [<- hN] at hn;have HVN := Bx.mk hvN;obtain ⟨Q, hQ⟩ : ∃ Q, Q = fun (e : Ending) (w' : World) => PrN w B v g e w' := ⟨_, rfl⟩
 have HQ := Bx.mk hQ;have HGO := Bx.mk h;rw [<- hQ, hvN];rw [hvN] at ho;obtain ⟨F, hF⟩ : ∃ F, F = fwdG (gxs g) (g.length - 1) := ⟨_, rfl⟩
 have HF := Bx.mk hF;have HFL := Bx.mk (show F.length = N by rw [hF, fwdG_len, gxs_len, hN]);have HFP := Bx.mk (show PG F by rw [hF]; exact fwdG_pg hP _ (by rw [gxs_len]; omega));obtain ⟨z0, hz0⟩ : ∃ z0, z0 = (N : Int) - 2 := ⟨_, rfl⟩
 have HZ0 := Bx.mk (show z0 = (N : Int) - 2 - (0 : Nat) /\ 0 <= N - 1 by omega);have wz : IntKind.i64.wrap ((N : Int) - 2) = z0 := by rw [IntWalk.i64_in _ (by omega), hz0]
 clear hP h hN hv hvN hQ hF hz0;go_enter Tryz.func58, Tryz.ntmps58;go_wp2_with fail
 go_at_call 75;refine ho.mono ?_;rintro e w1 ⟨⟨u, rfl⟩, g1, hs1, hg1, hk1⟩;have HK1 := Bx.mk hk1;rw [<- HVN.out] at hs1;have HS1 := Bx.mk (show GStep w B v g w1 g1 /\ gxs g1 = bwdG F 0 from ⟨hs1, by rw [hg1, HF.out]; rfl⟩);clear ho hs1 hg1 hk1;go_wp2_with fail
 clear wz;go_loopw [3] (fun i wr => ∃ (n : Nat) (x : Int) (g2 : List Lv), Bx (x = (N : Int) - 2 - n /\ n <= N - 1) /\ i = .int .i64 x /\ Bx (GStep w B v g wr g2 /\ gxs g2 = bwdG F n) /\ Bx (NK w g g2)) (fun i _ => (intOf i + 1).toNat)
 case atStart => exact ⟨0, z0, g1, HZ0, rfl, HS1, HK1⟩
 case round =>
  clear HS1 HZ0 HK1;obtain ⟨n, x, g2, HX, rfl, hS, hNK⟩ := hrel;by_cases hx0 : 0 <= x
  ·obtain ⟨i, rfl⟩ : ∃ i : Nat, x = (i : Int) := ⟨x.toNat, by omega⟩
   have hiN : i + 1 < N := by have := HX.out; omega
   obtain ⟨G, hG⟩ : ∃ G, G = bwdG F n := ⟨_, rfl⟩
   have HGD := Bx.mk hG;have HGL := Bx.mk (show G.length = N by rw [hG, bwdG_len, HFL.out]);have HPG := Bx.mk (show PG G by rw [hG]; exact bwdG_pg HFP.out n (by have := HX.out; have := HFL.out; omega));obtain ⟨i1, hi1⟩ : ∃ i1, i1 = i + 1 := ⟨_, rfl⟩
   have HI1 := Bx.mk hi1;have hi1N : i1 < N := by omega
   obtain ⟨M, hM⟩ : ∃ M, M = marksB (G[i]!).length G[i1]! := ⟨_, rfl⟩
   have HM := Bx.mk hM;have HML := Bx.mk (show M.length = (G[i]!).length by rw [hM, marksB_len]);have HGE := Bx.mk (show gxs g2 = G by rw [hG]; exact hS.out.2);have HJL := Bx.mk (show i < G.length by rw [HGL.out]; omega)
   have HMB := Bx.mk (show M.length <= 100000 by
    rw [HML.out, getElem!_pos G i HJL.out]; exact HPG.out.len _ (zM _))
   have HJ1 := Bx.mk (show i < g2.length by rw [gx_len HGE.out]; exact HJL.out);have HLV := Bx.mk (show (g2[i]'HJ1.out).vs.length = M.length by rw [HML.out, <- HGE.out, gxs_at' g2 i HJ1.out, vxs_len]);have hgo := hS.out.1.go;rw [HVN.out] at hgo;obtain ⟨gb, rfl, l0, -⟩ := hgo.cellL i HJ1.out;obtain ⟨la, lc, hls, -⟩ := (hgo.gl.lv _ (zM HJ1.out)).rd.form;rw [HLV.out] at hls;rw [hls] at l0;obtain ⟨K, hK⟩ : ∃ K, K = M.length := ⟨_, rfl⟩
   have HK := Bx.mk hK;rw [<- hK] at l0;have hKb : K <= 100000 := by rw [hK]; exact HMB.out
   obtain ⟨z1, hz1⟩ : ∃ z1, z1 = (K : Int) - 1 := ⟨_, rfl⟩
   have HZ1 := Bx.mk hz1;have wz : IntKind.i64.wrap ((K : Int) - 1) = z1 := by rw [IntWalk.i64_in _ (by omega), hz1]
   have HS2 := Bx.mk (show GStep w B v g wr g2 /\ gxs g2 = filtG G i (upM M K) from ⟨hS.out.1, by rw [HGE.out, hK]; exact (filtG_up HPG.out HJL.out HML.out).symm⟩);have HWI := Bx.mk (show IntKind.i64.wrap ((i : Int) + 1) = (i1 : Int) by rw [IntWalk.i64_in _ (by omega)]; omega);have tx : decide ((i : Int) >= 0) = true := by simp
   clear hG hM hK hz1 hgo hls hS hi1 hx0;go_wp2_with fail
   clear l0 wz tx;go_loopw [4] (fun z wz => ∃ (m : Nat) (x : Int) (g3 : List Lv), m <= K /\ z = .int .i64 x /\ Bx (x = (m : Int) - 1) /\ Bx (GStep w B v g wz g3 /\ gxs g3 = filtG G i (upM M m)) /\ Bx (NK w g g3)) (fun z _ => (intOf z + 1).toNat)
   case atStart => exact ⟨K, z1, g2, zR _, rfl, HZ1, HS2, hNK⟩
   case round =>
    clear HS2;obtain ⟨m, x, g3, hm, rfl, HX3, hS3, hNK3⟩ := hrel
    cases m with
    | zero =>
     obtain rfl : x = -1 := (by have := HX3.out; omega);have t1 : decide ((-1 : Int) >= 0) = false := rfl
     have HFE := Bx.mk (show gxs g3 = bwdG F (n + 1) by
      have := hS3.out.2;rw [upM_zero] at this;have hi := HX.out;have hl := HFL.out
      rw [this, bwdG, <- HGD.out, HM.out, show F.length - 2 - n = i by omega, HI1.out])
     have HX4 := Bx.mk (show (i : Int) - 1 = (N : Int) - 2 - (n + 1 : Nat) /\ n + 1 <= N - 1 by have := HX.out; omega);have HSE := Bx.mk hS3.out.1;clear hS3;go_wp2_with fail
     go_roundw
     case rel => exact ⟨n + 1, (i : Int) - 1, g3, HX4, by first | rfl | go_num, ⟨HSE.out, HFE.out⟩, hNK3⟩
     case measure => simp [intOf]; try omega
    | succ r =>
     obtain rfl : x = (r : Int) := (by have := HX3.out; omega);have HRM := Bx.mk (show r < M.length by rw [<- HK.out]; omega);have HG3 := Bx.mk (show i < g3.length by rw [gx_len hS3.out.2, filtG_len]; exact HJL.out);have HG31 := Bx.mk (show i1 < g3.length by rw [gx_len hS3.out.2, filtG_len, HGL.out]; exact hi1N);have hgo := hS3.out.1.go;rw [HVN.out] at hgo;have HGO3 := Bx.mk hgo;have HPG3 := Bx.mk (show PG (gxs g3) by rw [hS3.out.2]; exact HPG.out.filt HJL.out _);have HGN3 := Bx.mk (show g3.length <= 100000 by rw [gx_len hS3.out.2, filtG_len, HGL.out]; exact hn);obtain ⟨gb2, heq, l1, -⟩ := hgo.cellL i1 HG31.out;simp only [zO, Addr.mk.injEq, and_true] at heq
     subst heq;obtain ⟨X, hX⟩ : ∃ X, X = g3[i1]'HG31.out := ⟨_, rfl⟩
     have HX := Bx.mk hX;obtain ⟨la2, lc2, hls, -⟩ := (hgo.gl.lv _ (zM HG31.out)).rd.form;rw [<- hX] at l1 hls;have HLS := Bx.mk hls;rw [hls] at l1;have HLL := Bx.mk (pg_len HPG3.out _ (zM HG31.out));rw [<- hX] at HLL;obtain ⟨NV, hNV⟩ : ∃ NV, NV = X.vs.length := ⟨_, rfl⟩
     have HNV := Bx.mk hNV;have hNVb : NV <= 100000 := (by rw [hNV]; exact HLL.out);rw [<- hNV] at l1;have HL1 := Bx.mk l1
     have HKID := Bx.mk (show ((vxs X.vs).any fun v => decide ((r : Int) ∈ v.par)) = M[r]! by
      have h1 := up_kid (m := M) HPG.out (show i + 1 < G.length by rw [HGL.out]; exact hiN) HRM.out;rw [<- hS3.out.2, <- HI1.out, gxs_at' g3 i1 HG31.out, <- hX] at h1
      rw [h1, HM.out, marksB_at (by rw [<- HML.out]; exact HRM.out)])
     have HS4 := Bx.mk hS3.out;have hrK : r <= K := (by omega);obtain ⟨W4, hW4⟩ : ∃ W4, W4 = wr := ⟨_, rfl⟩
     have HW4 := Bx.mk hW4;have t0 : decide ((r : Int) >= 0) = true := (by simp);have wi := HWI.out;clear hgo hX hls hNV hS3 hW4 l1;go_upto_block 4 with fail
     clear t0;go_cut [5] (fun s5 wx => ∃ kb : Bool, s5 = .bool kb /\ Bx (kb = M[r]!) /\ wx = wr)
     case first =>
      go_wp2_with fail
      go_loopw [5, 6] (fun s5 iv wx => ∃ (j : Nat) (kb : Bool), j <= NV /\ s5 = .bool kb /\ iv = .int .i64 j /\ Bx (kb = ((vxs X.vs).take j).any fun v => decide ((r : Int) ∈ v.par)) /\ wx = wr) (fun _ iv _ => NV - (intOf iv).toNat)
      case atStart => exact ⟨0, false, by omega, rfl, rfl, ⟨rfl⟩, rfl⟩
      case round =>
       obtain ⟨j, kb, hj, rfl, rfl, hkb, rfl⟩ := hrel;by_cases hlt : j < NV
       ·have hjl : j < X.vs.length := by rw [<- HNV.out]; exact hlt
        have hpc := HGO3.out.parC HG31.out (la := la2) (lc := lc2) (NV := X.vs.length) (by rw [<- HX.out]; exact HLS.out) (r := j) (by rw [<- HX.out]; exact hjl);simp only [<- HX.out] at hpc
        obtain ⟨b, o, pa, pc, rfl, c2, hri⟩ := hpc;have HJX := Bx.mk (vxs_at X.vs j hjl);have hPNb : (X.vs[j]).n.par.length <= 100000 := (HGO3.out.nm _ (zM HG31.out) _ (by rw [<- HX.out]; exact zM hjl)).2.2.2.2.1;have HJL2 := Bx.mk (show j < (vxs X.vs).length by rw [vxs_len]; exact hjl);obtain ⟨y, hy⟩ : ∃ y, y = (X.vs[j]).n := ⟨_, rfl⟩
        rw [<- hy] at c2 hri hPNb HJX;have HPC := Bx.mk (Ri.cells hri);obtain ⟨PN, hPN⟩ : ∃ PN, PN = y.par.length := ⟨_, rfl⟩
        have HPN := Bx.mk hPN;rw [<- hPN] at c2 hPNb;have l1 := HL1.out;clear hri hPN hy hjl;go_wp2_with fail
        clear l1 c2;go_loopw [5, 8] (fun s5 iv wx => ∃ (n : Nat) (kc : Bool), n <= PN /\ s5 = .bool kc /\ iv = .int .i64 n /\ Bx (kc = (kb || decide ((r : Int) ∈ y.par.take n))) /\ wx = wr) (fun _ iv _ => PN - (intOf iv).toNat)
        case atStart => exact ⟨0, kb, by omega, rfl, rfl, ⟨by simp⟩, rfl⟩
        case round =>
         obtain ⟨n, kc, hn', rfl, rfl, hkc, rfl⟩ := hrel;by_cases hlt3 : n < PN
         ·have hnl : n < y.par.length := by rw [<- HPN.out]; exact hlt3
          obtain ⟨bp, op, rfl, hbp, d0⟩ := HPC.out wr (Below.refl _ _) n hnl;have HMT := Bx.mk (mem_take hnl (r : Int));obtain ⟨p, hp⟩ : ∃ p, p = y.par[n] := ⟨_, rfl⟩
          rw [<- hp] at d0 HMT;obtain ⟨bq, hbq⟩ : ∃ b, b = decide (p = (r : Int)) := ⟨_, rfl⟩
          have t1 : (p == (r : Int)) = bq := (by rw [hbq, Bool.eq_iff_iff]; simp);have t2 : decide (p = (r : Int)) = bq := hbq.symm;have HE := Bx.mk (show (kc || bq) = (kb || decide ((r : Int) ∈ y.par.take (n + 1))) by rw [HMT.out, hkc.out, hbq, Bool.or_assoc]);clear hp hnl hbq HMT
          cases kc with
          | true =>
           go_wp2_with fail
           go_roundw
           case rel => exact ⟨n + 1, true, by omega, by first | rfl | go_num, by first | rfl | go_num, ⟨HE.out⟩, by first | rfl | trivial⟩
           case measure => simp [intOf]; omega
          | false =>
           cases bq with
           | true =>
            have tp : p = (r : Int) := of_decide_eq_true t2;go_wp2_with fail
            go_roundw
            case rel => exact ⟨n + 1, true, by omega, by first | rfl | go_num, by first | rfl | go_num, ⟨HE.out⟩, by first | rfl | trivial⟩
            case measure => simp [intOf]; omega
           | false =>
            have tp : ¬ p = (r : Int) := of_decide_eq_false t2;go_wp2_with fail
            go_roundw
            case rel => exact ⟨n + 1, false, by omega, by first | rfl | go_num, by first | rfl | go_num, ⟨HE.out⟩, by first | rfl | trivial⟩
            case measure => simp [intOf]; omega
         ·obtain rfl : n = PN := by omega
          have HE := Bx.mk (show kc = ((vxs X.vs).take (j + 1)).any fun v => decide ((r : Int) ∈ v.par) by
           rw [any_take HJL2.out, <- hkb.out, hkc.out, HJX.out, HPN.out, List.take_length])
          go_wp2_with fail
          go_roundw
          case rel => exact ⟨j + 1, kc, by omega, rfl, by go_num, HE, by first | rfl | trivial⟩
          case measure => simp [intOf]; omega
       ·obtain rfl : j = NV := by omega
        have HE := Bx.mk (show kb = M[r]! by rw [hkb.out, <- HKID.out, HNV.out, <- vxs_len, List.take_length]);have l1 := HL1.out;go_wp2_with fail
        go_meet;exact ⟨kb, rfl, HE, rfl⟩
     case rest =>
      obtain ⟨kb, rfl, hkb, rfl⟩ := hcut;have hj2 := HG3.out;have hat := up_at HJL.out HML.out HRM.out;rw [<- HS4.out.2, gxs_at' g3 i hj2, vxs_len] at hat
      cases kb with
      | true =>
       have HS5 := Bx.mk (show GStep w B v g wc g3 /\ gxs g3 = filtG G i (upM M r) from ⟨HS4.out.1, by rw [HS4.out.2, upM_keep HRM.out hkb.out.symm]⟩);clear hat hj2;go_wp2_with fail
       go_roundw
       case rel => exact ⟨r, (r : Int) - 1, g3, by omega, by first | rfl | go_num, ⟨rfl⟩, HS5, hNK3⟩
       case measure => simp [intOf]; try omega
      | false =>
       have hd := rdrop_any wc B v g3 HS4.out.1.go HPG3.out HGN3.out i hj2 r hat.1;rw [HVN.out] at hd;clear hat hj2;go_wp2_with fail
       go_at_call 68;refine hd.mono ?_;rintro e w2 ⟨⟨u, rfl⟩, g4, hs4, hg4, hk4⟩;have HNK4 := Bx.mk (hNK3.out.trans HS4.out.1.fr.size hk4);have HS5 := Bx.mk (show GStep w B v g w2 g4 /\ gxs g4 = filtG G i (upM M r) from ⟨HS4.out.1.trans (by rw [HVN.out]; exact hs4), by rw [hg4, HS4.out.2, up_drop HPG.out HJL.out HML.out HRM.out hkb.out.symm]⟩);clear hd hs4 hg4 hk4;go_wp2_with fail
       go_roundw
       case rel => exact ⟨r, (r : Int) - 1, g4, by omega, by first | rfl | go_num, ⟨rfl⟩, HS5, HNK4⟩
       case measure => simp [intOf]; try omega
  ·have tx : decide (x >= 0) = false := zF (by omega)
   have HH := Bx.mk (show gxs g2 = bwdG (fwdG (gxs g) ((gxs g).length - 1)) ((gxs g).length - 1) by
    have h1 := HX.out;rw [hS.out.2, HF.out, gxs_len, <- HN.out];congr 1
    omega)
   have HSE := Bx.mk hS.out.1;have HL2 := Bx.mk (show g2.length = N by rw [gx_len hS.out.2, bwdG_len, HFL.out]);have HPG2 := Bx.mk (show PG (gxs g2) by rw [hS.out.2]; exact bwdG_pg HFP.out n (by have := HX.out; have := HFL.out; omega));clear hS HX;go_wp2_with fail
   clear tx;go_loopw [9] (fun iv wx => ∃ j : Nat, j <= N /\ iv = .int .i64 j /\ Bx (∀ q, q < j -> ((gxs g2)[q]!).length ≠ 0) /\ wx = wr) (fun iv _ => N - (intOf iv).toNat)
   case atStart => exact ⟨0, by omega, rfl, ⟨fun q hq => by omega⟩, rfl⟩
   case round =>
    obtain ⟨j, hj, rfl, hall, rfl⟩ := hrel;by_cases hlt : j < N
    ·have HJ2 := Bx.mk (show j < g2.length by rw [HL2.out]; exact hlt);have hgo := HSE.out.go;rw [HVN.out] at hgo;obtain ⟨gb, rfl, l0, -⟩ := hgo.cellL j HJ2.out;obtain ⟨la, lc, hls, -⟩ := (hgo.gl.lv _ (zM HJ2.out)).rd.form;rw [hls] at l0;have hlb := pg_len HPG2.out _ (zM HJ2.out);have hle : ((gxs g2)[j]!).length = (g2[j]'HJ2.out).vs.length := (by rw [gxs_at' g2 j HJ2.out, vxs_len]);obtain ⟨LN, hLN⟩ : ∃ LN, LN = (g2[j]'HJ2.out).vs.length := ⟨_, rfl⟩
     rw [<- hLN] at l0 hlb hle;have HLE := Bx.mk hle;clear hgo hls hLN hle;by_cases h0 : LN = 0
     ·subst h0;have t1 : (((0 : Nat) : Int) == 0) = true := rfl
      have HPE := Bx.mk (show pruneG (gxs g) = [] by
       unfold pruneG;simp only [<- HH.out]
       rw [if_pos];rw [List.any_eq_true];refine ⟨(gxs g2)[j]!, ?_, zT HLE.out⟩;rw [getElem!_pos (gxs g2) j (by rw [gxs_len]; exact HJ2.out)]
       exact zM _)
      go_wp2_with fail
      rw [HQ.out];refine ⟨_, [], rfl, GO.nil _ _, HPE.out.symm, HSE.out.fr, fun k hk => ?_, fun B' _ _ => NQ.nil _⟩;rcases hk with q | ⟨L, hL, -⟩
      ·simp [Value.ownBlock] at q
      ·cases hL
     ·have t1 : ((LN : Int) == 0) = false := by simp; omega
      have t2 : ¬ (LN : Int) = 0 := by omega
      have HA := Bx.mk (show ∀ q, q < j + 1 -> ((gxs g2)[q]!).length ≠ 0 from fun q hq => by
       by_cases e : q = j
       ·subst e; rw [HLE.out]; exact h0
       ·exact hall.out q (by omega))
      clear h0;go_wp2_with fail
      go_roundw
      case rel => exact ⟨j + 1, by omega, by go_num, HA, by first | rfl | trivial⟩
      case measure => simp [intOf]; omega
    ·obtain rfl : j = N := by omega
     have HPE := Bx.mk (show pruneG (gxs g) = gxs g2 by
      unfold pruneG;simp only [<- HH.out]
      rw [if_neg];rw [List.any_eq_true];rintro ⟨l, hl, he⟩;rw [decide_eq_true_eq] at he;obtain ⟨q, hq, rfl⟩ := List.getElem_of_mem hl;have hq' : q < g2.length := (by rw [<- gxs_len g2]; exact hq);refine hall.out q (by rw [<- HL2.out]; exact hq') ?_
      rw [getElem!_pos (gxs g2) q hq]; exact he)
     go_wp2_with fail
     rw [HQ.out];exact ⟨_, g2, rfl, by rw [<- HVN.out]; exact HSE.out.go, HPE.out.symm, HSE.out.fr, fun k hk => HSE.out.nb k (by rw [HVN.out]; exact hk), hNK.out⟩
end Go.Proofs.YtmagjdocondmhaaGreat.Tr.Gr
namespace Go.Proofs.YtmagjdocondmhaaGreat
open Go
def regC (n : Nat) : Code -> Code
 | .region id ops d => if id = n then .region id ops d else .skip
 | .seq a b => match regC n a with | .skip => regC n b | c => c
 | .cond _ a b => match regC n a with | .skip => regC n b | c => c
 | .block _ b => regC n b
 | .loop b => regC n b
 | .scope b => regC n b
 | .rangeFunc _ _ a b => match regC n a with | .skip => regC n b | c => c
 | _ => .skip
end Go.Proofs.YtmagjdocondmhaaGreat
