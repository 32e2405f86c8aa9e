/-
pgraph.Enter: the table of expecting vertices; plain Lean.
pgraph.Map in plain Lean.
slices.ContainsFunc at levels: is one empty.
ptree.Map where mappings are not allowed.
-/
import Derived.Test.YtmagjdocondmhaaGreatPkSs12
import Derived.Test.YtmagjdocondmhaaGreatPkSs16
import Derived.Test.YtmagjdocondmhaaGreatPkSs15
import Derived.Test.YtmagjdocondmhaaGreatPkSs07
import Derived.Test.YtmagjdocondmhaaGreatPkSs11
import Derived.WalkSpells
namespace Go.Proofs.YtmagjdocondmhaaGreat.Tr.Gr
open Go Go.RowKit Go.Proofs.YtmagjdocondmhaaGreat.Slc Go.Proofs.YtmagjdocondmhaaGreat.St Go.Proofs.YtmagjdocondmhaaGreat.Mp Go.Proofs.YtmagjdocondmhaaGreat.Tr Go.Proofs.YtmagjdocondmhaaGreat.Rg
set_option linter.unusedVariables false
set_option linter.unusedSimpArgs false
attribute [local go_sem] Oper.semAt_some

/-- the map at bm has own slices, apart from each other -/
structure TBI (w : World) (bm : Nat) (f : B → Option Sg) (g : B → List Int) : Prop where
  has_ : ∀ p, (f p).isSome = true ↔ g p ≠ []
  own : ∀ p s, f p = some s → Slc.Own w (bm + 1) 3 1 encI s.val (g p)
  dis : ∀ p p' s s', f p = some s → f p' = some s' → p ≠ p' → ∀ b, s.val.ownBlock = some b → s'.val.ownBlock ≠ some b
theorem TBI.get {w : World} {bm : Nat} {f : B → Option Sg} {g : B → List Int} (h : TBI w bm f g) (p : B) : Slc.Own w (bm + 1) 3 1 encI ((f p).getD nilS).val (g p) := by
  cases hf : f p with
  | some s => exact h.own p s hf
  | none =>
    have : g p = [] := by
      cases hg : g p with
      | nil => rfl
      | cons x l => have := (h.has_ p).2 (by rw [hg]; simp); rw [hf] at this; cases this
    rw [this]; exact Slc.Own.nil _ _
theorem TBI.below {w w' : World} {bm : Nat} {f : B → Option Sg} {g : B → List Int} (h : TBI w bm f g) (hb : Below w.heap.size w w') : TBI w' bm f g :=
  ⟨h.has_, fun p s hp => (h.own p s hp).below hb, h.dis⟩
theorem TBI.step {w w1 w2 : World} {bm : Nat} {f : B → Option Sg} {g : B → List Int} {p : B} {x : Int} {s' : Sg} (h : TBI w bm f g) (hg : w.grownBy w1 ((f p).getD nilS).val.ownBlock) (ho : Slc.Own w1 (bm + 1) 3 1 encI s'.val (g p ++ [x]))
    (hb : s'.val.ownBlock = ((f p).getD nilS).val.ownBlock ∨ ∃ y, s'.val.ownBlock = some y ∧ w.heap.size ≤ y) (hg2 : w1.grownBy w2 (some bm)) : TBI w2 bm (fun j => if j = p then some s' else f j) (fun j => if j = p then g p ++ [x] else g j) := by
  have k2 : ∀ {v : Value} {l : List Int}, Slc.Own w1 (bm + 1) 3 1 encI v l → Slc.Own w2 (bm + 1) 3 1 encI v l := fun {v l} hv => hv.keep fun k hk hlt => hg2.block k hlt fun e => by
    have := (hv.lt k hk).1
    simp only [Option.some.injEq] at e; omega
  have hne : ∀ j s, f j = some s → j ≠ p → ∀ b, s.val.ownBlock = some b → ((f p).getD nilS).val.ownBlock ≠ some b := by
    intro j s hj hjp b hbs
    cases hf : f p with
    | none => simp [nilS, Sg.val, Value.ownBlock]
    | some s0 =>
      exact h.dis j p s s0 hj hf hjp b hbs
  refine ⟨fun j => ?_, fun j s hj => ?_, fun j j' s t hj hj' hne' b hbs => ?_⟩
  · by_cases e : j = p
    · subst e; simp
    · rw [if_neg e, if_neg e]; exact h.has_ j
  · by_cases e : j = p
    · subst e
      rw [if_pos rfl] at hj ⊢
      cases hj
      exact k2 ho
    · rw [if_neg e] at hj ⊢
      refine k2 ((h.own j s hj).keep fun k hk hlt => hg.block k hlt fun e2 => ?_)
      exact hne j s hj e k hk e2.symm
  · by_cases e : j = p
    · subst e
      rw [if_pos rfl] at hj
      cases hj
      rw [if_neg fun q => hne' q.symm] at hj'
      rcases hb with q | ⟨y, q, hy⟩
      · intro e2
        rw [q] at hbs
        exact hne j' t hj' (fun q => hne' q.symm) b e2 hbs
      · intro e2
        rw [q] at hbs
        simp only [Option.some.injEq] at hbs
        have := ((h.own j' t hj').lt b e2).2
        omega
    · rw [if_neg e] at hj
      by_cases e' : j' = p
      · subst e'
        rw [if_pos rfl] at hj'
        cases hj'
        rcases hb with q | ⟨y, q, hy⟩
        · rw [q]; exact hne j s hj e b hbs
        · rw [q]
          intro e2
          simp only [Option.some.injEq] at e2
          have := ((h.own j s hj).lt b hbs).2
          omega
      · rw [if_neg e'] at hj'
        exact h.dis j j' s t hj hj' hne' b hbs

theorem own_sgI {w : World} {Bk : Nat} {v : Value} {l : List Int} (h : Slc.Own w Bk 3 1 encI v l) : ∃ s : Sg, v = s.val := by
  rcases h.2 with ⟨rfl, _⟩ | ⟨g, cap, cur, rfl, _⟩
  · exact ⟨nilS, rfl⟩
  · exact ⟨⟨some (g, 0), _, cap⟩, rfl⟩
/-- the vertices that expect a policy, along the first k -/
def exJ (l : List Vx) (k : Nat) (p : B) : List Int := (List.range k).flatMap fun i => ((l[i]!).ex.filter fun q => decide (q = p)).map fun _ => (i : Int)
def exI (l : List Vx) (p : B) : List Int := exJ l l.length p
/-- and along the first j that the vertex k expects -/
def exQ (l : List Vx) (k j : Nat) (p : B) : List Int := exJ l k p ++ (((l[k]!).ex.take j).filter fun q => decide (q = p)).map fun _ => (k : Int)
theorem exQ_zero (l : List Vx) (k : Nat) : exQ l k 0 = exJ l k := by funext p; simp [exQ]
theorem exQ_all (l : List Vx) (k : Nat) : exQ l k (l[k]!).ex.length = exJ l (k + 1) := by
  funext p
  unfold exQ exJ
  rw [List.take_length, List.range_succ, List.flatMap_append]
  simp
theorem exQ_succ (l : List Vx) (k j : Nat) (e : List B) (he : (l[k]!).ex = e) (hj : j < e.length) (p : B) : exQ l k (j + 1) p = exQ l k j p ++ if decide (e[j] = p) then [(k : Int)] else [] := by
  unfold exQ
  rw [he, List.take_succ_eq_append_getElem hj, List.filter_append, List.map_append, List.append_assoc]
  congr 2
  cases h : decide (e[j] = p) <;> simp [List.filter_cons, h]
theorem exJ_zero (l : List Vx) : exJ l 0 = fun _ => [] := by funext p; simp [exJ]
theorem exJ_range (l : List Vx) (k : Nat) (p : B) : ∀ i ∈ exJ l k p, 0 ≤ i ∧ i < (k : Int) := by
  intro i hi
  obtain ⟨j, hj, hi⟩ := List.mem_flatMap.1 hi
  obtain ⟨-, -, rfl⟩ := List.mem_map.1 hi
  have := List.mem_range.1 hj
  omega
/-- all that the first k vertices expect -/
def allJ (l : List Vx) (k : Nat) : List B := (List.range k).flatMap fun i => (l[i]!).ex
theorem exJ_len (l : List Vx) (k : Nat) (p : B) : (exJ l k p).length ≤ (allJ l k).length := by
  induction k with
  | zero => simp [exJ, allJ]
  | succ k ih =>
    unfold exJ allJ at *
    rw [List.range_succ, List.flatMap_append, List.flatMap_append]
    simp only [List.flatMap_cons, List.flatMap_nil, List.append_nil, List.length_append, List.length_map]
    have := List.length_filter_le (fun q => decide (q = p)) (l[k]!).ex
    omega
theorem exJ_mem (l : List Vx) (k : Nat) (p : B) : exJ l k p ≠ [] ↔ p ∈ allJ l k := by
  unfold exJ allJ
  constructor
  · intro h
    obtain ⟨x, hx⟩ := List.exists_mem_of_ne_nil _ h
    obtain ⟨i, hi, hx⟩ := List.mem_flatMap.1 hx
    obtain ⟨q, hq, -⟩ := List.mem_map.1 hx
    rw [List.mem_filter, decide_eq_true_eq] at hq
    obtain ⟨hq, rfl⟩ := hq
    exact List.mem_flatMap.2 ⟨i, hi, hq⟩
  · intro h e
    obtain ⟨i, hi, hp⟩ := List.mem_flatMap.1 h
    have : (i : Int) ∈ (List.range k).flatMap fun i => ((l[i]!).ex.filter fun q => decide (q = p)).map fun _ => (i : Int) :=
      List.mem_flatMap.2 ⟨i, hi, List.mem_map.2 ⟨p, List.mem_filter.2 ⟨hp, by simp⟩, rfl⟩⟩
    rw [e] at this; cases this
theorem allJ_mono (l : List Vx) {j k : Nat} (h : j ≤ k) : (allJ l j).length ≤ (allJ l k).length := by
  induction k with
  | zero => obtain rfl : j = 0 := by omega
            exact Nat.le_refl _
  | succ k ih =>
    by_cases e : j = k + 1
    · subst e; exact Nat.le_refl _
    · refine Nat.le_trans (ih (by omega)) ?_
      unfold allJ
      rw [List.range_succ, List.flatMap_append]; simp
theorem exQ_len (l : List Vx) (k j : Nat) (p : B) : (exQ l k j p).length ≤ (allJ l k).length + j := by
  unfold exQ
  rw [List.length_append, List.length_map]
  have h1 := exJ_len l k p
  have h2 := List.length_filter_le (fun q => decide (q = p)) ((l[k]!).ex.take j)
  have h3 : ((l[k]!).ex.take j).length ≤ j := by simp; omega
  omega
theorem allJ_succ (l : List Vx) (k : Nat) : (allJ l (k + 1)).length = (allJ l k).length + (l[k]!).ex.length := by
  unfold allJ
  rw [List.range_succ, List.flatMap_append]; simp
/-- the parents of the vertex of a policy in the level that Enter adds -/
def parF (l : List Vx) (ps : List B) (cnt : Bool) (p : B) : List Int :=
  if (cnt && decide (anyP ∈ ps)) && decide (exI l p ≠ []) then exI l p
  else if decide (p ∈ ps) && decide (p ≠ anyP) then (if exI l p ≠ [] then exI l p else if 0 ≤ fndP l anyP then [fndP l anyP] else [])
  else []
/-- the same, along the policies -/
def parG (l : List Vx) (C : Bool) (qs : List B) (p : B) : List Int :=
  if C && decide (exI l p ≠ []) then exI l p
  else if decide (p ∈ qs) && decide (p ≠ anyP) then (if exI l p ≠ [] then exI l p else if 0 ≤ fndP l anyP then [fndP l anyP] else [])
  else []
theorem parG_any (l : List Vx) (C : Bool) (qs : List B) (p : B) (e : p = anyP) : parG l C (qs ++ [p]) = parG l C qs := by
  funext i
  unfold parG
  by_cases q : i = p
  · subst q; simp [e]
  · simp [q]
theorem parG_exp (l : List Vx) (C : Bool) (qs : List B) (p : B) (e : p ≠ anyP) (h : exI l p ≠ []) : parG l C (qs ++ [p]) = fun i => if i = p then exI l p else parG l C qs i := by
  funext i
  unfold parG
  by_cases q : i = p
  · subst q; simp [e, h]
  · simp [q]
theorem parG_star (l : List Vx) (C : Bool) (qs : List B) (p : B) (e : p ≠ anyP) (h : exI l p = []) (hs : 0 ≤ fndP l anyP) : parG l C (qs ++ [p]) = fun i => if i = p then [fndP l anyP] else parG l C qs i := by
  funext i
  unfold parG
  by_cases q : i = p
  · subst q; simp [e, h, hs]
  · simp [q]
theorem parG_no (l : List Vx) (C : Bool) (qs : List B) (p : B) (h : exI l p = []) (hs : ¬ 0 ≤ fndP l anyP) : parG l C (qs ++ [p]) = parG l C qs := by
  funext i
  unfold parG
  by_cases q : i = p
  · subst q; simp [h, hs]
  · simp [q]
theorem parG_nil (l : List Vx) (C : Bool) : parG l C [] = fun p => if C then exI l p else [] := by
  funext p
  unfold parG
  cases C with
  | false => simp
  | true => by_cases h : exI l p = [] <;> simp [h]
theorem parG_all (l : List Vx) (ps : List B) (cnt : Bool) : parF l ps cnt = parG l (cnt && decide (anyP ∈ ps)) ps := rfl
theorem parF_range (l : List Vx) (ps : List B) (cnt : Bool) (p : B) : ∀ i ∈ parF l ps cnt p, 0 ≤ i ∧ i < (l.length : Int) := by
  intro i hi
  unfold parF at hi
  split at hi
  · exact exJ_range l l.length p i hi
  · split at hi
    · split at hi
      · exact exJ_range l l.length p i hi
      · split at hi
        · rename_i h
          rw [List.mem_singleton] at hi
          subst hi
          refine ⟨h, ?_⟩
          obtain ⟨k, hk, hk2, -⟩ := idxG_some (t := l) (f := fun n => decide (n.pol = anyP)) h
          show fndP l anyP < _
          unfold fndP
          rw [hk2]; omega
        · cases hi
    · cases hi
theorem parF_len (l : List Vx) (ps : List B) (cnt : Bool) (p : B) : (parF l ps cnt p).length ≤ (allJ l l.length).length + 1 := by
  have h := exJ_len l l.length p
  unfold parF
  split
  · unfold exI; omega
  · split
    · split
      · unfold exI; omega
      · split <;> simp
    · simp
/-- the policies of that level -/
def keyL (l : List Vx) (ps : List B) (cnt : Bool) : List B := setB ((allJ l l.length ++ ps).filter fun p => decide (parF l ps cnt p ≠ []))
theorem keyL_asc (l : List Vx) (ps : List B) (cnt : Bool) : Asc (keyL l ps cnt) := setB_asc _
theorem keyL_mem (l : List Vx) (ps : List B) (cnt : Bool) (p : B) : p ∈ keyL l ps cnt ↔ parF l ps cnt p ≠ [] := by
  unfold keyL
  rw [setB_mem, List.mem_filter, decide_eq_true_eq, List.mem_append]
  refine ⟨fun h => h.2, fun h => ⟨?_, h⟩⟩
  by_cases e : exI l p = []
  · right
    unfold parF at h
    rw [e] at h
    by_cases q : p ∈ ps
    · exact q
    · simp [q] at h
  · exact .inl ((exJ_mem l l.length p).1 e)
theorem keyL_len (l : List Vx) (ps : List B) (cnt : Bool) : (keyL l ps cnt).length ≤ (allJ l l.length).length + ps.length := by
  unfold keyL
  have h1 := setB_length ((allJ l l.length ++ ps).filter fun p => decide (parF l ps cnt p ≠ []))
  have h2 := List.length_filter_le (fun p => decide (parF l ps cnt p ≠ [])) (allJ l l.length ++ ps)
  rw [List.length_append] at h2
  omega
theorem keyL_from {l : List Vx} {ps : List B} {cnt : Bool} {p : B} (h : p ∈ keyL l ps cnt) : p ∈ allJ l l.length ∨ p ∈ ps := by
  unfold keyL at h
  rw [setB_mem, List.mem_filter, List.mem_append] at h
  exact h.1
def levP (l : List Vx) (ps : List B) (cnt : Bool) : List Vx := (keyL l ps cnt).map (lvV (parF l ps cnt))
/-- Enter -/
def genterP (g : List (List Vx)) (ps : List B) (cnt : Bool) : List (List Vx) × Int :=
  if gvalidB g then (if g.length = 0 then ([], 0) else (pruneG (g ++ [levP g[g.length - 1]! ps cnt]), 0)) else ([], 7)
/-- what a call that returns a graph and an error says -/
def GrP (w : World) (R : List (List Vx) × Int) (e : Ending) (w' : World) : Prop := ∃ v' g', e = .returned (.tuple #[v', .int .i64 R.2]) ∧ GO w' w.heap.size v' g' ∧ gxs g' = R.1 ∧ Below w.heap.size w w'

/-- what a valid graph says of each vertex -/
theorem gvalid_at {g : List (List Vx)} (h : gvalidB g = true) (k : Nat) (hk : k + 1 < g.length) : g[k + 1]! ≠ [] ∧ ∀ v ∈ g[k + 1]!, gfitB v g[k]! = true := by
  unfold gvalidB at h
  rw [decide_eq_false (by omega), Bool.false_or, Bool.and_eq_true] at h
  have h2 := List.all_eq_true.1 h.2 k (by rw [List.mem_range]; omega)
  unfold lvlB at h2
  simp only [Bool.and_eq_true, List.all_eq_true, decide_eq_true_eq, List.mem_range] at h2
  refine ⟨fun e => h2.2.1 (by rw [e]; rfl), fun v hv => ?_⟩
  obtain ⟨i, hi, rfl⟩ := List.getElem_of_mem hv
  have := (h2.1 i hi).1
  rwa [getElem!_pos _ i hi] at this
theorem gvalid_top {g : List (List Vx)} (h : gvalidB g = true) (hl : 0 < g.length) : ∃ v, g[0]! = [v] ∧ v.par = [] ∧ onlyB v.ex = true ∧ specV v = true := by
  unfold gvalidB at h
  rw [decide_eq_false (by omega), Bool.false_or, Bool.and_eq_true] at h
  have h1 := h.1
  unfold topB at h1
  simp only [Bool.and_eq_true, decide_eq_true_eq] at h1
  obtain ⟨v, hv⟩ := List.length_eq_one_iff.1 h1.1
  rw [hv] at h1
  refine ⟨v, hv, List.length_eq_zero_iff.1 h1.2.2.2, h1.2.2.1, h1.2.1⟩
theorem gfit_par {v : Vx} {ab : List Vx} (h : gfitB v ab = true) : 0 < v.ex.length ∧ 0 < v.par.length ∧ ∀ p ∈ v.par, 0 ≤ p ∧ p < (ab.length : Int) := by
  unfold gfitB at h
  rw [Bool.and_eq_true] at h
  have h1 := h.1
  unfold badV at h1
  simp only [Bool.not_or, Bool.not_not, Bool.and_eq_true, Bool.not_eq_true', decide_eq_false_iff_not] at h1
  obtain ⟨h1, h2, h3, h4⟩ := h1
  refine ⟨?_, ascI_pos h2, par_in h2 h3 h4⟩
  unfold ascB at h1
  cases e : v.ex with
  | nil => rw [e] at h1; simp at h1
  | cons a b => simp
/-- a graph that came in and is valid can be read -/
theorem GQ.gl {w : World} {v : Value} {g : List Lv} (h : GQ w v g) (hv : gvalidB (gxs g) = true) (hln : ∀ L ∈ g, L.vs.length ≤ 100000) : GL w v g := by
  refine ⟨h.rd, fun L hL => ?_⟩
  obtain ⟨k, hk, rfl⟩ := List.getElem_of_mem hL
  have hq := h.lv _ (List.getElem_mem hk)
  have hxl : ∀ x ∈ (g[k]).vs, x.n ∈ (gxs g)[k]! := fun x hx => by rw [gxs_at g k hk]; exact List.mem_map.2 ⟨x, hx, rfl⟩
  have key : (gxs g)[k]! ≠ [] ∧ ∀ n ∈ (gxs g)[k]!, 0 < n.ex.length ∧ ∀ p ∈ n.par, -1000000 ≤ p ∧ p ≤ 1000000 := by
    cases k with
    | zero =>
      obtain ⟨t, ht, hp, ho, -⟩ := gvalid_top hv (by rw [gxs_len]; exact hk)
      rw [ht]
      refine ⟨by simp, fun n hn => ?_⟩
      rw [List.mem_singleton] at hn
      subst hn
      refine ⟨?_, fun p hp' => by rw [hp] at hp'; cases hp'⟩
      cases e : n.ex with
      | nil => rw [e] at ho; simp [onlyB] at ho
      | cons a b => simp
    | succ k =>
      obtain ⟨h1, h2⟩ := gvalid_at hv k (by rw [gxs_len]; exact hk)
      refine ⟨h1, fun n hn => ?_⟩
      obtain ⟨a1, -, a3⟩ := gfit_par (h2 n hn)
      refine ⟨a1, fun p hp => ?_⟩
      have := a3 p hp
      rw [gxs_at g k (by omega), vxs_len] at this
      have := hln _ (List.getElem_mem (show k < g.length by omega))
      omega
  have hpos : 0 < (g[k]).vs.length := by
    have := key.1
    rw [gxs_at g k hk] at this
    cases e : (g[k]).vs with
    | nil => rw [e] at this; exact absurd rfl this
    | cons a b => simp
  refine ⟨hq.rd.rd hpos, fun x hx => ?_⟩
  obtain ⟨a1, a2, a3⟩ := hq.at_ x hx
  obtain ⟨b1, b2⟩ := key.2 _ (hxl x hx)
  refine ⟨?_, a2.all, a3.1, a3.2.1, a3.2.2, b2⟩
  rcases a1 with ⟨e, -⟩ | a1
  · rw [e] at b1; simp at b1
  · exact ⟨a1, a1.lt⟩
/-- one more level -/
theorem GO.snoc {w w' : World} {B : Nat} {v v' : Value} {g : List Lv} {a b : Nat} {xs news : List Value} (h : GO w B v g) (L : Lv) (hL : Slc.Own w B 65 3 encV L.s.val L.vs)
    (hb : ∀ k, L.s.val.ownBlock = some k → ¬ GB v g k) (ho : ∀ L0 ∈ g, ∀ x ∈ L0.vs, VtIn w (fun k => L.s.val.ownBlock ≠ some k) x) (hx : ∀ x ∈ L.vs, VtIn w (fun k => ¬ GB v g k ∧ L.s.val.ownBlock ≠ some k) x)
    (hxs : xs = g.flatMap encL) (hy : news = [L].flatMap encL) (ha : a = g.length) (hbb : b = 1) (h' : Apd w B 63 1 v a b xs news v' w') : GO w' B v' (g ++ [L]) ∧ ∀ k, GB v' (g ++ [L]) k → GB v g k ∨ L.s.val.ownBlock = some k ∨ w.heap.size ≤ k := by
  have hown := h.own.apd (m := [L]) hxs hy ha hbb h'
  have hgr := h'.grown
  have hblk := h'.blk
  have hv' : ∀ k, v'.ownBlock = some k → v.ownBlock = some k ∨ k = w.heap.size := fun k hk => by
    rcases hblk with q | q
    · exact .inl (q ▸ hk)
    · rw [q] at hk; simp only [Option.some.injEq] at hk; exact .inr hk.symm
  have hkeep : ∀ k, k < w.heap.size → v.ownBlock ≠ some k → w'.heap[k]? = w.heap[k]? := fun k hk hn => hgr.block k hk fun e => hn e.symm
  have hlv : ∀ L0 ∈ g, ∀ k, L0.s.val.ownBlock = some k → k < w.heap.size := fun L0 h0 k hk => ((h.lv L0 h0).lt k hk).2
  have hll : ∀ k, L.s.val.ownBlock = some k → k < w.heap.size := fun k hk => (hL.lt k hk).2
  have hgb : ∀ k, GB v' (g ++ [L]) k → GB v g k ∨ L.s.val.ownBlock = some k ∨ k = w.heap.size := fun k hk => by
    rcases hk with hk | ⟨L0, h0, hk⟩
    · rcases hv' k hk with q | q
      · exact .inl (.inl q)
      · exact .inr (.inr q)
    · rcases List.mem_append.1 h0 with q | q
      · exact .inl (.inr ⟨L0, q, hk⟩)
      · rw [List.mem_singleton] at q; subst q; exact .inr (.inl hk)
  have step : ∀ x, VtIn w (fun k => ¬ GB v g k ∧ L.s.val.ownBlock ≠ some k) x → VtIn w' (fun k => ¬ GB v' (g ++ [L]) k) x := fun x hxx =>
    ((hxx.and hxx.at_).keep hgr.size fun k hk hkl => hkeep k hkl fun e => hk.1.1 (.inl e)).mono fun k _ hk hn => by
      rcases hgb k hn with q | q | q
      · exact hk.1.1 q
      · exact hk.1.2 q
      · have := hk.2; omega
  refine ⟨⟨hown, fun L0 h0 => ?_, ?_, ?_, ?_⟩, fun k hk => ?_⟩
  · rcases List.mem_append.1 h0 with q | q
    · exact (h.lv L0 q).keep fun k hk hkl => hkeep k hkl (h.ao L0 q k hk)
    · rw [List.mem_singleton] at q; subst q
      exact hL.keep fun k hk hkl => hkeep k hkl fun e => hb k hk (.inl e)
  · intro i j hi hj hij k hk
    rw [List.length_append, List.length_singleton] at hi hj
    rw [List.getElem_append] at hk ⊢
    by_cases e1 : i < g.length
    · rw [dif_pos e1] at hk
      by_cases e2 : j < g.length
      · rw [dif_pos e2]; exact h.ap i j e1 e2 hij k hk
      · rw [dif_neg e2]
        intro q
        simp only [List.getElem_singleton] at q
        exact hb k q (.inr ⟨_, List.getElem_mem e1, hk⟩)
    · rw [dif_neg e1] at hk
      simp only [List.getElem_singleton] at hk
      rw [dif_pos (show j < g.length by omega)]
      exact fun q => hb k hk (.inr ⟨_, List.getElem_mem _, q⟩)
  · intro L0 h0 k hk e
    rcases hv' k e with q | q
    · rcases List.mem_append.1 h0 with r | r
      · exact h.ao L0 r k hk q
      · rw [List.mem_singleton] at r; subst r; exact hb k hk (.inl q)
    · rcases List.mem_append.1 h0 with r | r
      · have := hlv L0 r k hk; omega
      · rw [List.mem_singleton] at r; subst r; have := hll k hk; omega
  · intro L0 h0 x hxm
    rcases List.mem_append.1 h0 with q | q
    · exact step x ((h.nm L0 q x hxm).and (ho L0 q x hxm))
    · rw [List.mem_singleton] at q; subst q; exact step x (hx x hxm)
  · rcases hgb k hk with q | q | q
    · exact .inl q
    · exact .inr (.inl q)
    · exact .inr (.inr (by omega))
/-- parents of a valid graph -/
theorem gvalid_pg {g : List (List Vx)} (h : gvalidB g = true) (hl : ∀ l ∈ g, l.length ≤ 100000) : PG g :=
  ⟨fun k hk v hv p hp => (gfit_par ((gvalid_at h k hk).2 v hv)).2.2 p hp, hl⟩
theorem PG.snoc {g : List (List Vx)} (h : PG g) (l : List Vx) (hg : 0 < g.length) (hl : l.length ≤ 100000) (hp : ∀ v ∈ l, ∀ p ∈ v.par, 0 ≤ p ∧ p < ((g[g.length - 1]!).length : Int)) : PG (g ++ [l]) := by
  constructor
  · intro k hk v hv p hpp
    rw [List.length_append, List.length_singleton] at hk
    by_cases e : k + 1 < g.length
    · rw [getElem!_pos _ (k + 1) (by simp; omega), List.getElem_append_left e] at hv
      rw [getElem!_pos _ k (by simp; omega), List.getElem_append_left (by omega)]
      have := h.par k e v (by rw [getElem!_pos g (k + 1) e]; exact hv) p hpp
      rwa [getElem!_pos g k (by omega)] at this
    · have e' : k + 1 = g.length := by omega
      rw [getElem!_pos _ (k + 1) (by simp; omega), List.getElem_append_right (by omega)] at hv
      simp only [List.getElem_singleton] at hv
      rw [getElem!_pos _ k (by simp; omega), List.getElem_append_left (by omega)]
      have := hp v hv p hpp
      rw [show g.length - 1 = k by omega, getElem!_pos g k (by omega)] at this
      exact this
  · intro m hm
    rcases List.mem_append.1 hm with q | q
    · exact h.len m q
    · rw [List.mem_singleton] at q; subst q; exact hl
theorem enter_pg {g : List (List Vx)} (h : gvalidB g = true) (hg : 0 < g.length) (hl : ∀ l ∈ g, l.length ≤ 100000) (ps : List B) (cnt : Bool) (hk : (keyL g[g.length - 1]! ps cnt).length ≤ 100000) : PG (g ++ [levP g[g.length - 1]! ps cnt]) := by
  refine (gvalid_pg h hl).snoc _ hg (by unfold levP; rw [List.length_map]; exact hk) fun v hv p hp => ?_
  unfold levP at hv
  obtain ⟨q, -, rfl⟩ := List.mem_map.1 hv
  exact parF_range _ _ _ _ p hp
end Go.Proofs.YtmagjdocondmhaaGreat.Tr.Gr
namespace Go.Proofs.YtmagjdocondmhaaGreat.Tr.Gr
open Go Go.RowKit Go.Proofs.YtmagjdocondmhaaGreat.Slc Go.Proofs.YtmagjdocondmhaaGreat.St Go.Proofs.YtmagjdocondmhaaGreat.Mp Go.Proofs.YtmagjdocondmhaaGreat.Tr Go.Proofs.YtmagjdocondmhaaGreat.Rg
set_option linter.unusedVariables false
set_option linter.unusedSimpArgs false

/-- one mapped policy in the last level -/
def mapS (ms : List (B × B)) (star above : Int) (l : List Vx) (p : B) : List Vx :=
  if 0 ≤ fndP l p then l.set (fndP l p).toNat ⟨(l[(fndP l p).toNat]!).pol, subL ms p, (l[(fndP l p).toNat]!).par⟩
  else if 0 ≤ star then insV l ⟨p, subL ms p, [above]⟩ else l
def mapL (ms : List (B × B)) (star above : Int) (l : List Vx) (ks : List B) : List Vx := ks.foldl (mapS ms star above) l
theorem mapL_snoc (ms : List (B × B)) (star above : Int) (l : List Vx) (ks : List B) (p : B) : mapL ms star above l (ks ++ [p]) = mapS ms star above (mapL ms star above l ks) p := by
  unfold mapL; rw [List.foldl_append]; rfl
/-- the last level behind Map -/
def gmapL (g : List (List Vx)) (ms : List (B × B)) (ok : Bool) : List Vx :=
  if ok then mapL ms (fndP g[g.length - 1]! anyP) (fndP g[g.length - 2]! anyP) g[g.length - 1]! (srcL ms) else (g[g.length - 1]!).filter fun v => !decide (v.pol ∈ srcL ms)
def gmapP (g : List (List Vx)) (ms : List (B × B)) (ok : Bool) : List (List Vx) × Int :=
  if gvalidB g && !decide (g.length = 1) then (if g.length = 0 then ([], 0) else (pruneG (g.set (g.length - 1) (gmapL g ms ok)), 0)) else ([], 7)
theorem fndP_some {l : List Vx} {p : B} (h : 0 ≤ fndP l p) : ∃ k, k < l.length ∧ fndP l p = (k : Int) ∧ (l[k]!).pol = p ∧ ∀ j, j < k → (l[j]!).pol ≠ p := by
  obtain ⟨k, h1, h2, h3, h4⟩ := idxG_some h
  exact ⟨k, h1, h2, of_decide_eq_true h3, fun j hj => of_decide_eq_false (h4 j hj)⟩
theorem fndP_none {l : List Vx} {p : B} (h : fndP l p < 0) : ∀ j, j < l.length → (l[j]!).pol ≠ p := fun j hj => of_decide_eq_false (idxG_neg h j hj)
theorem fndP_has {l : List Vx} {p : B} {v : Vx} (hv : v ∈ l) (hp : v.pol = p) : 0 ≤ fndP l p := by
  rcases Int.lt_or_le (fndP l p) 0 with h | h
  · obtain ⟨i, hi, rfl⟩ := List.getElem_of_mem hv
    have := fndP_none h i hi
    rw [getElem!_pos l i hi] at this
    exact absurd hp this
  · exact h
theorem fndP_lt {l : List Vx} {p : B} (h : 0 ≤ fndP l p) : fndP l p < (l.length : Int) := by
  obtain ⟨k, h1, h2, -⟩ := fndP_some h
  omega
/-- a special vertex of a valid graph lies below one -/
theorem gvalid_star {g : List (List Vx)} (h : gvalidB g = true) {k : Nat} (hk : k + 1 < g.length) (hs : 0 ≤ fndP g[k + 1]! anyP) : 0 ≤ fndP g[k]! anyP := by
  obtain ⟨j, hj, -, hp, -⟩ := fndP_some hs
  have h1 := (gvalid_at h k hk).2 _ (show (g[k + 1]!)[j]! ∈ g[k + 1]! by rw [getElem!_pos _ j hj]; exact List.getElem_mem hj)
  have h2 := (gfit_par h1).2
  unfold gfitB at h1
  rw [Bool.and_eq_true] at h1
  have h3 := h1.2
  have hsp : specV (g[k + 1]!)[j]! = true := by unfold specV; exact decide_eq_true hp
  rw [if_pos hsp] at h3
  simp only [Bool.and_eq_true, decide_eq_true_eq] at h3
  obtain ⟨v, hv⟩ := List.length_eq_one_iff.1 h3.1
  rw [hv] at h3 h2
  have h4 := h2.2 v (by simp)
  have h5 : specV (g[k]!)[v.toNat]! = true := h3.2.1
  rw [getElem!_pos (g[k]!) v.toNat (by omega)] at h5
  exact fndP_has (List.getElem_mem (by omega)) (of_decide_eq_true h5)
theorem insV_mem {l : List Vx} {x v : Vx} (h : v ∈ insV l x) : v ∈ l ∨ v = x := by
  unfold insV at h
  rcases List.mem_append.1 h with q | q
  · exact .inl (List.mem_of_mem_take q)
  · rcases List.mem_cons.1 q with q | q
    · exact .inr q
    · exact .inl (List.mem_of_mem_drop q)
theorem mapS_par {ms : List (B × B)} {star above : Int} {l : List Vx} {p : B} {v : Vx} (h : v ∈ mapS ms star above l p) : (∃ u ∈ l, v.par = u.par) ∨ (0 ≤ star ∧ v.par = [above]) := by
  unfold mapS at h
  split at h
  · rename_i h0
    obtain ⟨k, hk, he, -⟩ := fndP_some h0
    rcases List.mem_or_eq_of_mem_set h with q | rfl
    · exact .inl ⟨v, q, rfl⟩
    · left
      refine ⟨l[k]!, ?_, ?_⟩
      · rw [getElem!_pos l k hk]; exact List.getElem_mem hk
      · rw [he, Int.toNat_natCast]
  · split at h
    · rename_i h1
      rcases insV_mem h with q | rfl
      · exact .inl ⟨v, q, rfl⟩
      · exact .inr ⟨h1, rfl⟩
    · exact .inl ⟨v, h, rfl⟩
theorem mapL_par {ms : List (B × B)} {star above : Int} : ∀ {ks : List B} {l : List Vx} {v : Vx}, v ∈ mapL ms star above l ks → (∃ u ∈ l, v.par = u.par) ∨ (0 ≤ star ∧ v.par = [above])
  | [], l, v, h => .inl ⟨v, h, rfl⟩
  | p :: ks, l, v, h => by
    rcases mapL_par (ks := ks) (l := mapS ms star above l p) h with ⟨u, hu, e⟩ | q
    · rcases mapS_par hu with ⟨u', hu', e'⟩ | ⟨q1, q2⟩
      · exact .inl ⟨u', hu', e.trans e'⟩
      · exact .inr ⟨q1, e.trans q2⟩
    · exact .inr q
theorem mapS_len (ms : List (B × B)) (star above : Int) (l : List Vx) (p : B) : (mapS ms star above l p).length ≤ l.length + 1 := by
  unfold mapS
  split
  · rw [List.length_set]; omega
  · split
    · rw [insV_len]; omega
    · omega
theorem mapL_len (ms : List (B × B)) (star above : Int) : ∀ (ks : List B) (l : List Vx), (mapL ms star above l ks).length ≤ l.length + ks.length
  | [], l => by simp [mapL]
  | p :: ks, l => by
    have h1 := mapL_len ms star above ks (mapS ms star above l p)
    have h2 := mapS_len ms star above l p
    have e : mapL ms star above l (p :: ks) = mapL ms star above (mapS ms star above l p) ks := rfl
    rw [e, List.length_cons]; omega
theorem PG.setLast {g : List (List Vx)} (h : PG g) {k : Nat} (hk : k + 2 = g.length) {l : List Vx} (hl : l.length ≤ 100000) (hp : ∀ v ∈ l, ∀ p ∈ v.par, 0 ≤ p ∧ p < ((g[k]!).length : Int)) : PG (g.set (k + 1) l) := by
  constructor
  · intro j hj v hv p hpp
    rw [List.length_set] at hj
    have e1 : (g.set (k + 1) l)[j]! = g[j]! := by
      rw [getElem!_pos _ j (by simp; omega), getElem!_pos g j (by omega), List.getElem_set, if_neg (by omega)]
    rw [e1]
    by_cases e : j + 1 = k + 1
    · have e2 : (g.set (k + 1) l)[j + 1]! = l := by
        rw [getElem!_pos _ (j + 1) (by simp; omega), List.getElem_set, if_pos (by omega)]
      rw [e2] at hv
      have e3 : j = k := by omega
      subst e3
      exact hp v hv p hpp
    · have e2 : (g.set (k + 1) l)[j + 1]! = g[j + 1]! := by
        rw [getElem!_pos _ (j + 1) (by simp; omega), getElem!_pos g (j + 1) (by omega), List.getElem_set, if_neg (by omega)]
      rw [e2] at hv
      exact h.par j hj v hv p hpp
  · intro m hm
    rcases List.mem_or_eq_of_mem_set hm with q | rfl
    · exact h.len m q
    · exact hl
theorem srcL_len (ms : List (B × B)) : (srcL ms).length ≤ ms.length := by
  unfold srcL
  have h1 := setB_length ((ms.filter okM).map (·.1))
  have h2 := List.length_filter_le okM ms
  rw [List.length_map] at h1
  omega
theorem map_pg {g : List (List Vx)} (h : gvalidB g = true) (hg : 2 ≤ g.length) (hl : ∀ l ∈ g, l.length ≤ 50000) (ms : List (B × B)) (hm : ms.length ≤ 50000) (ok : Bool) : PG (g.set (g.length - 1) (gmapL g ms ok)) := by
  obtain ⟨k, hk⟩ : ∃ k, k + 2 = g.length := ⟨g.length - 2, by omega⟩
  have e1 : g.length - 1 = k + 1 := by omega
  have e2 : g.length - 2 = k := by omega
  have hpg := gvalid_pg h fun l hl' => by have := hl l hl'; omega
  have hll : (g[k + 1]!).length ≤ 50000 := hl _ (by rw [getElem!_pos g (k + 1) (by omega)]; exact List.getElem_mem _)
  rw [e1]
  unfold gmapL
  rw [e1, e2]
  refine hpg.setLast hk ?_ ?_
  · split
    · have h1 := mapL_len ms (fndP g[k + 1]! anyP) (fndP g[k]! anyP) (srcL ms) g[k + 1]!
      have h2 := srcL_len ms
      omega
    · have := List.length_filter_le (fun v : Vx => !decide (v.pol ∈ srcL ms)) g[k + 1]!
      omega
  · intro v hv p hp
    split at hv
    · rcases mapL_par hv with ⟨u, hu, e⟩ | ⟨q1, q2⟩
      · rw [e] at hp; exact hpg.par k (by omega) u hu p hp
      · rw [q2, List.mem_singleton] at hp
        subst hp
        have h3 := gvalid_star h (by omega) q1
        exact ⟨h3, fndP_lt h3⟩
    · exact hpg.par k (by omega) v (List.mem_filter.1 hv).1 p hp
end Go.Proofs.YtmagjdocondmhaaGreat.Tr.Gr
namespace Go.Proofs.YtmagjdocondmhaaGreat.Tr.Gr
open Go Go.RowKit Go.Proofs.YtmagjdocondmhaaGreat.Slc Go.Proofs.YtmagjdocondmhaaGreat.St Go.Proofs.YtmagjdocondmhaaGreat.Mp Go.Proofs.YtmagjdocondmhaaGreat.Tr
set_option linter.unusedVariables false
set_option linter.unusedSimpArgs false
attribute [local go_sem] Oper.semAt_some

theorem emptyF_any (w : World) (a : Option Addr) (n c : Nat) (hn : n ≤ 100000) :
    Calls Tryz.prog 98 #[.agg #[.slice a n c]] w fun e w' => e = .returned (.bool (decide (n = 0))) ∧ Below w.heap.size w w' := by
  have HB := Bx.mk ((Below.refl w.heap.size w).alloc (Nat.le_refl _) (.cells #[.slice a n c] 63))
  obtain ⟨q, hq⟩ : ∃ q, q = decide (n = 0) := ⟨_, rfl⟩
  have t1 : ((n : Int) == 0) = q := by rw [hq, Bool.eq_iff_iff]; simp
  have t2 : ((n : Int) = 0) = (q = true) := by rw [hq]; simp
  rw [← hq]
  clear hq
  go_enter Tryz.func98, Tryz.ntmps98
  go_wp2_with fail
  go_ret
  exact ⟨by first | rfl | simp [t1, t2], HB.out⟩
set_option maxRecDepth 100000 in
set_option maxHeartbeats 2000000 in
theorem idxL_any (w : World) (v : Value) (g : List Lv) (h : GQ w v g) (hn : g.length ≤ 100000) (hln : ∀ L ∈ g, L.vs.length ≤ 100000) :
    Calls Tryz.prog 119 #[v, .func (.func 98) #[] #[]] w fun e w' => (∃ r : Int, e = .returned (.int .i64 r) ∧ (0 ≤ r ↔ (g.any fun L => decide (L.vs.length = 0)) = true)) ∧ Below w.heap.size w w' := by
  obtain ⟨ad, c, rfl, -⟩ := h.rd.form
  have HC := Bx.mk h.at1
  have HLV := Bx.mk h.lv
  have HLN := Bx.mk hln
  obtain ⟨N, hN⟩ : ∃ N, N = g.length := ⟨_, rfl⟩
  have HN := Bx.mk hN
  rw [← hN] at hn ⊢
  clear h hln hN
  have eg : ∀ args W, (callFunc 98 args).run Tryz.prog W = .ok (.enter 98 args) W := enters_of Tryz.func98 (by kernel_rfl) rfl
  go_enter Tryz.func119, Tryz.ntmps119
  go_wp2_with fail
  go_loopw [8] (fun i wr => ∃ k : Nat, k ≤ N ∧ i = .int .i64 k ∧ Bx ((g.take k).any (fun L => decide (L.vs.length = 0)) = false) ∧ Bx (Below w.heap.size w wr)) (fun i _ => N - (intOf i).toNat)
  case atStart => exact ⟨0, by omega, rfl, ⟨rfl⟩, ⟨Below.refl _ _⟩⟩
  case round =>
    obtain ⟨k, hk, rfl, hF, hBw⟩ := hrel
    by_cases hlt : k < N
    · have hkl : k < g.length := by rw [← HN.out]; exact hlt
      obtain ⟨b, o, rfl, hbl, c0⟩ := HC.out wr hBw.out k hkl
      have hlv := HLV.out _ (List.getElem_mem hkl)
      have hll := HLN.out _ (List.getElem_mem hkl)
      have HTK := Bx.mk (List.take_succ_eq_append_getElem hkl)
      have HME := Bx.mk (List.getElem_mem hkl)
      obtain ⟨L, hL⟩ : ∃ L, L = g[k] := ⟨_, rfl⟩
      rw [← hL] at c0 hlv hll HTK HME
      obtain ⟨la, lc, hs, -⟩ := hlv.rd.form
      rw [hs] at c0
      have hcf := emptyF_any wr la L.vs.length lc hll
      obtain ⟨r, hr⟩ : ∃ r, r = decide (L.vs.length = 0) := ⟨_, rfl⟩
      rw [← hr] at hcf
      have HRX := Bx.mk hr
      obtain ⟨LN, hLN⟩ : ∃ LN, LN = L.vs.length := ⟨_, rfl⟩
      have HLL := Bx.mk hLN
      rw [← hLN] at c0 hcf hll
      clear hL hbl hr hs hlv hLN
      go_wp2_with fail
      go_at_call 98
      refine hcf.mono ?_
      rintro e w2 ⟨rfl, hb2⟩
      have HB2 := Bx.mk (hBw.out.trans (hb2.mono hBw.out.size))
      clear hcf hb2 c0
      cases r with
      | true =>
        have HF2 := Bx.mk (show (g.any fun L => decide (L.vs.length = 0)) = true by
          rw [List.any_eq_true]
          exact ⟨L, HME.out, HRX.out.symm⟩)
        clear hkl
        go_wp2_with fail
        go_ret
        exact ⟨⟨_, rfl, by rw [HF2.out]; simp⟩, HB2.out⟩
      | false =>
        have HN2 := Bx.mk (show (g.take (k + 1)).any (fun L => decide (L.vs.length = 0)) = false by
          rw [HTK.out, List.any_append, hF.out, Bool.false_or]
          simp only [List.any_cons, List.any_nil, Bool.or_false]
          exact HRX.out.symm)
        clear hkl
        go_wp2_with fail
        go_roundw
        case rel => exact ⟨k + 1, by omega, by go_num, HN2, HB2⟩
        case measure => simp [intOf]; omega
    · obtain rfl : N = k := by omega
      have HF2 := Bx.mk (show (g.any fun L => decide (L.vs.length = 0)) = false by have := hF.out; rw [HN.out, List.take_length] at this; exact this)
      go_wp2_with fail
      go_ret
      exact ⟨⟨_, rfl, by rw [HF2.out]; simp⟩, hBw.out⟩
theorem someL_any (w : World) (v : Value) (g : List Lv) (h : GQ w v g) (hn : g.length ≤ 100000) (hln : ∀ L ∈ g, L.vs.length ≤ 100000) :
    Calls Tryz.prog 97 #[v, .func (.func 98) #[] #[]] w fun e w' => e = .returned (.bool (g.any fun L => decide (L.vs.length = 0))) ∧ Below w.heap.size w w' := by
  have HI := Bx.mk (idxL_any w v g h hn hln)
  obtain ⟨ad, c, rfl, -⟩ := h.rd.form
  obtain ⟨R, hR⟩ : ∃ R, R = g.any fun L => decide (L.vs.length = 0) := ⟨_, rfl⟩
  rw [← hR] at HI ⊢
  clear h hR
  go_enter Tryz.func97, Tryz.ntmps97
  go_wp2_with fail
  go_at_call 119
  refine HI.out.mono ?_
  rintro e w' ⟨⟨r, rfl, hr⟩, hb⟩
  have HR := Bx.mk hr
  have HB := Bx.mk hb
  clear hr hb
  go_wp2_with fail
  go_ret
  exact ⟨by simp [HR.out], HB.out⟩
end Go.Proofs.YtmagjdocondmhaaGreat.Tr.Gr
namespace Go.Proofs.YtmagjdocondmhaaGreat.Tr
open Go Go.RowKit Go.Proofs.YtmagjdocondmhaaGreat.Slc Go.Proofs.YtmagjdocondmhaaGreat.St Go.Proofs.YtmagjdocondmhaaGreat.Mp
set_option linter.unusedVariables false
set_option linter.unusedSimpArgs false
attribute [local go_sem] Oper.semAt_some

theorem marks_step {L : List Bool} {N k : Nat} (hL : L.length = N) (hk : k < N) : (L.take k ++ List.replicate (N - k) false).set k L[k]! = L.take (k + 1) ++ List.replicate (N - (k + 1)) false := by
  have hlt : (L.take k).length = k := by rw [List.length_take]; omega
  rw [List.set_append_right _ _ (by omega), hlt, Nat.sub_self, List.take_succ_eq_append_getElem (by omega), getElem!_pos L k (by omega), List.append_assoc]
  congr 1
  obtain ⟨j, hj⟩ : ∃ j, N - k = j + 1 := ⟨N - k - 1, by omega⟩
  rw [hj, show N - (k + 1) = j by omega, List.replicate_succ, List.set_cons_zero]; rfl
theorem TabP.below {w w' : World} {l : List (B × B)} {bm : Nat} {f : B → Option Sg} (h : TabP w l bm f) (hb : Below w.heap.size w w') : TabP w' l bm f :=
  ⟨h.has_, fun p s hp => RdIn.below (h.rd p s hp) hb, by obtain ⟨q, h1, h2⟩ := h.mp; exact ⟨q, h1, h2.below hb⟩⟩
theorem TabP.look {w : World} {l : List (B × B)} {bm : Nat} {f : B → Option Sg} (h : TabP w l bm f) (p : B) (hp : p.length ≤ 1000000) :
    ∃ va n vc, ((f p).getD nilS).val = .slice va n vc ∧ (Instr.lookup 86 (.map (some bm)) (.string (bstr p)) true).run Tryz.prog w = .ok (.tuple #[.slice va n vc, .bool (decide (p ∈ srcL l))]) w ∧
      (Instr.lookup 86 (.map (some bm)) (.string (bstr p)) false).run Tryz.prog w = .ok (.slice va n vc) w := by
  obtain ⟨q, _, ho⟩ := h.mp
  have h1 := ho.lookS u_mapSS Sg.val nilS (Tryz.zeroValue34 _) rdS_mk rdS_inv (k := p) (by unfold maxLen; omega)
  rw [h.has_] at h1
  exact ⟨_, _, _, rfl, h1.2, h1.1⟩
end Go.Proofs.YtmagjdocondmhaaGreat.Tr

namespace Go.Proofs.YtmagjdocondmhaaGreat.Tr
open Go Go.RowKit Go.Proofs.YtmagjdocondmhaaGreat.Slc Go.Proofs.YtmagjdocondmhaaGreat.St Go.Proofs.YtmagjdocondmhaaGreat.Mp
set_option linter.unusedVariables false
set_option linter.unusedSimpArgs false
attribute [local go_sem] Oper.semAt_some

end Go.Proofs.YtmagjdocondmhaaGreat.Tr
