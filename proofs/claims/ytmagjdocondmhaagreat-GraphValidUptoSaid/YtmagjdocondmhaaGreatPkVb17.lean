/- packed -/
import Derived.Test.YtmagjdocondmhaaGreatPkVb13
import Derived.Test.YtmagjdocondmhaaGreatPkVb03
import Derived.Test.YtmagjdocondmhaaGreatPkVb16
import Derived.Test.YtmagjdocondmhaaGreatPkVb08
import Derived.Test.YtmagjdocondmhaaGreatPkVb02
set_option linter.unusedVariables false
set_option linter.unusedSimpArgs false
namespace Go.Proofs.YtmagjdocondmhaaGreat.Tr.Gr
open Go Go.RowKit Go.Proofs.YtmagjdocondmhaaGreat.Slc Go.Proofs.YtmagjdocondmhaaGreat.St Go.Proofs.YtmagjdocondmhaaGreat.Mp Go.Proofs.YtmagjdocondmhaaGreat.Tr Go.Proofs.YtmagjdocondmhaaGreat.Rg
structure LQ (l : List Vx) : Prop where
 ord : OrdP l
 ex : ∀ v ∈ l, ascB v.ex = true
 ns : ∀ v ∈ l, specV v = false → anyP ∉ v.ex
theorem valid_lq {g : List (List Vx)} (h : gvalidB g = true) {k : Nat} (hk : k < g.length) : LQ g[k]! := by
 have hp := valid_pv h
 cases k with
 | zero =>
  obtain ⟨v, hv, -, ho, hs⟩ := gvalid_top h hk
  rw [hv]
  refine ⟨List.pairwise_singleton _ _, fun u hu => ?_, fun u hu hs' => ?_⟩
  ·rw [List.mem_singleton] at hu; subst hu
   have : u.ex = [anyP] := of_decide_eq_true ho
   rw [this]; rfl
  ·rw [List.mem_singleton] at hu; subst hu; rw [hs] at hs'; cases hs'
 | succ k => exact ⟨hp.ord (k + 1), fun v hv => (hp.fit k hk v hv).ex, fun v hv => (hp.fit k hk v hv).ns⟩
theorem exJ_succ (l : List Vx) (k : Nat) (p : B) : exJ l (k + 1) p = exJ l k p ++ ((l[k]!).ex.filter fun q => decide (q = p)).map fun _ => (k : Int) := by
 unfold exJ
 rw [List.range_succ, List.flatMap_append]; simp
theorem filt_one {l : List B} (h : l.Pairwise (· < ·)) (p : B) : (l.filter fun q => decide (q = p)) = if p ∈ l then [p] else [] := by
 induction l with
 | nil => simp
 | cons x l ih =>
  rw [List.pairwise_cons] at h
  rw [List.filter_cons, ih h.2]
  by_cases e : x = p
  ·subst e
   have : x ∉ l := fun hm => ltB_irr _ (h.1 x hm)
   simp [this]
  ·have e' : ¬ p = x := fun q => e q.symm
   simp [e, e']
theorem ascB_pw {l : List B} (h : ascB l = true) : l.Pairwise (· < ·) := (ascB_iff.1 h).1
theorem exJ_one {l : List Vx} (h : LQ l) {k : Nat} (hk : k < l.length) (p : B) : exJ l (k + 1) p = exJ l k p ++ if p ∈ (l[k]!).ex then [(k : Int)] else [] := by
 rw [exJ_succ, filt_one (ascB_pw (h.ex _ (by rw [getElem!_pos l k hk]; exact List.getElem_mem hk)))]
 split <;> simp
theorem exJ_asc {l : List Vx} (h : LQ l) (p : B) : ∀ k, k ≤ l.length → (exJ l k p).Pairwise (· < ·)
 | 0, _ => by rw [exJ_zero]; exact List.Pairwise.nil
 | k + 1, hk => by
  rw [exJ_one h (by omega)]
  refine List.pairwise_append.2 ⟨exJ_asc h p k (by omega), ?_, fun a ha b hb => ?_⟩
  ·split
   ·exact List.pairwise_singleton _ _
   ·exact List.Pairwise.nil
  ·have := exJ_range l k p a ha
   split at hb
   ·rw [List.mem_singleton] at hb; omega
   ·cases hb
theorem exJ_has {l : List Vx} {k : Nat} {p : B} {i : Int} (h : i ∈ exJ l k p) : ∃ j, j < k ∧ i = (j : Int) ∧ p ∈ (l[j]!).ex := by
 unfold exJ at h
 obtain ⟨j, hj, h⟩ := List.mem_flatMap.1 h
 obtain ⟨q, hq, rfl⟩ := List.mem_map.1 h
 obtain ⟨h1, h2⟩ := List.mem_filter.1 hq
 rw [decide_eq_true_eq] at h2
 subst h2
 exact ⟨j, List.mem_range.1 hj, rfl, h1⟩
theorem parF_asc {l : List Vx} (h : LQ l) (ps : List B) (cnt : Bool) (p : B) : (parF l ps cnt p).Pairwise (· < ·) := by
 have h1 : (exI l p).Pairwise (· < ·) := exJ_asc h p l.length (Nat.le_refl _)
 unfold parF
 split
 ·exact h1
 ·split
  ·split
   ·exact h1
   ·split
    ·exact List.pairwise_singleton _ _
    ·exact List.Pairwise.nil
  ·exact List.Pairwise.nil
theorem ord_one {l : List Vx} (h : OrdP l) {i j : Nat} (hi : i < l.length) (hj : j < l.length) (he : (l[i]!).pol = (l[j]!).pol) : i = j := by
 rw [getElem!_pos l i hi, getElem!_pos l j hj] at he
 have h2 := List.pairwise_iff_getElem.1 h
 rcases Nat.lt_trichotomy i j with q | q | q
 ·have := h2 i j hi hj q
  rw [he] at this; exact absurd this (ltB_irr _)
 ·exact q
 ·have := h2 j i hj hi q
  rw [he] at this; exact absurd this (ltB_irr _)
theorem asc_same {l : List Int} (h : l.Pairwise (· < ·)) (hs : ∀ x ∈ l, ∀ y ∈ l, x = y) : l.length ≤ 1 := by
 match l, h with
 | [], _ => simp
 | [x], _ => simp
 | x :: y :: r, h =>
  rw [List.pairwise_cons] at h
  have h1 := h.1 y (by simp)
  have h2 := hs x (by simp) y (by simp)
  omega
theorem levP_ord (l : List Vx) (ps : List B) (cnt : Bool) : OrdP (levP l ps cnt) := by
 unfold levP OrdP
 rw [List.pairwise_map]
 exact keyL_asc l ps cnt
theorem levP_fit {l : List Vx} (h : LQ l) (ps : List B) (cnt : Bool) : ∀ v ∈ levP l ps cnt, FitP v l := by
 intro v hv
 unfold levP at hv
 obtain ⟨p, hp, rfl⟩ := List.mem_map.1 hv
 refine ⟨rfl, parF_asc h ps cnt p, parF_range l ps cnt p, fun hs => ?_, fun hs => ?_⟩
 ·have e : p = anyP := of_decide_eq_true hs
  subst e
  have hpar : ∀ i ∈ parF l ps cnt anyP, ∃ j, j < l.length ∧ i = (j : Int) ∧ specV l[j]! = true := fun i hi => by
   have : i ∈ exI l anyP := by
    unfold parF at hi
    split at hi
    ·exact hi
    ·simp at hi
   obtain ⟨j, h1, h2, h3⟩ := exJ_has this
   refine ⟨j, h1, h2, ?_⟩
   cases hsp : specV l[j]! with
   | true => rfl
   | false => exact absurd h3 (h.ns _ (by rw [getElem!_pos l j h1]; exact List.getElem_mem h1) hsp)
  refine ⟨asc_same (parF_asc h ps cnt anyP) fun x hx y hy => ?_, fun i hi => ?_, rfl⟩
  ·obtain ⟨a, a1, rfl, a3⟩ := hpar x hx
   obtain ⟨b, b1, rfl, b3⟩ := hpar y hy
   have e1 : (l[a]!).pol = anyP := of_decide_eq_true a3
   have e2 : (l[b]!).pol = anyP := of_decide_eq_true b3
   rw [ord_one h.ord a1 b1 (by rw [e1, e2])]
  ·obtain ⟨j, -, rfl, h3⟩ := hpar i hi
   rw [Int.toNat_natCast]; exact h3
 ·simp only [lvV, List.mem_singleton]
  intro e
  have : specV (lvV (parF l ps cnt) p) = true := decide_eq_true e.symm
  rw [hs] at this; cases this
theorem PV.snoc {g : List (List Vx)} (h : PV g) (hg : 0 < g.length) {l : List Vx} (ho : OrdP l) (hf : ∀ v ∈ l, FitP v g[g.length - 1]!) : PV (g ++ [l]) := by
 have hat : ∀ j, j < g.length → (g ++ [l])[j]! = g[j]! := fun j hj => by
  rw [getElem!_pos _ j (by simp; omega), List.getElem_append_left hj, getElem!_pos g j hj]
 have hla : (g ++ [l])[g.length]! = l := by
  rw [getElem!_pos _ g.length (by simp), List.getElem_append_right (Nat.le_refl _)]; simp
 refine ⟨by rw [hat 0 hg]; exact h.top, fun k => ?_, fun k hk v hv => ?_⟩
 ·rcases Nat.lt_trichotomy k g.length with q | q | q
  ·rw [hat k q]; exact h.ord k
  ·rw [q, hla]; exact ho
  ·rw [getElem!_neg _ k (by simp; omega)]; exact List.Pairwise.nil
 ·rw [List.length_append, List.length_singleton] at hk
  by_cases e : k + 1 < g.length
  ·rw [hat (k + 1) e] at hv
   rw [hat k (by omega)]
   exact h.fit k e v hv
  ·have e' : k + 1 = g.length := by omega
   rw [e', hla] at hv
   rw [hat k (by omega), show k = g.length - 1 by omega]
   exact hf v hv
theorem enter_valid {g : List (List Vx)} (h : gvalidB g = true) (ps : List B) (cnt : Bool) : gvalidB (genterP g ps cnt).1 = true := by
 unfold genterP
 rw [h]
 simp only [if_true]
 split
 ·rfl
 ·rename_i h0
  exact prune_valid ((valid_pv h).snoc (by omega) (levP_ord _ _ _) (levP_fit (valid_lq h (by omega)) ps cnt))
theorem PV.setLast {g : List (List Vx)} (h : PV g) {k : Nat} (hk : k + 2 = g.length) {l : List Vx} (ho : OrdP l) (hf : ∀ v ∈ l, FitP v g[k]!) : PV (g.set (k + 1) l) := by
 have hat : ∀ (j : Nat), j ≠ k + 1 → (g.set (k + 1) l)[j]! = g[j]! := fun j hj => by
  by_cases h1 : j < g.length
  ·rw [getElem!_pos _ j (by simpa using h1), List.getElem_set, if_neg (fun e => hj e.symm), getElem!_pos g j h1]
  ·rw [getElem!_neg _ j (by simpa using h1), getElem!_neg g j h1]
 have hla := set_at_self (g := g) (k := k + 1) (by omega) l
 refine ⟨by rw [hat 0 (by omega)]; exact h.top, fun j => ?_, fun j hj v hv => ?_⟩
 ·by_cases e : j = k + 1
  ·rw [e, hla]; exact ho
  ·rw [hat j e]; exact h.ord j
 ·rw [List.length_set] at hj
  by_cases e : j + 1 = k + 1
  ·rw [e, hla] at hv
   rw [hat j (by omega), show j = k by omega]
   exact hf v hv
  ·rw [hat (j + 1) e] at hv
   rw [hat j (by omega)]
   exact h.fit j hj v hv
theorem tw_mem {p : Vx → Bool} : ∀ {l : List Vx} {v : Vx}, v ∈ l.takeWhile p → p v = true
 | [], v, h => by cases h
 | x :: l, v, h => by
  rw [List.takeWhile_cons] at h
  split at h
  ·rename_i hx
   rcases List.mem_cons.1 h with rfl | h
   ·exact hx
   ·exact tw_mem h
  ·cases h
theorem tw_take (p : Vx → Bool) (l : List Vx) : l.take (l.takeWhile p).length = l.takeWhile p := by
 have h3 := List.takeWhile_append_dropWhile (p := p) (l := l)
 conv => lhs; arg 2; rw [← h3]
 exact List.take_left' rfl
theorem insV_ord {l : List Vx} (h : OrdP l) {x : Vx} (hx : ∀ v ∈ l, v.pol ≠ x.pol) : OrdP (insV l x) := by
 unfold insV
 have e1 : l.take (plc l x.pol) = l.takeWhile fun v => decide (v.pol < x.pol) := by
  unfold plc
  exact tw_take _ _
 have hlt : ∀ v ∈ l.take (plc l x.pol), v.pol < x.pol := fun v hv => by
  rw [e1] at hv
  exact of_decide_eq_true (tw_mem hv)
 have hp : (l.take (plc l x.pol) ++ l.drop (plc l x.pol)).Pairwise fun a b => a.pol < b.pol := by rw [List.take_append_drop]; exact h
 obtain ⟨a1, a2, a3⟩ := List.pairwise_append.1 hp
 have hge : ∀ v ∈ l.drop (plc l x.pol), x.pol < v.pol := by
  intro v hv
  have hd : ∀ y r, l.drop (plc l x.pol) = y :: r → ¬ y.pol < x.pol := by
   intro y r hyr hlt'
   have h2 : l.dropWhile (fun v => decide (v.pol < x.pol)) = y :: r := by
    rw [← hyr]
    unfold plc
    have h3 := List.takeWhile_append_dropWhile (p := fun v : Vx => decide (v.pol < x.pol)) (l := l)
    conv => rhs; rw [← h3]
    rw [List.drop_left' (by rw [h3])]
   have h4 := List.head_dropWhile_not (p := fun v : Vx => decide (v.pol < x.pol)) (l := l) (by rw [h2]; simp)
   simp only [h2, List.head_cons] at h4
   rw [decide_eq_true hlt'] at h4
   cases h4
  cases hr : l.drop (plc l x.pol) with
  | nil => rw [hr] at hv; cases hv
  | cons y r =>
   have h1 := hd y r hr
   have hy : y ∈ l := List.mem_of_mem_drop (by rw [hr]; simp)
   have h2 : x.pol < y.pol := ltB_or h1 (hx y hy)
   rw [hr] at hv a2
   rcases List.mem_cons.1 hv with rfl | hv
   ·exact h2
   ·exact ltB_tr h2 ((List.pairwise_cons.1 a2).1 v hv)
 refine List.pairwise_append.2 ⟨a1, List.pairwise_cons.2 ⟨hge, a2⟩, fun a ha b hb => ?_⟩
 rcases List.mem_cons.1 hb with rfl | hb
 ·exact hlt a ha
 ·exact a3 a ha b hb
theorem OrdP.set {l : List Vx} (h : OrdP l) (i : Nat) {x : Vx} (hx : i < l.length → x.pol = (l[i]!).pol) : OrdP (l.set i x) := by
 refine List.pairwise_iff_getElem.2 fun a b ha hb hab => ?_
 have ha' : a < l.length := by simpa using ha
 have hb' : b < l.length := by simpa using hb
 have h2 := List.pairwise_iff_getElem.1 h a b ha' hb' hab
 have hat : ∀ (j : Nat) (hj : j < l.length), ((l.set i x)[j]'(by simpa using hj)).pol = (l[j]).pol := fun j hj => by
  rw [List.getElem_set]
  split
  ·rename_i e
   subst e
   rw [hx hj, getElem!_pos l i hj]
  ·rfl
 rw [hat a ha', hat b hb']; exact h2
theorem mapS_ord {ms : List (B × B)} {star above : Int} {l : List Vx} (h : OrdP l) (p : B) : OrdP (mapS ms star above l p) := by
 unfold mapS
 split
 ·rename_i h0
  obtain ⟨k, hk, he, -⟩ := fndP_some h0
  rw [he, Int.toNat_natCast]
  exact h.set k fun _ => rfl
 ·rename_i h0
  split
  ·refine insV_ord h fun v hv e => ?_
   exact h0 (fndP_has hv e)
  ·exact h
theorem mapS_fit {ms : List (B × B)} {star above : Int} {ab l : List Vx} {p : B} (hp : p ∈ srcL ms) (hab : 0 ≤ star → 0 ≤ above ∧ above < (ab.length : Int)) (h : ∀ v ∈ l, FitP v ab) : ∀ v ∈ mapS ms star above l p, FitP v ab := by
 have hpa : p ≠ anyP := fun e => srcL_any ms (e ▸ hp)
 intro v hv
 unfold mapS at hv
 split at hv
 ·rename_i h0
  obtain ⟨k, hk, he, hpk, -⟩ := fndP_some h0
  rw [he, Int.toNat_natCast] at hv
  rcases List.mem_or_eq_of_mem_set hv with q | rfl
  ·exact h v q
  ·have hf := h l[k]! (by rw [getElem!_pos l k hk]; exact List.getElem_mem hk)
   refine ⟨subL_asc hp, hf.asc, hf.rg, fun hs => ?_, fun _ => subL_any ms p⟩
   have : (l[k]!).pol = anyP := of_decide_eq_true hs
   rw [hpk] at this
   exact absurd this hpa
 ·split at hv
  ·rename_i h1
   rcases insV_mem hv with q | rfl
   ·exact h v q
   ·refine ⟨subL_asc hp, List.pairwise_singleton _ _, fun q hq => ?_, fun hs => ?_, fun _ => subL_any ms p⟩
    ·rw [List.mem_singleton] at hq; subst hq; exact hab h1
    ·exact absurd (of_decide_eq_true hs) hpa
  ·exact h v hv
theorem mapL_good {ms : List (B × B)} {star above : Int} {ab : List Vx} (hab : 0 ≤ star → 0 ≤ above ∧ above < (ab.length : Int)) : ∀ (ks : List B) (l : List Vx), (∀ p ∈ ks, p ∈ srcL ms) → OrdP l → (∀ v ∈ l, FitP v ab) → OrdP (mapL ms star above l ks) ∧ ∀ v ∈ mapL ms star above l ks, FitP v ab
 | [], l, _, ho, hf => ⟨ho, hf⟩
 | p :: ks, l, hk, ho, hf => mapL_good hab ks (mapS ms star above l p) (fun q hq => hk q (List.mem_cons_of_mem _ hq)) (mapS_ord ho p) (mapS_fit (hk p (by simp)) hab hf)
theorem gmapL_pv {g : List (List Vx)} (h : gvalidB g = true) (hg : 2 ≤ g.length) (ms : List (B × B)) (ok : Bool) : PV (g.set (g.length - 1) (gmapL g ms ok)) := by
 obtain ⟨k, hk⟩ : ∃ k, k + 2 = g.length := ⟨g.length - 2, by omega⟩
 have e1 : g.length - 1 = k + 1 := by omega
 have e2 : g.length - 2 = k := by omega
 have hp := valid_pv h
 rw [e1]
 unfold gmapL
 rw [e1, e2]
 cases ok with
 | true =>
  simp only [if_true]
  have h1 := mapL_good (ms := ms) (star := fndP g[k + 1]! anyP) (above := fndP g[k]! anyP) (ab := g[k]!) (fun hs => by
   have h3 := gvalid_star h (by omega) hs
   exact ⟨h3, fndP_lt h3⟩) (srcL ms) g[k + 1]! (fun p hp => hp) (hp.ord (k + 1)) (hp.fit k (by omega))
  exact hp.setLast hk h1.1 h1.2
 | false =>
  simp only [Bool.false_eq_true, if_false]
  exact hp.setLast hk ((hp.ord (k + 1)).filter _) fun v hv => hp.fit k (by omega) v (List.mem_filter.1 hv).1
theorem map_valid {g : List (List Vx)} (h : gvalidB g = true) (ms : List (B × B)) (ok : Bool) : gvalidB (gmapP g ms ok).1 = true := by
 unfold gmapP
 split
 ·rename_i h1
  rw [h, Bool.true_and, Bool.not_eq_true', decide_eq_false_iff_not] at h1
  split
  ·rfl
  ·exact prune_valid (gmapL_pv h (by omega) ms ok)
 ·rfl
def SubL (l l' : List Vx) : Prop := l.length ≤ l'.length ∧ ∀ v ∈ l, ∃ u ∈ l', v.pol = u.pol ∧ v.ex = u.ex
theorem SubL.refl (l : List Vx) : SubL l l := ⟨Nat.le_refl _, fun v hv => ⟨v, hv, rfl, rfl⟩⟩
theorem SubL.trans {a b c : List Vx} (h : SubL a b) (h' : SubL b c) : SubL a c := ⟨Nat.le_trans h.1 h'.1, fun v hv => by
 obtain ⟨u, hu, e1, e2⟩ := h.2 v hv
 obtain ⟨z, hz, e3, e4⟩ := h'.2 u hu
 exact ⟨z, hz, e1.trans e3, e2.trans e4⟩⟩
theorem filtG_sub {g : List (List Vx)} {k : Nat} (hk : k < g.length) (m : List Bool) (j : Nat) : SubL (filtG g k m)[j]! g[j]! := by
 rw [filtG_at hk j]
 split
 ·rename_i e
  subst e
  exact ⟨keepT_le _ _, fun v hv => ⟨v, keepT_mem (Nat.le_refl _) hv, rfl, rfl⟩⟩
 ·split
  ·refine ⟨by rw [List.length_map]; exact Nat.le_refl _, fun v hv => ?_⟩
   obtain ⟨u, hu, rfl⟩ := List.mem_map.1 hv
   exact ⟨u, hu, rfl, rfl⟩
  ·exact SubL.refl _
theorem fwdG_sub (g : List (List Vx)) (j : Nat) : ∀ n, n < g.length ∨ n = 0 → SubL (fwdG g n)[j]! g[j]!
 | 0, _ => SubL.refl _
 | n + 1, hn => by
  rw [fwdG]
  exact (filtG_sub (by rw [fwdG_len]; omega) _ j).trans (fwdG_sub g j n (by omega))
theorem bwdG_sub (g : List (List Vx)) (j : Nat) : ∀ n, n < g.length ∨ n = 0 → SubL (bwdG g n)[j]! g[j]!
 | 0, _ => SubL.refl _
 | n + 1, hn => by
  rw [bwdG]
  exact (filtG_sub (by rw [bwdG_len]; omega) _ j).trans (bwdG_sub g j n (by omega))
theorem pruneG_sub (g : List (List Vx)) : pruneG g = [] ∨ ((pruneG g).length = g.length ∧ ∀ (j : Nat), SubL (pruneG g)[j]! g[j]!) := by
 rcases Nat.eq_zero_or_pos g.length with h0 | hl
 ·have : g = [] := List.length_eq_zero_iff.1 h0
  subst this
  exact .inl rfl
 unfold pruneG
 simp only
 split
 ·exact .inl rfl
 ·right
  refine ⟨by rw [bwdG_len, fwdG_len], fun j => ?_⟩
  exact (bwdG_sub _ j _ (by rw [fwdG_len]; omega)).trans (fwdG_sub g j _ (by omega))
theorem nodup_le : ∀ (l m : List B), l.Nodup → (∀ x ∈ l, x ∈ m) → l.length ≤ m.length
 | [], m, _, _ => by simp
 | x :: l, m, hn, hs => by
  rw [List.nodup_cons] at hn
  have hx := hs x (by simp)
  have h1 := nodup_le l (m.erase x) hn.2 fun y hy => (List.mem_erase_of_ne (show y ≠ x from fun e => by subst e; exact hn.1 hy)).2 (hs y (List.mem_cons_of_mem _ hy))
  rw [List.length_erase_of_mem hx] at h1
  have := List.length_pos_of_mem hx
  rw [List.length_cons]; omega
theorem subL_le (l : List (B × B)) (x : B) : (subL l x).length ≤ l.length := by
 unfold subL
 have h1 := setB_length ((l.filter fun m => decide (m.1 = x) && okM m).map (·.2))
 have h2 := List.length_filter_le (fun m => decide (m.1 = x) && okM m) l
 rw [List.length_map] at h1
 omega
attribute [local go_sem] Oper.semAt_some
def expK (l : List Vx) (p : B) (k : Nat) : List Int := ((List.range k).filter fun i => decide (p ∈ (l[i]!).ex)).map fun (i : Nat) => (i : Int)
def expL (l : List Vx) (p : B) : List Int := expK l p l.length
theorem expK_succ (l : List Vx) (p : B) (k : Nat) : expK l p (k + 1) = expK l p k ++ (if p ∈ (l[k]!).ex then [(k : Int)] else []) := by
 unfold expK
 rw [List.range_succ, List.filter_append, List.map_append]
 congr 1
 by_cases h : p ∈ (l[k]!).ex
 ·rw [if_pos h, show List.filter (fun i => decide (p ∈ (l[i]!).ex)) [k] = [k] from by unfold List.filter; rw [decide_eq_true h]; rfl]; rfl
 ·rw [if_neg h, show List.filter (fun i => decide (p ∈ (l[i]!).ex)) [k] = [] from by unfold List.filter; rw [decide_eq_false h]; rfl]; rfl
theorem expK_len (l : List Vx) (p : B) (k : Nat) : (expK l p k).length ≤ k := by
 unfold expK
 rw [List.length_map]
 exact Nat.le_trans (List.length_filter_le _ _) (by simp)
theorem src_int' (w : World) (y : Int) : SrcV (w.alloc (.cells #[.int .i64 y] 3)) 1 (.slice (some ⟨w.heap.size, 0, none⟩) 1 1) 1 ([y].flatMap encI) := src_new encI_ok (heap_alloc_new _ _)
set_option maxRecDepth 100000 in
set_option maxHeartbeats 4000000 in
theorem rexp_any (w : World) (v : Value) (l : List Vt) (h : VQ w v l) (hn : l.length ≤ 100000) (p : B) :
  Calls Tryz.prog 55 #[v, .string (bstr p)] w fun e w' => ∃ v', e = .returned v' ∧ Slc.Own w' w.heap.size 3 1 encI v' (expL (vxs l) p) ∧ Below w.heap.size w w' := by
 obtain ⟨i0, hi0, hz0, hz1, hz2⟩ := info_parts info_int
 obtain ⟨ad, c, rfl, -⟩ := h.rd.form
 have HC := Bx.mk h.at3
 have HAT := Bx.mk h.at_
 obtain ⟨N, hN⟩ : ∃ N, N = l.length := ⟨_, rfl⟩
 have HN := Bx.mk hN
 rw [← hN] at hn ⊢
 clear h hN
 go_enter Tryz.func55, Tryz.ntmps55
 go_wp2_with fail
 go_loopw [5, 6] (fun ov i wr => ∃ (k : Nat) (out : List Int), k ≤ N ∧ i = .int .i64 k ∧ out.length ≤ k ∧ Bx (out = expK (vxs l) p k) ∧ Bx (Slc.Own wr w.heap.size 3 1 encI ov out) ∧ Bx (Below w.heap.size w wr)) (fun _ i _ => N - (intOf i).toNat)
 case atStart => exact ⟨0, [], by omega, rfl, by simp, ⟨rfl⟩, ⟨Slc.Own.nil _ _⟩, ⟨Below.refl _ _⟩⟩
 case round =>
  obtain ⟨k, out, hk, rfl, hol, hF, hO, hBw⟩ := hrel
  obtain ⟨oa, oc, rfl, -⟩ := hO.out.rd.form
  by_cases hlt : k < N
  ·have hkl : k < l.length := by rw [← HN.out]; exact hlt
   obtain ⟨b, o, rfl, hbl, -, c1, -⟩ := HC.out wr hBw.out k hkl
   have HX := Bx.mk (show (vxs l)[k]! = (l[k]).n from vxs_at l k hkl)
   have hat := HAT.out _ (List.getElem_mem hkl)
   obtain ⟨x, hx⟩ : ∃ x, x = l[k] := ⟨_, rfl⟩
   rw [← hx] at c1 HX hat
   obtain ⟨ua, uc, hup, -⟩ := hat.1.form
   have hin := in_q wr x.u.val x.n.ex p (hat.1.below hBw.out) (by have := hat.2.2.1.1; omega)
   rw [hup] at c1 hin
   obtain ⟨UN, hUN⟩ : ∃ UN, UN = x.n.ex.length := ⟨_, rfl⟩
   rw [← hUN] at c1 hin
   obtain ⟨r, hr⟩ : ∃ r, r = decide (p ∈ x.n.ex) := ⟨_, rfl⟩
   rw [← hr] at hin
   have HR := Bx.mk hr
   have HS := Bx.mk (expK_succ (vxs l) p k)
   rw [HX.out] at HS
   obtain ⟨ON, hON⟩ : ∃ n, n = out.length := ⟨_, rfl⟩
   have HON := Bx.mk hON
   rw [← hON] at hol ⊢
   clear hx hbl hat hup hr hUN hON hkl
   go_wp2_with fail
   go_at_call 47
   refine hin.mono ?_
   rintro e w2 ⟨rfl, rfl⟩
   clear hin c1
   cases r with
   | true =>
    have hp : p ∈ x.n.ex := by have := HR.out; simpa using this.symm
    have HF2 := Bx.mk (show out ++ [(k : Int)] = expK (vxs l) p (k + 1) by rw [HS.out, if_pos hp, ← hF.out])
    have hw2 : Below wr.heap.size wr (wr.alloc (.cells #[.int .i64 (k : Int)] 3)) := (Below.refl _ _).alloc (Nat.le_refl _) _
    have HO2 := Bx.mk (hO.out.below hw2)
    have HB2 := Bx.mk (hBw.out.trans (hw2.mono hBw.out.size))
    have HSRC := Bx.mk (src_int' wr (k : Int))
    have hm1 : ON + 1 ≤ maxLen := by unfold maxLen; omega
    have hm2 : (ON + 1) * 8 ≤ 140737488355328 := by omega
    have hbz : w.heap.size ≤ (wr.alloc (.cells #[.int .i64 (k : Int)] 3)).heap.size := HB2.out.size
    have HOA := Bx.mk (show World.ownsRow (wr.alloc (.cells #[.int .i64 (k : Int)] 3)) w.heap.size 3 1 (.slice oa ON oc) ON (out.flatMap encI) by
     have := HO2.out
     unfold Slc.Own at this
     rw [← HON.out] at this; exact this)
    clear hp hw2
    go_wp2_with (at_builtin; refine wpList_append_any rfl _ _ _ rfl w.heap.size 3 i0 _ 1 8 und_ints hi0 hz0 hz1 hz2 rfl (by decide) _ ON (out.flatMap encI) rfl HOA.out _ 1 ([(k : Int)].flatMap encI) rfl HSRC.out hm1 hm2 hbz ?_)
    intro v9 w9 hapd
    have HO9 := Bx.mk (show Slc.Own w9 w.heap.size 3 1 encI v9 (out ++ [(k : Int)]) from by
     have h2 := HO2.out
     rw [← HON.out] at h2
     exact h2.apd (m := [(k : Int)]) rfl rfl HON.out rfl hapd)
    have HB9 := Bx.mk (HB2.out.grown hapd.grown HB2.out.size fun j hj => (HO2.out.lt j (by rw [← HON.out]; exact hj)).1)
    have HL9 := Bx.mk (show (out ++ [(k : Int)]).length ≤ k + 1 by rw [List.length_append, ← HON.out]; simp; omega)
    clear hapd hm1 hm2 hbz
    go_wp2_with fail
    go_roundw
    case rel => exact ⟨k + 1, _, by omega, by go_num, HL9.out, HF2, HO9, HB9⟩
    case measure => simp [intOf]; omega
   | false =>
    have hp : ¬ p ∈ x.n.ex := by have := HR.out; simpa using this.symm
    have HF2 := Bx.mk (show out = expK (vxs l) p (k + 1) by rw [HS.out, if_neg hp, ← hF.out, List.append_nil])
    have HO2 := Bx.mk (show Slc.Own wr w.heap.size 3 1 encI (.slice oa ON oc) out by rw [HON.out]; exact hO.out)
    have HL2 := Bx.mk (show out.length ≤ k + 1 by rw [← HON.out]; omega)
    clear hp
    go_wp2_with fail
    go_roundw
    case rel => exact ⟨k + 1, out, by omega, by go_num, HL2.out, HF2, HO2, hBw⟩
    case measure => simp [intOf]; omega
  ·obtain rfl : N = k := by omega
   go_wp2_with fail
   go_ret
   exact ⟨_, rfl, by
    have := hO.out
    have e : expL (vxs l) p = out := by unfold expL; rw [vxs_len, ← HN.out, hF.out]
    rw [e]; exact this, hBw.out⟩
end Go.Proofs.YtmagjdocondmhaaGreat.Tr.Gr
namespace Go.Proofs.YtmagjdocondmhaaGreat.Tr.Gr
open Go Go.RowKit Go.Proofs.YtmagjdocondmhaaGreat.Slc Go.Proofs.YtmagjdocondmhaaGreat.St Go.Proofs.YtmagjdocondmhaaGreat.Mp Go.Proofs.YtmagjdocondmhaaGreat.Tr Go.Proofs.YtmagjdocondmhaaGreat.Rg
theorem expK_exJ {l : List Vx} (h : LQ l) (p : B) : ∀ k, k ≤ l.length → expK l p k = exJ l k p
 | 0, _ => by rw [exJ_zero]; simp [expK]
 | k + 1, hk => by rw [expK_succ, exJ_one h (by omega), expK_exJ h p k (by omega)]
theorem expL_exI {l : List Vx} (h : LQ l) (p : B) : expL l p = exI l p := expK_exJ h p l.length (Nat.le_refl _)
theorem ord_same {a b : List Vx} (ha : OrdP a) (hb : OrdP b) (h : ∀ v, v ∈ a ↔ v ∈ b) : a = b := by
 have irr : ∀ v : Vx, ¬ v.pol < v.pol := fun v => List.lt_irrefl _
 have asy : ∀ u v : Vx, u.pol < v.pol → v.pol < u.pol → False := fun u v h1 h2 => List.lt_irrefl _ (List.lt_trans h1 h2)
 induction a generalizing b with
 | nil =>
  cases b with
  | nil => rfl
  | cons y b => exact absurd ((h y).2 List.mem_cons_self) (by simp)
 | cons x a ih =>
  cases b with
  | nil => exact absurd ((h x).1 List.mem_cons_self) (by simp)
  | cons y b =>
   have hx := List.pairwise_cons.1 ha
   have hy := List.pairwise_cons.1 hb
   have e : x = y := by
    rcases List.mem_cons.1 ((h x).1 List.mem_cons_self) with q | q
    ·exact q
    ·rcases List.mem_cons.1 ((h y).2 List.mem_cons_self) with r | r
     ·exact r.symm
     ·exact (asy _ _ (hx.1 y r) (hy.1 x q)).elim
   subst e
   congr 1
   refine ih hx.2 hy.2 fun v => ⟨fun hv => ?_, fun hv => ?_⟩
   ·rcases List.mem_cons.1 ((h v).1 (List.mem_cons_of_mem _ hv)) with q | q
    ·subst q; exact absurd (hx.1 v hv) (irr v)
    ·exact q
   ·rcases List.mem_cons.1 ((h v).2 (List.mem_cons_of_mem _ hv)) with q | q
    ·subst q; exact absurd (hy.1 v hv) (irr v)
    ·exact q
theorem insV_iff {l : List Vx} {x v : Vx} : v ∈ insV l x ↔ v ∈ l ∨ v = x := by
 refine ⟨insV_mem, fun h => ?_⟩
 unfold insV
 rw [List.mem_append, List.mem_cons]
 rcases h with h | h
 ·rw [← List.take_append_drop (plc l x.pol) l, List.mem_append] at h
  rcases h with q | q
  ·exact .inl q
  ·exact .inr (.inr q)
 ·exact .inr (.inl h)
def upF (l : List Vx) (p : B) : List Int := if expL l p = [] ∧ 0 ≤ fndP l anyP then [fndP l anyP] else expL l p
def enS (l a : List Vx) (p : B) : List Vx := if p = anyP then a else if upF l p = [] then a else insV a ⟨p, [p], upF l p⟩
def enA (l : List Vx) (ps : List B) : List Vx := ps.foldl (enS l) []
theorem enA_snoc (l : List Vx) (ps : List B) (p : B) : enA l (ps ++ [p]) = enS l (enA l ps) p := by unfold enA; rw [List.foldl_append]; rfl
def enU (l a : List Vx) (p : B) : List Vx := if fndP a p < 0 then insV a ⟨p, [p], expL l p⟩ else a
def enB (l a : List Vx) (ps : List B) : List Vx := ps.foldl (enU l) a
theorem enB_snoc (l a : List Vx) (ps : List B) (p : B) : enB l a (ps ++ [p]) = enU l (enB l a ps) p := by unfold enB; rw [List.foldl_append]; rfl
def renL (l : List Vx) (ps : List B) (cnt : Bool) : List Vx := if cnt && decide (anyP ∈ setB ps) then enB l (enA l (setB ps)) (allJ l l.length) else enA l (setB ps)
theorem asc_snoc {ps : List B} {p : B} (h : Asc (ps ++ [p])) : Asc ps ∧ ∀ q ∈ ps, q < p :=
 ⟨(List.pairwise_append.1 h).1, fun q hq => (List.pairwise_append.1 h).2.2 q hq p (by simp)⟩
theorem enA_good (l : List Vx) : ∀ (n : Nat) (ps : List B), ps.length = n → Asc ps → OrdP (enA l ps) ∧ ∀ v, v ∈ enA l ps ↔ v.pol ∈ ps ∧ v.pol ≠ anyP ∧ upF l v.pol ≠ [] ∧ v = ⟨v.pol, [v.pol], upF l v.pol⟩ := by
 intro n
 induction n with
 | zero =>
  intro ps hn _
  rw [List.length_eq_zero_iff.1 hn]
  refine ⟨List.Pairwise.nil, fun v => ?_⟩
  simp [enA]
 | succ n ih =>
  intro ps hn ha
  obtain ⟨qs, p, rfl⟩ : ∃ qs p, ps = qs ++ [p] := ⟨ps.dropLast, ps.getLast (by intro e; rw [e] at hn; simp at hn), (List.dropLast_concat_getLast _).symm⟩
  rw [List.length_append, List.length_singleton] at hn
  obtain ⟨ha1, ha2⟩ := asc_snoc ha
  obtain ⟨ho, hm⟩ := ih qs (by omega) ha1
  rw [enA_snoc]
  unfold enS
  by_cases e : p = anyP
  ·rw [if_pos e]
   refine ⟨ho, fun v => (hm v).trans ⟨fun h => ⟨List.mem_append_left _ h.1, h.2⟩, fun h => ⟨?_, h.2⟩⟩⟩
   rcases List.mem_append.1 h.1 with q | q
   ·exact q
   ·rw [List.mem_singleton] at q; exact absurd (q.trans e) h.2.1
  ·rw [if_neg e]
   by_cases u : upF l p = []
   ·rw [if_pos u]
    refine ⟨ho, fun v => (hm v).trans ⟨fun h => ⟨List.mem_append_left _ h.1, h.2⟩, fun h => ⟨?_, h.2⟩⟩⟩
    rcases List.mem_append.1 h.1 with q | q
    ·exact q
    ·rw [List.mem_singleton] at q; exact absurd (q ▸ u) h.2.2.1
   ·rw [if_neg u]
    refine ⟨insV_ord ho fun v hv => ?_, fun v => ?_⟩
    ·intro q
     have h1 := ha2 v.pol ((hm v).1 hv).1
     rw [q] at h1
     exact List.lt_irrefl _ h1
    ·rw [insV_iff, hm v, List.mem_append, List.mem_singleton]
     constructor
     ·rintro (h | rfl)
      ·exact ⟨.inl h.1, h.2⟩
      ·exact ⟨.inr rfl, e, u, rfl⟩
     ·rintro ⟨h1 | h1, h2, h3, h4⟩
      ·exact .inl ⟨h1, h2, h3, h4⟩
      ·right; rw [h4, h1]
theorem fndP_neg {a : List Vx} {p : B} (h : fndP a p < 0) : ∀ v ∈ a, v.pol ≠ p := fun v hv e => by
 have := fndP_has hv e; omega
theorem enU_ord {l a : List Vx} (h : OrdP a) (p : B) : OrdP (enU l a p) := by
 unfold enU
 split
 ·rename_i hf; exact insV_ord h fun v hv => fndP_neg hf v hv
 ·exact h
theorem enB_good (l : List Vx) : ∀ (n : Nat) (ps : List B) (a : List Vx), ps.length = n → OrdP a → OrdP (enB l a ps) ∧ ∀ v, v ∈ enB l a ps ↔ v ∈ a ∨ ((∀ u ∈ a, u.pol ≠ v.pol) ∧ v.pol ∈ ps ∧ v = ⟨v.pol, [v.pol], expL l v.pol⟩) := by
 intro n
 induction n with
 | zero =>
  intro ps a hn ho
  rw [List.length_eq_zero_iff.1 hn]
  exact ⟨ho, fun v => by simp [enB]⟩
 | succ n ih =>
  intro ps a hn ho
  obtain ⟨qs, p, rfl⟩ : ∃ qs p, ps = qs ++ [p] := ⟨ps.dropLast, ps.getLast (by intro e; rw [e] at hn; simp at hn), (List.dropLast_concat_getLast _).symm⟩
  rw [List.length_append, List.length_singleton] at hn
  obtain ⟨ho1, hm⟩ := ih qs a (by omega) ho
  rw [enB_snoc]
  refine ⟨enU_ord ho1 p, fun v => ?_⟩
  unfold enU
  by_cases hf : fndP (enB l a qs) p < 0
  ·rw [if_pos hf, insV_iff, hm v, List.mem_append, List.mem_singleton]
   constructor
   ·rintro ((h | ⟨h1, h2, h3⟩) | rfl)
    ·exact .inl h
    ·exact .inr ⟨h1, .inl h2, h3⟩
    ·exact .inr ⟨fun u hu => fndP_neg hf u ((hm u).2 (.inl hu)), .inr rfl, rfl⟩
   ·rintro (h | ⟨h1, h2 | h2, h3⟩)
    ·exact .inl (.inl h)
    ·exact .inl (.inr ⟨h1, h2, h3⟩)
    ·right; rw [h3, h2]
  ·rw [if_neg hf, hm v, List.mem_append, List.mem_singleton]
   constructor
   ·rintro (h | ⟨h1, h2, h3⟩)
    ·exact .inl h
    ·exact .inr ⟨h1, .inl h2, h3⟩
   ·rintro (h | ⟨h1, h2 | h2, h3⟩)
    ·exact .inl h
    ·exact .inr ⟨h1, h2, h3⟩
    ·obtain ⟨k, hk, -, hp, -⟩ := fndP_some (show 0 ≤ fndP (enB l a qs) p by omega)
     have hu : (enB l a qs)[k]! ∈ enB l a qs := by rw [getElem!_pos _ k hk]; exact List.getElem_mem hk
     rcases (hm _).1 hu with q | ⟨q1, q2, q3⟩
     ·exact absurd (hp.trans h2.symm) (h1 _ q)
     ·right
      refine ⟨h1, ?_, h3⟩
      rw [hp] at q2; rw [h2]; exact q2
theorem renL_eq {l : List Vx} (h : LQ l) (ps : List B) (cnt : Bool) : renL l ps cnt = levP l ps cnt := by
 have hA := enA_good l _ (setB ps) rfl (setB_asc ps)
 have hlev : ∀ v, v ∈ levP l ps cnt ↔ parF l ps cnt v.pol ≠ [] ∧ v = ⟨v.pol, [v.pol], parF l ps cnt v.pol⟩ := by
  intro v
  unfold levP
  rw [List.mem_map]
  constructor
  ·rintro ⟨p, hp, rfl⟩
   exact ⟨(keyL_mem _ _ _ _).1 hp, rfl⟩
  ·rintro ⟨h1, h2⟩
   exact ⟨v.pol, (keyL_mem _ _ _ _).2 h1, h2.symm⟩
 have hup : ∀ p, upF l p = if exI l p ≠ [] then exI l p else if 0 ≤ fndP l anyP then [fndP l anyP] else [] := by
  intro p
  unfold upF
  rw [expL_exI h]
  by_cases e : exI l p = []
  ·simp [e]
  ·simp [e]
 unfold renL
 by_cases hc : (cnt && decide (anyP ∈ setB ps)) = true
 ·rw [if_pos hc]
  have hc' : (cnt && decide (anyP ∈ ps)) = true := by rw [← hc]; congr 1; exact decide_eq_decide.2 setB_mem.symm
  have hB := enB_good l _ (allJ l l.length) _ rfl hA.1
  have hpF : ∀ p, parF l ps cnt p = if exI l p ≠ [] then exI l p else if p ∈ ps ∧ p ≠ anyP then upF l p else [] := by
   intro p
   unfold parF
   rw [hc', hup p]
   by_cases e : exI l p = []
   ·simp [e]
   ·simp [e]
  refine ord_same hB.1 (levP_ord l ps cnt) fun v => ?_
  rw [hB.2, hlev, hA.2, hpF]
  constructor
  ·rintro (⟨h1, h2, h3, h4⟩ | ⟨h1, h2, h3⟩)
   ·by_cases e : exI l v.pol = []
    ·rw [if_neg (by simpa using e), if_pos ⟨setB_mem.1 h1, h2⟩]; exact ⟨h3, h4⟩
    ·rw [if_pos e]
     refine ⟨e, ?_⟩
     have := hup v.pol
     rw [if_pos e] at this
     rw [← this]; exact h4
   ·have e := (exJ_mem l l.length v.pol).2 h2
    rw [if_pos (show exI l v.pol ≠ [] from e)]
    refine ⟨e, ?_⟩
    rw [← expL_exI h]; exact h3
  ·intro hv
   by_cases e : exI l v.pol = []
   ·rw [if_neg (by simpa using e)] at hv
    by_cases q : v.pol ∈ ps ∧ v.pol ≠ anyP
    ·rw [if_pos q] at hv
     exact .inl ⟨setB_mem.2 q.1, q.2, hv.1, hv.2⟩
    ·rw [if_neg q] at hv; exact absurd rfl hv.1
   ·rw [if_pos e] at hv
    by_cases q : v.pol ∈ ps ∧ v.pol ≠ anyP
    ·left
     have h1 := hup v.pol
     rw [if_pos e] at h1
     refine ⟨setB_mem.2 q.1, q.2, by rw [h1]; exact e, by rw [h1]; exact hv.2⟩
    ·right
     refine ⟨fun u hu hp => ?_, (exJ_mem l l.length v.pol).1 e, by rw [expL_exI h]; exact hv.2⟩
     have h1 := (hA.2 u).1 hu
     rw [hp] at h1
     exact q ⟨setB_mem.1 h1.1, h1.2.1⟩
 ·rw [if_neg hc]
  have hc' : (cnt && decide (anyP ∈ ps)) = false := by
   rw [Bool.eq_false_iff]
   intro h1
   apply hc
   rw [← h1]; congr 1; exact decide_eq_decide.2 setB_mem
  have hpF : ∀ p, parF l ps cnt p = if p ∈ ps ∧ p ≠ anyP then upF l p else [] := by
   intro p
   unfold parF
   rw [hc', hup p]
   simp
  refine ord_same hA.1 (levP_ord l ps cnt) fun v => ?_
  rw [hlev, hA.2, hpF]
  constructor
  ·rintro ⟨h1, h2, h3, h4⟩
   rw [if_pos ⟨setB_mem.1 h1, h2⟩]; exact ⟨h3, h4⟩
  ·intro hv
   by_cases q : v.pol ∈ ps ∧ v.pol ≠ anyP
   ·rw [if_pos q] at hv
    exact ⟨setB_mem.2 q.1, q.2, hv.1, hv.2⟩
   ·rw [if_neg q] at hv; exact absurd rfl hv.1
theorem fndP_iff {l : List Vx} {p : B} : 0 ≤ fndP l p ↔ ∃ v ∈ l, v.pol = p := by
 constructor
 ·intro h
  obtain ⟨k, hk, -, hp, -⟩ := fndP_some h
  exact ⟨l[k]!, by rw [getElem!_pos l k hk]; exact List.getElem_mem hk, hp⟩
 ·rintro ⟨v, hv, hp⟩
  exact fndP_has hv hp
theorem delL_iff {l : List Vx} (ho : OrdP l) {k : Nat} (hk : k < l.length) {v : Vx} : v ∈ delL l k ↔ v ∈ l ∧ v.pol ≠ (l[k]!).pol := by
 unfold delL
 rw [List.mem_append]
 constructor
 ·rintro (h | h)
  ·obtain ⟨j, hj, rfl⟩ := List.getElem_of_mem h
   rw [List.length_take] at hj
   have hjl : j < l.length := by omega
   rw [List.getElem_take]
   refine ⟨List.getElem_mem _, fun e => ?_⟩
   have := ord_one ho hjl hk (by rw [getElem!_pos l j hjl]; exact e)
   omega
  ·obtain ⟨j, hj, rfl⟩ := List.getElem_of_mem h
   rw [List.length_drop] at hj
   rw [List.getElem_drop]
   refine ⟨List.getElem_mem _, fun e => ?_⟩
   have hjl : k + 1 + j < l.length := by omega
   have := ord_one ho hjl hk (by rw [getElem!_pos l _ hjl]; exact e)
   omega
 ·rintro ⟨h, hne⟩
  obtain ⟨j, hj, rfl⟩ := List.getElem_of_mem h
  have hjk : j ≠ k := fun e => by subst e; rw [getElem!_pos l j hj] at hne; exact hne rfl
  rcases Nat.lt_or_ge j k with q | q
  ·left; exact List.mem_take_iff_getElem.2 ⟨j, by omega, rfl⟩
  ·right
   refine List.mem_drop_iff_getElem.2 ⟨j - (k + 1), by omega, ?_⟩
   congr 1; omega
theorem delL_ord {l : List Vx} (ho : OrdP l) (k : Nat) : OrdP (delL l k) := by
 unfold delL
 refine ho.sublist ?_
 conv => rhs; rw [← List.take_append_drop k l]
 exact List.Sublist.append (List.Sublist.refl _) (by rw [← List.drop_drop]; exact List.drop_sublist _ _)
theorem delL_filt {l : List Vx} (ho : OrdP l) {p : B} (h : 0 ≤ fndP l p) : delL l (fndP l p).toNat = l.filter fun v => !decide (v.pol = p) := by
 obtain ⟨k, hk, he, hp, -⟩ := fndP_some h
 rw [he, Int.toNat_natCast]
 refine ord_same (delL_ord ho k) (ho.filter _) fun v => ?_
 rw [delL_iff ho hk, List.mem_filter, hp]
 simp
theorem filt_no {l : List Vx} {p : B} (h : fndP l p < 0) : (l.filter fun v => !decide (v.pol = p)) = l := by
 rw [List.filter_eq_self]
 intro v hv
 simp [fndP_neg h v hv]
def rmS (ms : List (B × B)) (ok : Bool) (above : Int) (l : List Vx) (p : B) : List Vx :=
 if 0 ≤ fndP l p then (if ok then l.set (fndP l p).toNat ⟨(l[(fndP l p).toNat]!).pol, subL ms p, (l[(fndP l p).toNat]!).par⟩ else delL l (fndP l p).toNat)
 else if ok && decide (0 ≤ fndP l anyP) then insV l ⟨p, subL ms p, [above]⟩ else l
def rmL (ms : List (B × B)) (ok : Bool) (above : Int) (l : List Vx) (ks : List B) : List Vx := ks.foldl (rmS ms ok above) l
theorem rmL_snoc (ms : List (B × B)) (ok : Bool) (above : Int) (l : List Vx) (ks : List B) (p : B) : rmL ms ok above l (ks ++ [p]) = rmS ms ok above (rmL ms ok above l ks) p := by
 unfold rmL; rw [List.foldl_append]; rfl
theorem rmS_ord {ms : List (B × B)} {ok : Bool} {above : Int} {l : List Vx} (h : OrdP l) (p : B) : OrdP (rmS ms ok above l p) := by
 unfold rmS
 split
 ·split
  ·exact h.set _ fun _ => rfl
  ·exact delL_ord h _
 ·rename_i h0
  split
  ·exact insV_ord h fun v hv => fndP_neg (show fndP l p < 0 by omega) v hv
  ·exact h
theorem rmL_ord {ms : List (B × B)} {ok : Bool} {above : Int} : ∀ (ks : List B) {l : List Vx}, OrdP l → OrdP (rmL ms ok above l ks)
 | [], _, h => h
 | p :: ks, _, h => rmL_ord ks (rmS_ord h p)
theorem set_pols {l : List Vx} {k : Nat} (hk : k < l.length) {x : Vx} (hx : x.pol = (l[k]!).pol) : (l.set k x).map (·.pol) = l.map (·.pol) := by
 apply List.ext_getElem
 ·simp
 ·intro j h1 h2
  simp only [List.getElem_map, List.getElem_set]
  split
  ·rename_i e; subst e; rw [hx, getElem!_pos l k hk]
  ·rfl
theorem fndP_pols {a b : List Vx} (h : a.map (·.pol) = b.map (·.pol)) (p : B) : fndP a p = fndP b p := by
 have hl : a.length = b.length := by have := congrArg List.length h; simpa using this
 have hat : ∀ j, j < a.length → (a[j]!).pol = (b[j]!).pol := fun j hj => by
  have h1 : (a.map (·.pol))[j]'(by simpa using hj) = (b.map (·.pol))[j]'(by rw [← h]; simpa using hj) := by congr 1
  rw [getElem!_pos a j hj, getElem!_pos b j (by omega)]
  simpa using h1
 rcases Int.lt_or_le (fndP a p) 0 with q | q
 ·have h1 := fndP_none q
  have e1 : fndP a p = -1 := idxG_no fun j hj => decide_eq_false (h1 j hj)
  have e2 : fndP b p = -1 := idxG_no fun j hj => decide_eq_false (by rw [← hat j (by omega)]; exact h1 j (by omega))
  rw [e1, e2]
 ·obtain ⟨k, hk, he, hp, hn⟩ := fndP_some q
  rw [he]
  exact (idxG_eq (t := b) (f := fun n => decide (n.pol = p)) (k := k) (by omega) (decide_eq_true (by rw [← hat k hk]; exact hp)) fun j hj => decide_eq_false (by rw [← hat j (by omega)]; exact hn j hj)).symm
theorem mapS_any {ms : List (B × B)} {star above : Int} {l : List Vx} {p : B} (hp : p ≠ anyP) : 0 ≤ fndP (mapS ms star above l p) anyP ↔ 0 ≤ fndP l anyP := by
 unfold mapS
 split
 ·rename_i h0
  obtain ⟨k, hk, he, -, -⟩ := fndP_some h0
  rw [he, Int.toNat_natCast]
  rw [fndP_pols (set_pols hk (x := ⟨(l[k]!).pol, subL ms p, (l[k]!).par⟩) rfl) anyP]
 ·split
  ·rw [fndP_iff, fndP_iff]
   constructor
   ·rintro ⟨v, hv, hq⟩
    rcases insV_mem hv with q | rfl
    ·exact ⟨v, q, hq⟩
    ·exact absurd hq hp
   ·rintro ⟨v, hv, hq⟩
    exact ⟨v, insV_iff.2 (.inl hv), hq⟩
  ·exact Iff.rfl
theorem rmL_map {ms : List (B × B)} {star above : Int} : ∀ (ks : List B) {l : List Vx}, anyP ∉ ks → (0 ≤ star ↔ 0 ≤ fndP l anyP) → rmL ms true above l ks = mapL ms star above l ks
 | [], l, _, _ => rfl
 | p :: ks, l, hk, hs => by
  have e : rmS ms true above l p = mapS ms star above l p := by
   unfold rmS mapS
   by_cases h0 : 0 ≤ fndP l p
   ·rw [if_pos h0, if_pos h0]; rfl
   ·rw [if_neg h0, if_neg h0, Bool.true_and]
    by_cases h1 : 0 ≤ star
    ·rw [if_pos h1, if_pos (decide_eq_true (hs.1 h1))]
    ·rw [if_neg h1, if_neg (by rw [decide_eq_true_eq]; exact fun q => h1 (hs.2 q))]
  have hp : p ≠ anyP := fun e => hk (e ▸ List.mem_cons_self)
  show rmL ms true above (rmS ms true above l p) ks = mapL ms star above (mapS ms star above l p) ks
  rw [e]
  exact rmL_map ks (fun h => hk (List.mem_cons_of_mem _ h)) (hs.trans (mapS_any hp).symm)
theorem rmL_del {ms : List (B × B)} {above : Int} : ∀ (ks : List B) {l : List Vx}, OrdP l → rmL ms false above l ks = l.filter fun v => !decide (v.pol ∈ ks)
 | [], l, _ => by
  show l = _
  rw [eq_comm, List.filter_eq_self]
  intro v hv; simp
 | p :: ks, l, ho => by
  have e : rmS ms false above l p = l.filter fun v => !decide (v.pol = p) := by
   unfold rmS
   by_cases h0 : 0 ≤ fndP l p
   ·rw [if_pos h0]; exact delL_filt ho h0
   ·rw [if_neg h0, filt_no (by omega)]; rfl
  show rmL ms false above (rmS ms false above l p) ks = _
  rw [e, rmL_del ks (ho.filter _), List.filter_filter]
  congr 1
  funext v
  by_cases h1 : v.pol = p <;> by_cases h2 : v.pol ∈ ks <;> simp [h1, h2]
theorem rmL_eq {g : List (List Vx)} (h : gvalidB g = true) (hg : 2 ≤ g.length) (ms : List (B × B)) (ok : Bool) : rmL ms ok (fndP g[g.length - 2]! anyP) g[g.length - 1]! (srcL ms) = gmapL g ms ok := by
 unfold gmapL
 cases ok with
 | true => rw [if_pos rfl]; exact rmL_map _ (srcL_any ms) Iff.rfl
 | false =>
  rw [if_neg (by simp)]
  exact rmL_del _ ((valid_pv h).ord _)
theorem rmL_take {ms : List (B × B)} {ok : Bool} {above : Int} {l : List Vx} {ks : List B} {i : Nat} (hi : i < ks.length) : rmL ms ok above l (ks.take (i + 1)) = rmS ms ok above (rmL ms ok above l (ks.take i)) ks[i] := by
 rw [List.take_succ_eq_append_getElem hi, rmL_snoc]
theorem enA_take {l : List Vx} {ks : List B} {i : Nat} (hi : i < ks.length) : enA l (ks.take (i + 1)) = enS l (enA l (ks.take i)) ks[i] := by
 rw [List.take_succ_eq_append_getElem hi, enA_snoc]
theorem rmS_len (ms : List (B × B)) (ok : Bool) (above : Int) (l : List Vx) (p : B) : (rmS ms ok above l p).length ≤ l.length + 1 := by
 unfold rmS
 split
 ·split
  ·rw [List.length_set]; omega
  ·exact Nat.le_trans (delL_len _ _) (by omega)
 ·split
  ·rw [insV_len]; omega
  ·omega
theorem rmL_len (ms : List (B × B)) (ok : Bool) (above : Int) : ∀ (ks : List B) (l : List Vx), (rmL ms ok above l ks).length ≤ l.length + ks.length
 | [], l => by simp [rmL]
 | p :: ks, l => by
  have h1 := rmL_len ms ok above ks (rmS ms ok above l p)
  have h2 := rmS_len ms ok above l p
  show (rmL ms ok above (rmS ms ok above l p) ks).length ≤ _
  rw [List.length_cons]; omega
end Go.Proofs.YtmagjdocondmhaaGreat.Tr.Gr
