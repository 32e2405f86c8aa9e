/- packed -/
import Derived.Test.YtmagjdocondmhaaGreatPkLk09
import Derived.Maps.Range
import Derived.Maps.RangeWalk
set_option linter.unusedVariables false
set_option linter.unusedSimpArgs false
set_option maxRecDepth 100000
set_option maxHeartbeats 64000000
namespace Go.Proofs.YtmagjdocondmhaaGreat.Tr.Gr
open Go Go.RowKit Slc St Mp Tr Rg
attribute [local go_sem] Oper.semAt_some
structure PD (w : World) (B : Nat) (D : List Vt) : Prop where
 own : ∀ x ∈ D, Slc.Own w B 3 1 encI x.q.val x.n.par
 ap : D.Pairwise fun x y => ∀ k, x.q.val.ownBlock = some k -> y.q.val.ownBlock ≠ some k
 ex : ∀ x ∈ D, ∀ y ∈ D, ∀ k, x.q.val.ownBlock = some k -> y.u.val.ownBlock ≠ some k
 ul : ∀ x ∈ D, ∀ k, x.u.val.ownBlock = some k -> k < w.heap.size
theorem PD.nil (w : World) (B : Nat) : PD w B [] := ⟨(fun x hx => by cases hx), List.Pairwise.nil, (fun x hx => by cases hx), (fun x hx => by cases hx)⟩
theorem PD.keep {w w' : World} {B : Nat} {D : List Vt} (h : PD w B D) (hs : w.heap.size <= w'.heap.size) (hb : ∀ x ∈ D, ∀ k, x.q.val.ownBlock = some k -> k < w.heap.size -> w'.heap[k]? = w.heap[k]?) : PD w' B D :=
 ⟨fun x hx => (h.own x hx).keep fun k hk hkl => hb x hx k hk hkl, h.ap, h.ex, fun x hx k hk => Nat.lt_of_lt_of_le (h.ul x hx k hk) hs⟩
theorem PD.below {w w' : World} {B : Nat} {D : List Vt} (h : PD w B D) (hb : Below w.heap.size w w') : PD w' B D := h.keep hb.size fun x _ k _ hk => hb.block k hk
theorem own_type {α β : Type} {w : World} {B1 B2 z1 z2 : Nat} {t1 t2 : TypeId} {e1 : α -> List Value} {e2 : β -> List Value} {v1 v2 : Value} {l1 : List α} {l2 : List β} (h1 : Slc.Own w B1 t1 z1 e1 v1 l1) (h2 : Slc.Own w B2 t2 z2 e2 v2 l2) (ht : t1 ≠ t2) (k : Nat) (hk : v1.ownBlock = some k) : v2.ownBlock ≠ some k := by
 intro hk2;rcases h1.2 with ⟨rfl, -⟩ | ⟨g, cap, cur, rfl, -, hg, -⟩
 ·cases hk
 ·rcases h2.2 with ⟨rfl, -⟩ | ⟨g', cap', cur', rfl, -, hg', -⟩
  ·cases hk2
  ·simp only [Value.ownBlock, zO] at hk hk2
   subst hk; subst hk2
   rw [hg] at hg';simp only [zO, Obj.cells.injEq] at hg'
   exact ht hg'.2.1
theorem PD.snoc {w : World} {B C : Nat} {D : List Vt} {x : Vt} (h : PD w B D) (hBC : B <= C) (hD : ∀ y ∈ D, (∀ k, y.q.val.ownBlock = some k -> k < C) /\ ∀ k, y.u.val.ownBlock = some k -> k < C) (hq : Slc.Own w C 3 1 encI x.q.val x.n.par) (hu : Slc.Own w C 9 1 encS x.u.val x.n.ex) : PD w B (D ++ [x]) := by
 refine ⟨fun y hy => ?_, List.pairwise_append.2 ⟨h.ap, List.pairwise_singleton _ _, fun a ha b hb k hk hk' => ?_⟩, fun a ha b hb k hk hk' => ?_, fun y hy => ?_⟩
 ·rcases List.mem_append.1 hy with q | q
  ·exact h.own y q
  ·rw [zS] at q; subst q; exact hq.mono hBC
 ·rw [zS] at hb; subst hb
  have := (hD a ha).1 k hk;have := (hq.lt k hk').1;omega
 ·rcases List.mem_append.1 ha with q | q <;> rcases List.mem_append.1 hb with r | r
  ·exact h.ex a q b r k hk hk'
  ·rw [zS] at r; subst r
   have := (hD a q).1 k hk;have := (hu.lt k hk').1;omega
  ·rw [zS] at q; subst q
   have := (hq.lt k hk).1;have := (hD b r).2 k hk';omega
  ·rw [zS] at q r; subst q; subst r; exact own_type hq hu (by decide) k hk hk'
 ·rcases List.mem_append.1 hy with q | q
  ·exact h.ul y q
  ·rw [zS] at q; subst q; exact fun k hk => (hu.lt k hk).2
def CpF (W : World) (gb nb q7 : Nat) (N c i k NV cap : Nat) (x : Vt) : Nat -> Value -> World -> Prop
 | 0, v, _ => v = .slice (some ⟨gb, 0, none⟩) N c
 | 1, v, _ => v = .int .i64 (i : Nat)
 | 2, v, _ => v = .pointer (some ⟨gb, i, none⟩)
 | 3, v, _ => v = .pointer (some ⟨gb, i, none⟩)
 | 4, v, _ => v = .slice (some ⟨nb, 0, none⟩) NV cap
 | 5, v, _ => v = .int .i64 (k : Nat)
 | 6, v, _ => v = .slice (some ⟨gb, 0, none⟩) N c
 | 7, v, _ => v = .int .i64 (i : Nat)
 | 8, v, _ => v = .pointer (some ⟨gb, i, none⟩)
 | 9, v, _ => v = .pointer (some ⟨gb, i, none⟩)
 | 10, v, _ => v = .slice (some ⟨nb, 0, none⟩) NV cap
 | 11, v, _ => v = .int .i64 (k : Nat)
 | 12, v, _ => v = .pointer (some ⟨q7, 1, none⟩)
 | 13, v, _ => v = .slice x.u.ad x.u.n x.u.c
 | 14, v, w => Slc.Own w W.heap.size 9 1 encS v x.n.ex
 | 15, v, _ => v = .pointer (some ⟨q7, 2, none⟩)
 | 16, v, _ => v = .slice x.q.ad x.q.n x.q.c
 | 17, v, w => Slc.Own w W.heap.size 3 1 encI v x.n.par
 | 18, v, _ => v = .pointer (some ⟨nb, k * 3, none⟩)
 | 19, v, _ => v = .pointer (some ⟨nb, k * 3 + 1, none⟩)
 | 21, v, _ => v = .pointer (some ⟨nb, k * 3, none⟩)
 | 22, v, _ => v = .pointer (some ⟨nb, k * 3 + 2, none⟩)
 | _, _, _ => True
theorem CpF.keep (W : World) (gb nb q7 : Nat) (N c i k NV cap : Nat) (x : Vt) (j : Nat) (v : Value) (w w' : World) (h : CpF W gb nb q7 N c i k NV cap x j v w) (hk : ∀ q, W.heap.size <= q -> q < w.heap.size -> w'.heap[q]? = w.heap[q]?) : CpF W gb nb q7 N c i k NV cap x j v w' := by
 match j with
 | 0 | 1 | 2 | 3 | 4 | 5 | 6 | 7 | 8 | 9 | 10 | 11 | 12 | 13 | 15 | 16 | 18 | 19 | 21 | 22 => exact h
 | 14 => exact Slc.Own.keep (t := 9) h fun q hq hl => hk q (Slc.Own.lt (t := 9) h q hq).1 hl
 | 17 => exact Slc.Own.keep (t := 3) h fun q hq hl => hk q (Slc.Own.lt (t := 3) h q hq).1 hl
 | 20 => exact trivial
 | 23 => exact trivial
 | _ + 24 => exact trivial
structure CpC (W : World) (B : Nat) (v : Value) (g : List Lv) (i k nb : Nat) (vs : List Vt) (s : Sl) (x : Vt) (d : Nat -> Bool) (w' : World) : Prop where
 gr : W.grownBy w' (some nb)
 st : ∃ y : Vt, y.n = x.n /\ GO w' B v (g.set i ⟨vs.set k y, s⟩) /\ (d 20 = false -> y.u = x.u) /\ (d 20 = true -> Slc.Own w' W.heap.size 9 1 encS y.u.val x.n.ex) /\ (d 23 = false -> y.q = x.q) /\ (d 23 = true -> Slc.Own w' W.heap.size 3 1 encI y.q.val x.n.par)
def CpG (W : World) (nb k : Nat) (x : Vt) (i : Nat) (w1 w2 : World) : Prop :=
 if i = 20 then ∃ u : Sl, Slc.Own w1 W.heap.size 9 1 encS u.val x.n.ex /\ w2 = w1.setCell ⟨nb, k * 3 + 1, none⟩ u.val
 else ∃ u : Sl, Slc.Own w1 W.heap.size 3 1 encI u.val x.n.par /\ w2 = w1.setCell ⟨nb, k * 3 + 2, none⟩ u.val
theorem CpC.bel {W : World} {B : Nat} {v : Value} {g : List Lv} {i k nb : Nat} {vs : List Vt} {s : Sl} {x : Vt} {d : Nat -> Bool} {w w' : World} {j : Nat} (h : CpC W B v g i k nb vs s x d w) (hi : (j == 20 || j == 23) = false) (hb : Below w.heap.size w w') : CpC W B v g i k nb vs s x (mark d j) w' := by
 simp only [Bool.or_eq_false_iff, beq_eq_false_iff_ne, ne_eq] at hi
 obtain ⟨y, h1, h2, h3, h4, h5, h6⟩ := h.st;have e1 : mark d j 20 = d 20 := by unfold mark; rw [if_neg fun e => hi.1 e.symm]
 have e2 : mark d j 23 = d 23 := by unfold mark; rw [if_neg fun e => hi.2 e.symm]
 exact ⟨grown_bel h.gr hb, y, h1, h2.below hb, by rw [e1]; exact h3, by rw [e1]; exact fun e => (h4 e).below hb, by rw [e2]; exact h5, by rw [e2]; exact fun e => (h6 e).below hb⟩
theorem own_setCell {α : Type} {w : World} {Bk z : Nat} {t : TypeId} {enc : α -> List Value} {v : Value} {l : List α} (h : Slc.Own w Bk t z enc v l) {nb : Nat} (hnb : nb < Bk) (o : Nat) (u : Value) : Slc.Own (w.setCell ⟨nb, o, none⟩ u) Bk t z enc v l :=
 h.keep fun k hk _ => heap_setCell_other _ _ _ _ (by have := (h.lt k hk).1; show k ≠ nb; omega)
theorem CpC.big {W : World} {B : Nat} {v : Value} {g : List Lv} {i k nb NV cap : Nat} {vs : List Vt} {s : Sl} {x : Vt} {d : Nat -> Bool} {w w' : World} {j : Nat} (hi : i < g.length) (hk : k < vs.length) (hs : s.val = .slice (some ⟨nb, 0, none⟩) NV cap) (hnb : nb < W.heap.size) (hB : ∀ q, GB v g q -> q < W.heap.size) (hsg : (g[i]).s = s) (hok : Vx.Ok x.n)
  (h : CpC W B v g i k nb vs s x d w) (hj : (j == 20 || j == 23) = true) (hg : CpG W nb k x j w w') : CpC W B v g i k nb vs s x (mark d j) w' := by
 obtain ⟨y, h1, h2, h3, h4, h5, h6⟩ := h.st;have hi' : i < (g.set i ⟨vs.set k y, s⟩).length := by simpa using hi
 have hge : (g.set i ⟨vs.set k y, s⟩)[i]'hi' = ⟨vs.set k y, s⟩ := by simp
 have hj' : k < ((g.set i ⟨vs.set k y, s⟩)[i]'hi').vs.length := by rw [hge]; simpa using hk
 have hvy : ((g.set i ⟨vs.set k y, s⟩)[i]'hi').vs[k]'hj' = y := by simp only [hge]; simp
 have hGB : ∀ q, GB v (g.set i ⟨vs.set k y, s⟩) q -> q < W.heap.size := fun q hq => by
  rcases GB.set hq with e | e
  ·exact hB q e
  ·exact hB q (.inr ⟨g[i], zM hi, by rw [hsg]; exact e⟩)
 have hny := h2.nm _ (zM hi') y (by rw [hge]; exact List.mem_iff_getElem.2 ⟨k, by simpa using hk, by simp⟩)
 have hnew : ∀ {α : Type} {t : TypeId} {z : Nat} {enc : α -> List Value} {u : Value} {l : List α}, Slc.Own w W.heap.size t z enc u l -> RdIn w (fun q => ¬ GB v (g.set i ⟨vs.set k y, s⟩) q) enc u l := fun {α t z enc u l} ho => ⟨ho.rd, fun q hq hn => by
  have a1 := (ho.lt q hq).1;have a2 := hGB q hn
  omega⟩
 have hset : ∀ y' : Vt, (g.set i ⟨vs.set k y, s⟩).set i ⟨((g.set i ⟨vs.set k y, s⟩)[i]'hi').vs.set k y', ((g.set i ⟨vs.set k y, s⟩)[i]'hi').s⟩ = g.set i ⟨vs.set k y', s⟩ := fun y' => by
  rw [hge, List.set_set, List.set_set]
 unfold CpG at hg;rcases (show j = 20 \/ j = 23 by simpa using hj) with rfl | rfl
 ·rw [if_pos rfl] at hg;obtain ⟨u, hu, rfl⟩ := hg;obtain ⟨nb', cap', hv', hl', hf', hgo, hgr⟩ := h2.setV i hi' k hj' 1 (by omega) u.val ⟨y.n, u, y.q⟩ (by rw [hvy]; rfl) ⟨by rw [h1]; exact hnew hu, hny.2.1, hny.2.2⟩;rw [hge] at hv';simp only at hv'
  rw [hs] at hv';simp only [Value.slice.injEq, zO, Addr.mk.injEq, and_true] at hv'
  obtain ⟨rfl, -, -⟩ := hv';rw [hset] at hgo;refine ⟨grown_set' h.gr _ _, ⟨y.n, u, y.q⟩, h1, hgo, fun e => by simp [mark] at e, fun _ => own_setCell hu hnb _ _, fun e => h5 (by simpa [mark] using e), fun e => own_setCell (h6 (by simpa [mark] using e)) hnb _ _⟩
 ·rw [if_neg (by omega)] at hg;obtain ⟨u, hu, rfl⟩ := hg;obtain ⟨nb', cap', hv', hl', hf', hgo, hgr⟩ := h2.setV i hi' k hj' 2 (by omega) u.val ⟨y.n, y.u, u⟩ (by rw [hvy]; rfl) ⟨hny.1, .inr (by rw [h1]; exact hnew hu), hny.2.2⟩;rw [hge] at hv';simp only at hv'
  rw [hs] at hv';simp only [Value.slice.injEq, zO, Addr.mk.injEq, and_true] at hv'
  obtain ⟨rfl, -, -⟩ := hv';rw [hset] at hgo;refine ⟨grown_set' h.gr _ _, ⟨y.n, y.u, u⟩, h1, hgo, fun e => h3 (by simpa [mark] using e), fun e => own_setCell (h4 (by simpa [mark] using e)) hnb _ _, fun e => by simp [mark] at e, fun _ => own_setCell hu hnb _ _⟩
end Go.Proofs.YtmagjdocondmhaaGreat.Tr.Gr
namespace Go.Proofs.YtmagjdocondmhaaGreat.Tr.Gr
open Go Go.RowKit Slc St Mp Tr
structure PG (g : List (List Vx)) : Prop where
 par : ∀ k, k + 1 < g.length -> ∀ v ∈ g[k + 1]!, ∀ p ∈ v.par, 0 <= p /\ p < ((g[k]!).length : Int)
 len : ∀ l ∈ g, l.length <= 100000
theorem filtG_at {g : List (List Vx)} {k : Nat} {m : List Bool} (hk : k < g.length) (j : Nat) : (filtG g k m)[j]! = if j = k then keepT g[k]! m (g[k]!).length else if j = k + 1 then (g[j]!).map (renV m) else g[j]! := by
 unfold filtG;by_cases hj : j < g.length
 ·split
  ·rename_i h
   rw [getElem!_pos _ j (by simpa using hj), List.getElem_set];by_cases e1 : k + 1 = j
   ·subst e1;rw [if_pos rfl, if_neg (by omega), if_pos rfl]
   ·rw [if_neg e1, List.getElem_set];by_cases e2 : k = j
    ·subst e2; rw [if_pos rfl, if_pos rfl]
    ·rw [if_neg e2, if_neg (fun e => e2 e.symm), if_neg (fun e => e1 e.symm), getElem!_pos g j hj]
  ·rename_i h
   rw [getElem!_pos _ j (by simpa using hj), List.getElem_set];by_cases e2 : k = j
   ·subst e2; rw [if_pos rfl, if_pos rfl]
   ·rw [if_neg e2, if_neg (fun e => e2 e.symm), if_neg (by omega), getElem!_pos g j hj]
 ·have e0 : g[j]! = [] := by rw [getElem!_neg g j hj]; rfl
  have e1 : (if k + 1 < g.length then (g.set k (keepT g[k]! m (g[k]!).length)).set (k + 1) ((g[k + 1]!).map (renV m)) else g.set k (keepT g[k]! m (g[k]!).length))[j]! = [] := by
   rw [getElem!_neg]
   ·rfl
   ·split <;> simpa using hj
  rw [e1, if_neg (by omega), e0];split <;> rfl
theorem keepT_le {α : Type} [Inhabited α] (l : List α) (m : List Bool) : (keepT l m l.length).length <= l.length := by rw [keepT_len]; exact rk_le m _
theorem renP_in {m : List Bool} {ps : List Int} {n : Nat} (h : ∀ p ∈ ps, 0 <= p /\ p < (n : Int)) : ∀ q ∈ renP m ps, 0 <= q /\ q < ((rk m n : Nat) : Int) := by
 intro q hq;unfold renP at hq;obtain ⟨p, hp, rfl⟩ := List.mem_map.1 hq;obtain ⟨h1, h2⟩ := List.mem_filter.1 hp;have h3 := h p h1;have := rk_lt m (i := p.toNat) (j := n) (by omega) h2;omega
theorem PG.filt {g : List (List Vx)} (h : PG g) {k : Nat} (hk : k < g.length) (m : List Bool) : PG (filtG g k m) := by
 constructor
 ·intro j hj v hv p hp;rw [filtG_len] at hj;rw [filtG_at hk (j + 1)] at hv;rw [filtG_at hk j];by_cases e1 : j + 1 = k
  ·rw [if_pos e1] at hv;rw [if_neg (by omega), if_neg (by omega)];have hv' := keepT_mem (zR _) hv;rw [<- e1] at hv';exact h.par j hj v hv' p hp
  ·rw [if_neg e1] at hv;by_cases e2 : j + 1 = k + 1
   ·rw [if_pos e2] at hv;have e3 : j = k := (by omega);subst e3;rw [if_pos rfl, keepT_len];obtain ⟨u, hu, rfl⟩ := List.mem_map.1 hv;exact renP_in (h.par j hj u hu) p hp
   ·rw [if_neg e2] at hv;rw [if_neg (by omega)];have := h.par j hj v hv p hp;by_cases e4 : j = k + 1
    ·rw [if_pos e4, List.length_map]; exact this
    ·rw [if_neg e4]; exact this
 ·intro l hl;obtain ⟨j, hj, rfl⟩ := List.getElem_of_mem hl;rw [filtG_len] at hj;have e : (filtG g k m)[j]'(by rw [filtG_len]; exact hj) = (filtG g k m)[j]! := (getElem!_pos _ _ _).symm;rw [e, filtG_at hk j];have hgl : ∀ i, i < g.length -> (g[i]!).length <= 100000 := fun i hi => by rw [getElem!_pos g i hi]; exact h.len _ (zM hi)
  split
  ·exact Nat.le_trans (keepT_le _ _) (hgl k hk)
  ·split
   ·rw [List.length_map]; exact hgl j hj
   ·exact hgl j hj
def marksA (l : List Vx) : List Bool := l.map fun v => decide (0 < v.par.length)
def marksB (n : Nat) (bl : List Vx) : List Bool := (List.range n).map fun (j : Nat) => bl.any fun v => decide ((j : Int) ∈ v.par)
def fwdG (g : List (List Vx)) : Nat -> List (List Vx)
 | 0 => g
 | n + 1 => filtG (fwdG g n) (n + 1) (marksA (fwdG g n)[n + 1]!)
def bwdG (g : List (List Vx)) : Nat -> List (List Vx)
 | 0 => g
 | n + 1 => filtG (bwdG g n) (g.length - 2 - n) (marksB ((bwdG g n)[g.length - 2 - n]!).length (bwdG g n)[g.length - 2 - n + 1]!)
def pruneG (g : List (List Vx)) : List (List Vx) :=
 let h := bwdG (fwdG g (g.length - 1)) (g.length - 1)
 if h.any (fun l => decide (l.length = 0)) then [] else h
theorem fwdG_len (g : List (List Vx)) : ∀ n, (fwdG g n).length = g.length
 | 0 => rfl
 | n + 1 => by rw [fwdG, filtG_len, fwdG_len g n]
theorem bwdG_len (g : List (List Vx)) : ∀ n, (bwdG g n).length = g.length
 | 0 => rfl
 | n + 1 => by rw [bwdG, filtG_len, bwdG_len g n]
theorem fwdG_pg {g : List (List Vx)} (h : PG g) : ∀ n, n < g.length \/ n = 0 -> PG (fwdG g n)
 | 0, _ => h
 | n + 1, hn => by
  rw [fwdG];exact (fwdG_pg h n (by omega)).filt (by rw [fwdG_len]; omega) _
theorem bwdG_pg {g : List (List Vx)} (h : PG g) : ∀ n, n < g.length \/ n = 0 -> PG (bwdG g n)
 | 0, _ => h
 | n + 1, hn => by
  rw [bwdG];exact (bwdG_pg h n (by omega)).filt (by rw [bwdG_len]; omega) _
end Go.Proofs.YtmagjdocondmhaaGreat.Tr.Gr
namespace Go.Proofs.YtmagjdocondmhaaGreat.Tr.Gr
open Go Go.RowKit Slc St Mp Tr Rg
attribute [local go_sem] Oper.semAt_some
def Lv0 : Lv := ⟨[], ⟨none, 0, 0⟩⟩
theorem made_levs (n : Nat) : madeCells (Value.agg #[.slice none 0 0]).cells (n * 1) = Array.replicate n (.slice none 0 0) := by
 have e : (Value.agg #[.slice none 0 0]).cells = (Value.slice none 0 0).cells := rfl;have h := toList_madeCells_one (.slice none 0 0) n;have e2 : (Value.slice none 0 0).cells = #[.slice none 0 0] := rfl;rw [e, e2, Nat.mul_one];apply Array.ext'
 rw [h, Array.toList_replicate]
theorem levs_flat (n : Nat) : (Array.replicate n (Value.slice none 0 0)).toList = (List.replicate n Lv0).flatMap encL := by
 rw [Array.toList_replicate]
 induction n with
 | zero => rfl
 | succ n ih => rw [List.replicate_succ, List.replicate_succ, List.flatMap_cons, <- ih]; rfl
structure CpL (g gi : List Lv) (i : Nat) : Prop where
 len : gi.length = g.length
 dn : ∀ (r : Nat) (h1 : r < gi.length) (h2 : r < g.length), r < i -> vxs (gi[r]).vs = vxs (g[r]).vs
 un : ∀ (r : Nat) (h1 : r < gi.length), i <= r -> gi[r] = Lv0
def doneV (gi : List Lv) (i : Nat) : List Vt := (gi.take i).flatMap (·.vs)
theorem go_empty {w : World} {B : Nat} {v : Value} {n : Nat} (h : Slc.Own w B 63 1 encL v (List.replicate n Lv0)) : GO w B v (List.replicate n Lv0) := by
 have e : ∀ L ∈ List.replicate n Lv0, L = Lv0 := fun L hL => List.eq_of_mem_replicate hL
 refine ⟨h, fun L hL => by rw [e L hL]; exact Slc.Own.nil _ _, fun i j hi hj _ k hk => ?_, fun L hL k hk => ?_, fun L hL x hx => ?_⟩
 ·rw [e _ (zM hi)] at hk; cases hk
 ·rw [e L hL] at hk; cases hk
 ·rw [e L hL] at hx; cases hx
theorem copied_any (w : World) (v : Value) (g : List Lv) (h : GL w v g) (hn : g.length <= 100000) (hln : ∀ L ∈ g, L.vs.length <= 100000) :
  Calls Tryz.prog 52 #[v] w fun e w' => ∃ v' g', e = .returned v' /\ GO w' w.heap.size v' g' /\ gxs g' = gxs g /\ PD w' w.heap.size (g'.flatMap (·.vs)) /\ Below w.heap.size w w' := by
 obtain ⟨il, hil, hil0, hil1, hil2⟩ := info_parts info_lev;obtain ⟨ad, c, rfl, -⟩ := h.rd.form;have HG := Bx.mk h;have HLN := Bx.mk hln;obtain ⟨N, hN⟩ : ∃ N, N = g.length := ⟨_, rfl⟩
 have HN := Bx.mk hN;rw [<- hN] at hn |-;have hmk := run_makeSlice (P := Tryz.prog) w 23 63 il (.agg #[.slice none 0 0]) Tryz.underlying23 hil hil0 .i64 .i64 (N : Nat) (N : Nat) (by omega) (by omega) (by rw [Int.toNat_natCast, hil1]; omega) (by rw [hil2]; omega) (by omega);simp only [Int.toNat_natCast, hil1, made_levs] at hmk
 obtain ⟨ob, hob⟩ : ∃ q, q = w.heap.size := ⟨_, rfl⟩
 obtain ⟨W1, hW1⟩ : ∃ W1, W1 = w.alloc (.cells (Array.replicate N (.slice none 0 0)) 63) := ⟨_, rfl⟩
 have hb1 : Below w.heap.size w W1 := by rw [hW1]; exact (Below.refl _ _).alloc (zR _) _
 have hown := own_alloc (Bk := w.heap.size) encL_ok w (List.replicate N Lv0) (Array.replicate N (.slice none 0 0)) (levs_flat N) (zR _) (by unfold maxLen; simp; omega) (e := 63);rw [<- hW1, List.length_replicate, <- hob] at hown;have HG1 := Bx.mk (go_empty hown);have HB1 := Bx.mk (show Below ob w W1 by rw [hob]; exact hb1);have HOB := Bx.mk hob;have HC1 := Bx.mk (show CpL g (List.replicate N Lv0) 0 from ⟨by rw [List.length_replicate, hN], fun r _ _ h => by omega, fun r h1 _ => by simp⟩);have HP1 := Bx.mk (show PD W1 ob (doneV (List.replicate N Lv0) 0) by unfold doneV; rw [List.take_zero]; exact PD.nil _ _);clear h hln hN hb1 hown;go_enter Tryz.func52, Tryz.ntmps52;go_wp2_with fail
 rw [<- hW1, <- hob];clear hmk hW1 hob;go_loopw [13] (fun i wr => ∃ (k : Nat) (gi : List Lv), k <= N /\ i = .int .i64 k /\ Bx (GO wr ob (.slice (some ⟨ob, 0, none⟩) N N) gi) /\ Bx (CpL g gi k) /\ Bx (PD wr ob (doneV gi k)) /\ Bx (Below ob w wr)) (fun i _ => N - (intOf i).toNat)
 case atStart => exact ⟨0, _, by omega, rfl, HG1, HC1, HP1, HB1⟩
 case round =>
  clear HG1 HC1 HP1 HB1;obtain ⟨k, gi, hk, rfl, hGO, hCL, hPD, hBw⟩ := hrel;obtain ⟨wo, rfl⟩ : ∃ wo : World, wo = wr := ⟨_, rfl⟩
  by_cases hlt : k < N
  ·have HKG := Bx.mk (show k < g.length by rw [<- HN.out]; exact hlt);have HKI := Bx.mk (show k < gi.length by rw [hCL.out.len]; exact HKG.out);have hBw' : Below w.heap.size w wo := HOB.out ▸ hBw.out;obtain ⟨b, o, rfl, hbl, l0⟩ := (ls_cells HG.out.rd).2 wo (fun k hk _ => hBw'.block k hk) k HKG.out;have hvl := (HG.out.lv _ (zM HKG.out));have hll := HLN.out _ (zM HKG.out);obtain ⟨L, hL⟩ : ∃ L, L = g[k]'HKG.out := ⟨_, rfl⟩
   rw [<- hL] at l0 hvl hll;have HL := Bx.mk hL;obtain ⟨la, lc, hls, -⟩ := hvl.rd.form;rw [hls] at l0 hvl;obtain ⟨NV, hNV⟩ : ∃ NV, NV = L.vs.length := ⟨_, rfl⟩
   have HNV := Bx.mk hNV;have HVL := Bx.mk hvl;obtain ⟨W2, hW2⟩ : ∃ W2, W2 = wo.alloc (.cells #[.slice la NV lc] 63) := ⟨_, rfl⟩
   have hb2 : Below wo.heap.size wo W2 := by rw [hW2]; exact (Below.refl _ _).alloc (zR _) _
   obtain ⟨q5, hq5⟩ : ∃ q, q = wo.heap.size := ⟨_, rfl⟩
   have hr5 : W2.heap[q5]? = some (.cells #[.slice la NV lc] 63 (0, 0)) := by rw [hW2, hq5]; exact heap_alloc_new _ _
   have hbw2 := hBw'.trans (hb2.mono hBw'.size);have hcl := cloneV_any W2 _ L.vs (hvl.below hbw2) (by omega);rw [<- hNV] at l0 hll hcl;have HB2 := Bx.mk hb2;have HR5 := Bx.mk hr5;have HQ5 := Bx.mk hq5;have m5 := cell_of_row _ _ 0 _ _ _ hr5;simp only [List.getElem?_toArray, List.getElem?_cons_zero, List.getElem?_cons_succ] at m5
   clear hL hvl hls hNV hb2 hr5 hbw2 hBw';go_upto_region 5 with fail
   rw [<- hW2, <- hq5];clear hW2 hq5 l0;go_wp2_with fail
   go_at_call 99;refine hcl.mono ?_;rintro e w3 ⟨u, rfl, hu, hb3⟩;clear hcl m5;have HU := Bx.mk hu;obtain ⟨na, nc, rfl, -⟩ := hu.rd.form;rw [<- HNV.out] at hu |-;have hgo3 := (hGO.out.below HB2.out).below hb3;have hobl : ob <= W2.heap.size := by have := HB2.out.size; have := hBw.out.size; have := HOB.out; omega
   have hW2s : wo.heap.size < W2.heap.size := by have := lt_of_some HR5.out; have := HQ5.out; omega
   have hlow : ∀ q, (Value.slice na NV nc).ownBlock = some q -> W2.heap.size <= q := fun q hq => (hu.lt q hq).1
   have hgbl : ∀ q, GB (.slice (some ⟨ob, 0, none⟩) N N) gi q -> q < wo.heap.size := fun q hq => (hGO.out.lt hq).2
   obtain ⟨gb', cap', hgv, hgl, hgfz, hgo4, hgr4⟩ := hgo3.setL k HKI.out ⟨L.vs, ⟨na, NV, nc⟩⟩ (hu.mono hobl) (fun q hq => by
     have h1 := hlow q hq;refine ⟨fun e => ?_, fun i hi _ e => ?_⟩
     ·have := hgbl q (.inl e); omega
     ·have := hgbl q (.inr ⟨_, zM hi, e⟩); omega) (fun i hi _ x hx => by
     refine VtIn.mono (VtIn.below (VtIn.below (hGO.out.nm _ (zM hi) x hx).at_ HB2.out) hb3) fun q _ hq e => ?_
     have := hlow q e; omega) (fun x hx => by
     have h0 := (HVL.out.at_ x hx);refine VtIn.mono (VtIn.below (VtIn.below (VtIn.below h0 (HOB.out ▸ hBw.out)) HB2.out) hb3) fun q _ hq hn => ?_
     have h2 : ob <= q := by
      rcases GB.set hn with e | e
      ·exact (hGO.out.lt e).1
      ·have := hlow q e; omega
     have := HOB.out
     omega)
   simp only [Value.slice.injEq, zO, Addr.mk.injEq, and_true] at hgv
   obtain ⟨rfl, -, -⟩ := hgv;obtain ⟨gb2, he2, l4, -⟩ := hgo3.cellL k HKI.out;simp only [zO, Addr.mk.injEq, and_true] at he2
   subst he2;have z4 := hgfz k;obtain ⟨W4, hW4⟩ : ∃ W4, W4 = w3.setCell ⟨ob, k, none⟩ (.slice na NV nc) := ⟨_, rfl⟩
   have HW4 := Bx.mk hW4;have hoblt : ob < wo.heap.size := hgbl ob (.inl rfl);have HGO4 := Bx.mk (show GO W4 ob (.slice (some ⟨ob, 0, none⟩) N N) (gi.set k ⟨L.vs, ⟨na, NV, nc⟩⟩) by rw [hW4]; exact hgo4)
   have HB4 := Bx.mk (show Below ob w W4 by
    rw [hW4]
    exact ((hBw.out.trans (HB2.out.mono (by omega))).trans (hb3.mono (by omega))).setCell (zR _) _)
   have hpd3 := (hPD.out.below HB2.out).below hb3
   have HPD4 := Bx.mk (show PD W4 ob (doneV gi k ++ L.vs.take 0) by
    rw [List.take_zero, List.append_nil, hW4]
    exact hpd3.keep (by simp) fun x hx q hq _ => heap_setCell_other _ _ _ _ (by
     show q ≠ ob
     rintro rfl
     exact own_type (hpd3.own x hx) hgo3.own (by decide) q hq rfl))
   have HR54 := Bx.mk (show W4.heap[q5]? = some (.cells #[.slice la NV lc] 63 (0, 0)) by
    rw [hW4];have hne : q5 ≠ ob := by have := HQ5.out; omega
    exact row_other ((hb3.block q5 (lt_of_some HR5.out)).trans HR5.out) hne _)
   have m5 := cell_of_row _ _ 0 _ _ _ HR54.out;simp only [List.getElem?_toArray, List.getElem?_cons_zero, List.getElem?_cons_succ] at m5
   have HNL := Bx.mk (show gi.length = N by rw [hCL.out.len, HN.out]);have HUN := Bx.mk hCL.out;clear hgo3 hgo4 hgr4 hgl hgfz hpd3 hlow hgbl hobl hW2s hu hb3 hW4 hoblt;go_upto_region 6 with fail
   rw [<- HW4.out];clear HW4 l4 z4;go_wp2_with fail
   clear m5;go_loopw [28] (fun i wr => ∃ (j : Nat) (vs2 : List Vt), j <= NV /\ i = .int .i64 j /\ Bx (vs2.length = NV) /\ Bx (∀ (r : Nat) (h1 : r < vs2.length) (h2 : r < L.vs.length), (vs2[r]).n = (L.vs[r]).n /\ (j <= r -> vs2[r] = L.vs[r])) /\ Bx (GO wr ob (.slice (some ⟨ob, 0, none⟩) N N) (gi.set k ⟨vs2, ⟨na, NV, nc⟩⟩)) /\ Bx (PD wr ob (doneV gi k ++ vs2.take j)) /\ Bx (Below ob w wr)) (fun i _ => NV - (intOf i).toNat)
   case atStart => exact ⟨0, L.vs, by omega, rfl, ⟨HNV.out.symm⟩, ⟨fun r h1 h2 => ⟨rfl, fun _ => rfl⟩⟩, HGO4, HPD4, HB4⟩
   case round =>
    clear HGO4 HPD4 HB4 HR54 hGO hPD hCL;obtain ⟨j, vs2, hj, rfl, hvl, hvs, hGO, hPD, hB⟩ := hrel;have HKI2 := Bx.mk (show k < (gi.set k ⟨vs2, ⟨na, NV, nc⟩⟩).length by rw [zL]; exact HKI.out);by_cases hlt2 : j < NV
    ·have HJL := Bx.mk (show j < L.vs.length by rw [<- HNV.out]; exact hlt2);have HJ2 := Bx.mk (show j < vs2.length by rw [hvl.out]; exact hlt2);have hBw2 : Below w.heap.size w wr := HOB.out ▸ hB.out;obtain ⟨b2, o2, rfl, -, c0, c1, c2⟩ := HVL.out.at3 wr hBw2 j HJL.out;have HXA := Bx.mk (VtIn.below (HVL.out.at_ _ (zM HJL.out)) hBw2).at_;have hxe := (hvs.out j HJ2.out HJL.out).2 (zR _);obtain ⟨x, hx⟩ : ∃ x, x = L.vs[j]'HJL.out := ⟨_, rfl⟩
     rw [<- hx] at c0 c1 c2 HXA hxe;have HXE := Bx.mk hxe;have HXL := Bx.mk hx
     obtain ⟨nb, hnb⟩ : ∃ nb, na = some ⟨nb, 0, none⟩ := by
      have h1 := hGO.out.lv _ (zM HKI2.out);simp only [List.getElem_set_self] at h1
      obtain ⟨nb, cap, hv, -⟩ := h1.set1 encV_ok j 0 HJ2.out (by omega) (.string (bstr (vs2[j]'HJ2.out).n.pol)) (vs2[j]'HJ2.out) rfl;simp only [Sl.val, Value.slice.injEq] at hv
      exact ⟨nb, hv.1⟩
     subst hnb;simp only [Sl.val] at c1 c2
     obtain ⟨W5, hW5⟩ : ∃ W5, W5 = wr.alloc (.cells #[.string (bstr x.n.pol), .slice x.u.ad x.u.n x.u.c, .slice x.q.ad x.q.n x.q.c] 65) := ⟨_, rfl⟩
     have hb5 : Below wr.heap.size wr W5 := (by rw [hW5]; exact (Below.refl _ _).alloc (zR _) _);obtain ⟨q7, hq7⟩ : ∃ q, q = wr.heap.size := ⟨_, rfl⟩
     have hr7 : W5.heap[q7]? = some (.cells #[.string (bstr x.n.pol), .slice x.u.ad x.u.n x.u.c, .slice x.q.ad x.q.n x.q.c] 65 (0, 0)) := (by rw [hW5, hq7]; exact heap_alloc_new _ _);obtain ⟨g2, hg2⟩ : ∃ g2, g2 = gi.set k ⟨vs2, ⟨some ⟨nb, 0, none⟩, NV, nc⟩⟩ := ⟨_, rfl⟩
     have HG2 := Bx.mk hg2;rw [<- hg2] at hGO;have HK2 := Bx.mk (show k < g2.length by rw [hg2, zL]; exact HKI.out);have HS2 := Bx.mk (show g2[k]'HK2.out = ⟨vs2, ⟨some ⟨nb, 0, none⟩, NV, nc⟩⟩ by simp only [hg2]; simp);have HGO5 := Bx.mk (hGO.out.below hb5);have HPD5 := Bx.mk (hPD.out.below hb5);have HR7 := Bx.mk hr7;have HB5 := Bx.mk (hB.out.trans (hb5.mono (by have := hB.out.size; have := hBw2.size; have := HOB.out; omega)));have hgbn : GB (.slice (some ⟨ob, 0, none⟩) N N) g2 nb := .inr ⟨_, zM HK2.out, by rw [HS2.out]; rfl⟩;have HNBL := Bx.mk (show nb < wr.heap.size /\ ob <= nb from ⟨(hGO.out.lt hgbn).2, (hGO.out.lt hgbn).1⟩);have HOBN := Bx.mk (show ob ≠ nb from fun e => hGO.out.ao _ (zM HK2.out) nb (by rw [HS2.out]; rfl) (by rw [<- e]; rfl));have HQ7 := Bx.mk hq7;have HLT5 := Bx.mk (show ∀ q, GB (.slice (some ⟨ob, 0, none⟩) N N) g2 q -> q < W5.heap.size from fun q hq => (HGO5.out.lt hq).2);have HSZ5 := Bx.mk (show W5.heap.size = wr.heap.size + 1 by rw [hW5]; simp);have hxw : VtAt w x := by have := HVL.out.at_ _ (zM HJL.out); rwa [<- hx] at this
     have hkk : ∀ (W' : World), W5.grownBy W' (some nb) -> ∀ q, q < w.heap.size -> W'.heap[q]? = w.heap[q]? := fun W' hW' q hq => by
      have h1 := HOB.out;have h2 := HNBL.out;have h3 := HB5.out.size;exact (hW'.block q (by omega) (by simp only [ne_eq, zO]; omega)).trans (HB5.out.block q (by omega))
     have HCS := Bx.mk (fun (W' : World) (hW' : W5.grownBy W' (some nb)) => cloneS_any W' (.slice x.u.ad x.u.n x.u.c) x.n.ex (hxw.1.1.keep (Nat.le_trans HB5.out.size hW'.size) fun q _ hl => hkk W' hW' q hl) (by have := hxw.2.2.1.1; omega));have HCI := Bx.mk (fun (W' : World) (hW' : W5.grownBy W' (some nb)) => cloneI_any W' (.slice x.q.ad x.q.n x.q.c) x.n.par (RqIn.keep hxw.2.1 (Nat.le_trans HB5.out.size hW'.size) fun q _ hl => hkk W' hW' q hl).all (by have := hxw.2.2.2.2.1; omega));have HXOK := Bx.mk hxw.2.2;clear hxe hx hb5 hr7 hg2 hgbn hBw2 hxw hkk;go_upto_region 9 with fail
     rw [<- hW5, <- hq7];clear hW5 hq7 c0 c1 c2;have mixed : Tryz.prog.follows .mixedOrders = true := (by kernel_rfl);have hQ7nb : q7 ≠ nb := (by have := HQ7.out; have := HNBL.out.1; omega);refine wp_region_factsH 24 (fun _ => none) (fun i => i == 20 || i == 23) (fun i z w' => CpF W5 ob nb q7 N N k j NV nc x i (z i) w') (CpC W5 ob (.slice (some ⟨ob, 0, none⟩) N N) g2 k j nb vs2 ⟨some ⟨nb, 0, none⟩, NV, nc⟩ x) (CpG W5 nb j x) ?_ mixed (by kernel_rfl) (by rfl) ?_ ?_ ?_ ?_ ?_ ?_ ?_
     ·refine ⟨⟨rfl, rfl, rfl, zR _, fun _ _ _ => rfl⟩, x, rfl, ?_, fun _ => rfl, (fun e => Bool.noConfusion e), fun _ => rfl, (fun e => Bool.noConfusion e)⟩
      have e : g2.set k ⟨vs2.set j x, ⟨some ⟨nb, 0, none⟩, NV, nc⟩⟩ = g2 := by
       have e1 : vs2.set j x = vs2 := by
        rw [<- HXE.out]; exact List.set_getElem_self _
       rw [e1, <- HS2.out]; exact List.set_getElem_self _
      rw [e];exact HGO5.out.keep (zR _) fun _ _ _ => rfl
     ·intro i oi z y w1 _ _ e _ hh
      show CpF _ _ _ _ _ _ _ _ _ _ _ i (y i) w1
      rw [<- e]; exact hh
     ·exact fun i z w1 w2 hh hb => CpF.keep _ _ _ _ _ _ _ _ _ _ _ _ _ _ _ hh fun q _ hl => hb.block q hl
     ·exact fun d i w1 w2 hh hb _ hB => hh.bel hb hB
     ·exact fun d i oi w1 w2 _ _ hh hb _ hg => hh.big HK2.out HJ2.out rfl (by have := HNBL.out.1; have := HSZ5.out; omega) HLT5.out (by rw [HS2.out]) HXOK.out hb hg
     ·intro b ob' i z d w1 w2 hb _ _ _ _ _ _ _ _ hh hg;have hn5 : nb < W5.heap.size := (by have := HNBL.out.1; have := HSZ5.out; omega);unfold CpG at hg;split at hg
      ·obtain ⟨u, _, rfl⟩ := hg;exact CpF.keep _ _ _ _ _ _ _ _ _ _ _ _ _ _ _ hh fun q hq _ => heap_setCell_other _ _ _ _ (by show q ≠ nb; omega)
      ·obtain ⟨u, _, rfl⟩ := hg;exact CpF.keep _ _ _ _ _ _ _ _ _ _ _ _ _ _ _ hh fun q hq _ => heap_setCell_other _ _ _ _ (by show q ≠ nb; omega)
     ·intro i o hi ho d z w7 hcl hdi hrd hCC hd;have hc : i = 0 \/ i = 1 \/ i = 2 \/ i = 3 \/ i = 4 \/ i = 5 \/ i = 6 \/ i = 7 \/ i = 8 \/ i = 9 \/ i = 10 \/ i = 11 \/ i = 12 \/ i = 13 \/ i = 14 \/ i = 15 \/ i = 16 \/ i = 17 \/ i = 18 \/ i = 19 \/ i = 20 \/ i = 21 \/ i = 22 \/ i = 23 := (by omega);have HG7 := Bx.mk hCC.gr;obtain ⟨y, -, hgy, -, -, -, -⟩ := hCC.st;have hk7 : k < (g2.set k ⟨vs2.set j y, ⟨some ⟨nb, 0, none⟩, NV, nc⟩⟩).length := (by rw [zL]; exact HK2.out);obtain ⟨gbx, hex, lx, -⟩ := hgy.cellL k hk7;simp only [zO, Addr.mk.injEq, and_true] at hex
      subst hex;simp only [List.getElem_set_self, Sl.val] at lx
      have hr7 := (hCC.gr.block q7 (lt_of_some HR7.out) (by simp only [ne_eq, zO]; exact hQ7nb)).trans HR7.out;have m1 := cell_of_row _ _ 1 _ _ _ hr7;have m2 := cell_of_row _ _ 2 _ _ _ hr7;simp only [List.getElem?_toArray, List.getElem?_cons_zero, List.getElem?_cons_succ] at m1 m2
      have HNC := Bx.mk (show ∀ o, o < 3 -> (∃ u, w7.cell? ⟨nb, j * 3 + o, none⟩ = some u) /\ w7.frozen? ⟨nb, j * 3 + o, none⟩ = false from fun o ho3 => by
       have h1 := hgy.lv _ (zM hk7);simp only [List.getElem_set_self, Sl.val] at h1
       have hj7 : j < (vs2.set j y).length := (by rw [zL]; exact HJ2.out);obtain ⟨nb', cap', hv', -, -, hf', -, -⟩ := h1.set1 encV_ok j 0 hj7 (by omega) (.string (bstr y.n.pol)) y (by simp [encV]);simp only [Value.slice.injEq, zO, Addr.mk.injEq, and_true] at hv'
       obtain ⟨rfl, -, -⟩ := hv';have hlen3 : o < (encV ((vs2.set j y)[j]'hj7)).length := by rw [encV_ok.len]; exact ho3
       exact ⟨⟨_, h1.cell encV_ok j hj7 o ho3 _ (List.getElem?_eq_getElem hlen3)⟩, hf' _⟩)
      clear hcl hrd hCC hgy hk7 hr7;have HDI := Bx.mk hdi;simp only [List.take_succ_cons, List.take_zero, putFrom]
      rcases hc with rfl | rfl | rfl | rfl | rfl | rfl | rfl | rfl | rfl | rfl | rfl | rfl | rfl | rfl | rfl | rfl | rfl | rfl | rfl | rfl | rfl | rfl | rfl | rfl
      ·simp only [List.getElem?_cons_succ, List.getElem?_cons_zero, zO] at ho
       subst ho;simp [NeedsB, Region.binds, CpF] at hd
       clear hi hdi;go_wp2_with fail
       exact ⟨rfl, rfl, rfl, Below.refl _ _⟩
      ·simp only [List.getElem?_cons_succ, List.getElem?_cons_zero, zO] at ho
       subst ho;simp [NeedsB, Region.binds, CpF] at hd
       clear hi hdi;go_wp2_with fail
       exact ⟨rfl, rfl, rfl, Below.refl _ _⟩
      ·simp only [List.getElem?_cons_succ, List.getElem?_cons_zero, zO] at ho
       subst ho;simp [NeedsB, Region.binds, CpF] at hd
       clear hi hdi;go_wp2_with fail
       exact ⟨rfl, rfl, rfl, Below.refl _ _⟩
      ·simp only [List.getElem?_cons_succ, List.getElem?_cons_zero, zO] at ho
       subst ho;simp [NeedsB, Region.binds, CpF] at hd
       clear hi hdi;go_wp2_with fail
       exact ⟨rfl, rfl, rfl, Below.refl _ _⟩
      ·simp only [List.getElem?_cons_succ, List.getElem?_cons_zero, zO] at ho
       subst ho;simp [NeedsB, Region.binds, CpF] at hd
       clear hi hdi;go_wp2_with fail
       exact ⟨rfl, rfl, rfl, Below.refl _ _⟩
      ·simp only [List.getElem?_cons_succ, List.getElem?_cons_zero, zO] at ho
       subst ho;simp [NeedsB, Region.binds, CpF] at hd
       clear hi hdi;go_wp2_with fail
       exact ⟨rfl, rfl, rfl, Below.refl _ _⟩
      ·simp only [List.getElem?_cons_succ, List.getElem?_cons_zero, zO] at ho
       subst ho;simp [NeedsB, Region.binds, CpF] at hd
       clear hi hdi;go_wp2_with fail
       exact ⟨rfl, rfl, rfl, Below.refl _ _⟩
      ·simp only [List.getElem?_cons_succ, List.getElem?_cons_zero, zO] at ho
       subst ho;simp [NeedsB, Region.binds, CpF] at hd
       clear hi hdi;go_wp2_with fail
       exact ⟨rfl, rfl, rfl, Below.refl _ _⟩
      ·simp only [List.getElem?_cons_succ, List.getElem?_cons_zero, zO] at ho
       subst ho;simp [NeedsB, Region.binds, CpF] at hd
       clear hi hdi;go_wp2_with fail
       exact ⟨rfl, rfl, rfl, Below.refl _ _⟩
      ·simp only [List.getElem?_cons_succ, List.getElem?_cons_zero, zO] at ho
       subst ho;simp [NeedsB, Region.binds, CpF] at hd
       clear hi hdi;go_wp2_with fail
       exact ⟨rfl, rfl, rfl, Below.refl _ _⟩
      ·simp only [List.getElem?_cons_succ, List.getElem?_cons_zero, zO] at ho
       subst ho;simp [NeedsB, Region.binds, CpF] at hd
       clear hi hdi;go_wp2_with fail
       exact ⟨rfl, rfl, rfl, Below.refl _ _⟩
      ·simp only [List.getElem?_cons_succ, List.getElem?_cons_zero, zO] at ho
       subst ho;simp [NeedsB, Region.binds, CpF] at hd
       clear hi hdi;go_wp2_with fail
       exact ⟨rfl, rfl, rfl, Below.refl _ _⟩
      ·simp only [List.getElem?_cons_succ, List.getElem?_cons_zero, zO] at ho
       subst ho;simp [NeedsB, Region.binds, CpF] at hd
       clear hi hdi;go_wp2_with fail
       exact ⟨rfl, rfl, rfl, Below.refl _ _⟩
      ·simp only [List.getElem?_cons_succ, List.getElem?_cons_zero, zO] at ho
       subst ho;simp [NeedsB, Region.binds, CpF] at hd
       clear hi hdi;go_wp2_with fail
       exact ⟨rfl, rfl, rfl, Below.refl _ _⟩
      ·simp only [List.getElem?_cons_succ, List.getElem?_cons_zero, zO] at ho
       subst ho;simp [NeedsB, Region.binds, CpF] at hd
       clear hi hdi;have hcall := HCS.out w7 HG7.out;go_wp2_with (go_at_call 100; refine hcall.mono ?_; rintro e w8 ⟨u, rfl, hu, hb8⟩)
       exact ⟨rfl, rfl, by simpa [upd, CpF] using hu.mono HG7.out.size, hb8⟩
      ·simp only [List.getElem?_cons_succ, List.getElem?_cons_zero, zO] at ho
       subst ho;simp [NeedsB, Region.binds, CpF] at hd
       clear hi hdi;go_wp2_with fail
       exact ⟨rfl, rfl, rfl, Below.refl _ _⟩
      ·simp only [List.getElem?_cons_succ, List.getElem?_cons_zero, zO] at ho
       subst ho;simp [NeedsB, Region.binds, CpF] at hd
       clear hi hdi;go_wp2_with fail
       exact ⟨rfl, rfl, rfl, Below.refl _ _⟩
      ·simp only [List.getElem?_cons_succ, List.getElem?_cons_zero, zO] at ho
       subst ho;simp [NeedsB, Region.binds, CpF] at hd
       clear hi hdi;have hcall := HCI.out w7 HG7.out;go_wp2_with (go_at_call 101; refine hcall.mono ?_; rintro e w8 ⟨u, rfl, hu, hb8⟩)
       exact ⟨rfl, rfl, by simpa [upd, CpF] using hu.mono HG7.out.size, hb8⟩
      ·simp only [List.getElem?_cons_succ, List.getElem?_cons_zero, zO] at ho
       subst ho;simp [NeedsB, Region.binds, CpF] at hd
       clear hi hdi;go_wp2_with fail
       exact ⟨rfl, rfl, rfl, Below.refl _ _⟩
      ·simp only [List.getElem?_cons_succ, List.getElem?_cons_zero, zO] at ho
       subst ho;simp [NeedsB, Region.binds, CpF] at hd
       clear hi hdi;go_wp2_with fail
       exact ⟨rfl, rfl, rfl, Below.refl _ _⟩
      ·simp only [List.getElem?_cons_succ, List.getElem?_cons_zero, zO] at ho
       subst ho;simp [NeedsB, Region.binds, CpF] at hd
       clear hi hdi;obtain ⟨⟨uu, hm1⟩, z1⟩ := HNC.out 1 (by omega);have HDD := Bx.mk hd;have hw : Slc.Own w7 W5.heap.size 9 1 encS (z 14) x.n.ex := (by first | exact hd.2 | exact hd.1 | exact hd.2.1);obtain ⟨sv, hsv⟩ := sl_of hw;rw [hsv] at hw;have HW := Bx.mk hw;have hp : z 19 = .pointer (some ⟨nb, j * 3 + 1, none⟩) := (by first | exact hd.1 | exact hd.2 | exact hd.2.1);clear hd hw;simp only [Sl.val] at hsv
       go_wp2_with fail
       exact ⟨rfl, rfl, trivial, ⟨sv, HW.out, rfl⟩⟩
      ·simp only [List.getElem?_cons_succ, List.getElem?_cons_zero, zO] at ho
       subst ho;simp [NeedsB, Region.binds, CpF] at hd
       clear hi hdi;go_wp2_with fail
       exact ⟨rfl, rfl, rfl, Below.refl _ _⟩
      ·simp only [List.getElem?_cons_succ, List.getElem?_cons_zero, zO] at ho
       subst ho;simp [NeedsB, Region.binds, CpF] at hd
       clear hi hdi;go_wp2_with fail
       exact ⟨rfl, rfl, rfl, Below.refl _ _⟩
      ·simp only [List.getElem?_cons_succ, List.getElem?_cons_zero, zO] at ho
       subst ho;simp [NeedsB, Region.binds, CpF] at hd
       clear hi hdi;obtain ⟨⟨uu, hm1⟩, z1⟩ := HNC.out 2 (by omega);have HDD := Bx.mk hd;have hw : Slc.Own w7 W5.heap.size 3 1 encI (z 17) x.n.par := (by first | exact hd.2 | exact hd.1 | exact hd.2.1);obtain ⟨sv, hsv⟩ := sl_of hw;rw [hsv] at hw;have HW := Bx.mk hw;have hp : z 22 = .pointer (some ⟨nb, j * 3 + 2, none⟩) := (by first | exact hd.1 | exact hd.2 | exact hd.2.1);clear hd hw;simp only [Sl.val] at hsv
       go_wp2_with fail
       exact ⟨rfl, rfl, trivial, ⟨sv, HW.out, rfl⟩⟩
     ·intro d z w7 hdn hCC hf;obtain ⟨y, hyn, hgy, -, hyu, -, hyq⟩ := hCC.st;have hyu := hyu (hdn 20 (by omega));have hyq := hyq (hdn 23 (by omega))
      have hpd : PD w7 ob (doneV gi k ++ vs2.take j) := HPD5.out.keep hCC.gr.size fun x' hx' q hq hl => hCC.gr.block q hl (by
       simp only [ne_eq, zO]
       rintro rfl;have h1 := HGO5.out.lv _ (zM HK2.out);rw [HS2.out] at h1
       exact own_type (HPD5.out.own x' hx') h1 (by decide) q hq rfl)
      have hpd2 := hpd.snoc (C := W5.heap.size) (x := y) (by have := HNBL.out; have := HSZ5.out; omega) (fun y' hy' => ⟨fun q hq => ((HPD5.out.own y' hy').lt q hq).2, fun q hq => HPD5.out.ul y' hy' q hq⟩) (by rw [hyn]; exact hyq) (by rw [hyn]; exact hyu)
      have HPD7 := Bx.mk (show PD w7 ob (doneV gi k ++ (vs2.set j y).take (j + 1)) by
       have e : (vs2.set j y).take (j + 1) = vs2.take j ++ [y] := by
        rw [zA (by rw [zL]; exact HJ2.out), List.getElem_set_self, List.take_set_of_le (zR _)]
       rw [e, <- List.append_assoc]; exact hpd2)
      have HGO7 := Bx.mk (show GO w7 ob (.slice (some ⟨ob, 0, none⟩) N N) (gi.set k ⟨vs2.set j y, ⟨some ⟨nb, 0, none⟩, NV, nc⟩⟩) by
       rw [HG2.out, List.set_set] at hgy; exact hgy)
      have HB7 := Bx.mk (show Below ob w w7 from HB5.out.grown hCC.gr (by have := HNBL.out; have := HSZ5.out; omega) fun q hq => by simp only [zO] at hq; have := HNBL.out; omega);have HVL7 := Bx.mk (show (vs2.set j y).length = NV by rw [zL]; exact hvl.out)
      have HVS7 := Bx.mk (show ∀ (r : Nat) (h1 : r < (vs2.set j y).length) (h2 : r < L.vs.length), ((vs2.set j y)[r]).n = (L.vs[r]).n /\ (j + 1 <= r -> (vs2.set j y)[r] = L.vs[r]) from fun r h1 h2 => by
       rw [zL] at h1;have h0 := hvs.out r h1 h2;rw [List.getElem_set];by_cases e : j = r
       ·subst e;rw [if_pos rfl];exact ⟨by rw [hyn, HXL.out], fun h => by omega⟩
       ·rw [if_neg e]
        exact ⟨h0.1, fun h => h0.2 (by omega)⟩)
      clear hf hCC hgy hyu hyq hpd hpd2 hdn hyn;simp only [List.take_succ_cons, List.take_zero, List.drop_succ_cons, List.drop_zero, putFrom, Nat.zero_add, Nat.reduceAdd]
      generalize z 0 = z0, z 1 = z1, z 2 = z2, z 3 = z3, z 4 = z4, z 5 = z5, z 6 = z6, z 7 = z7, z 8 = z8, z 9 = z9, z 10 = z10, z 11 = z11, z 12 = z12, z 13 = z13, z 14 = z14, z 15 = z15, z 16 = z16, z 17 = z17, z 18 = z18, z 19 = z19, z 20 = z20, z 21 = z21, z 22 = z22, z 23 = z23;simp only [Act.put, List.setIfInBounds_toArray, List.set_cons_succ, List.set_cons_zero]
      go_wp2_with fail
      go_roundw
      case rel => exact ⟨j + 1, vs2.set j y, by omega, by go_num, HVL7, HVS7, HGO7, HPD7, HB7⟩
      case measure => simp [intOf]; omega
    ·obtain rfl : j = NV := by omega
     have HCF := Bx.mk (show CpL g (gi.set k ⟨vs2, ⟨na, j, nc⟩⟩) (k + 1) from ⟨by rw [zL]; exact HUN.out.len, fun r h1 h2 hr => by
      rw [zL] at h1;rw [List.getElem_set];by_cases e : k = r
      ·subst e;rw [if_pos rfl, <- HL.out];apply List.ext_getElem
       ·simp [vxs, hvl.out, HNV.out]
       ·intro q h3 h4;simp only [vxs, List.getElem_map]
        exact (hvs.out q (by simpa [vxs] using h3) (by simpa [vxs] using h4)).1
      ·rw [if_neg e]; exact HUN.out.dn r h1 h2 (by omega), fun r h1 hr => by
      rw [zL] at h1;rw [List.getElem_set, if_neg (by omega)]
      exact HUN.out.un r h1 (by omega)⟩)
     have HPF := Bx.mk (show PD wr ob (doneV (gi.set k ⟨vs2, ⟨na, j, nc⟩⟩) (k + 1)) by
      have h1 := hPD.out;rw [<- hvl.out, List.take_length] at h1
      have e : doneV (gi.set k ⟨vs2, ⟨na, j, nc⟩⟩) (k + 1) = doneV gi k ++ vs2 := by
       unfold doneV;rw [zA HKI2.out, List.flatMap_append, List.getElem_set_self, List.take_set_of_le (zR _)];simp
      rw [e]; exact h1)
     go_wp2_with fail
     go_roundw
     case rel => exact ⟨k + 1, _, by omega, by go_num, hGO, HCF, HPF, hB⟩
     case measure => simp [intOf]; omega
  ·obtain rfl : k = N := by omega
   have HFG := Bx.mk (show gxs gi = gxs g by
    apply List.ext_getElem
    ·simp [gxs, hCL.out.len]
    ·intro r h1 h2;simp only [gxs, List.getElem_map]
     have h2' : r < g.length := by simpa [gxs] using h2
     exact hCL.out.dn r (by rw [hCL.out.len]; exact h2') h2' (by rw [HN.out]; exact h2'))
   have HFP := Bx.mk (show PD wo ob (gi.flatMap (·.vs)) by
    have := hPD.out;unfold doneV at this
    rwa [HN.out, <- hCL.out.len, List.take_length] at this)
   go_wp2_with fail
   go_ret;exact ⟨_, gi, rfl, HOB.out ▸ hGO.out, HFG.out, HOB.out ▸ HFP.out, HOB.out ▸ hBw.out⟩
end Go.Proofs.YtmagjdocondmhaaGreat.Tr.Gr
namespace Go.Proofs.YtmagjdocondmhaaGreat.Mp
open Go Go.RowKit Go.ChangeMaps Go.MapKept Go.WideShapes
open Go.WideElems (Fit rd rg pl rd_key rd_val rg_of rd_mk other_key)
open Go.Maps (Keyed)
section
variable {H : Type} {P : Program} {k e t : TypeId} {R : Value -> Option (DataW H × List MemPlace)} {w : World} {b r n : Nat} {D : DataW H} {left : Lit -> Bool} {cnt : Nat}
theorem setBlock_inj {es es1 es2 : Array MapEntry} {c c1 c2 : Nat} (hb : w.heap[b]? = some (.map es c)) (h : setBlock w b (.map es1 c1) = setBlock w b (.map es2 c2)) : es1 = es2 /\ c1 = c2 := by
 have h1 := heap_setBlock_same hb (.map es1 c1);have h2 := heap_setBlock_same hb (.map es2 c2);rw [h, h2] at h1;simp only [zO, Obj.map.injEq] at h1
 exact ⟨h1.1.symm, h1.2.symm⟩
theorem ranges_put (h : w.ranges P k R b r n D left cnt) (K : Keyed P k) (ht : P.underlying t = some (.map k e)) (hn : n < maxLen) {z : Value} (hz : (zeroValue e).run P w = .ok z w) {key val : Value} {kl : Lit} {d : DataW H} {ps : List MemPlace}
  (hkey : keyOf P k key = some kl) (hhas : Maps.has D kl = true) (hv : R val = some (d, ps)) :
  ∃ w', (Instr.mapUpdate t (.map (some b)) key val).run P w = .ok () w' /\ w'.ranges P k R b r n (D.put kl d) left cnt /\ w.grownBy w' (some b) /\ w'.heap.size = w.heap.size := by
 have hne := h.ne;obtain ⟨es, clock, since, seen, c0, hb, F, hs, rfl, hr, hold, rfl, hl1, hl2, hsc, hsk⟩ := h;obtain ⟨es', clock', hrun, F', hput, -, -, -⟩ := Maps.fit_store (R' := R) K ht hb F (Nat.lt_of_le_of_lt hs hn) (fun _ _ _ _ hz => hz) hkey hv
 -- the key is there
 have hex : ∃ e0 ∈ es.toList, e0.key = key := by
  rcases Maps.fit_look true K ht hz hb F hkey with ⟨_, _, hat⟩ | ⟨e0, y, h1, h2, -⟩
  ·rw [Maps.has_false_of_atKey hat] at hhas; cases hhas
  ·exact ⟨e0, h1, h2⟩
 rcases K.find w hkey es.toList F.keys with ⟨h1, h2⟩ | ⟨j, e0, h1, h2, h3⟩
 ·obtain ⟨e0, he, hk⟩ := hex;exact absurd hk (h2 e0 he)
 have hj : es[j]? = some e0 := by simpa using h2
 have hlist : (es.modify j (fun e' => { e' with key := key, val := val })).toList = es.toList.set j { e0 with key := key, val := val } := by rw [Array.toList_modify, modify_eq_set _ _ _ _ h2]
 have hrun2 : (Instr.mapUpdate t (.map (some b)) key val).run P w = .ok () (setBlock w b (.map (es.modify j (fun e' => { e' with key := key, val := val })) clock)) := by
  simp [Instr.mapUpdate, run_underlying ht, MapKept.run_getObj_map hb, K.check w false hkey, h1, hj, h3, K.stays w hkey, MapKept.run_setObj_map _ hb, Result.andThen, setBlock]
 have hww : setBlock w b (.map es' clock') = setBlock w b (.map (es.modify j (fun e' => { e' with key := key, val := val })) clock) := by
  rw [hrun] at hrun2
  injection hrun2
 obtain ⟨rfl, rfl⟩ := setBlock_inj hb hww;have hm0 : e0 ∈ es.toList := List.mem_of_getElem? h2
 have hr0 : (rg P k R e0).1 = kl := by
  obtain ⟨y, hy⟩ := F.reads e0 hm0;have m0 := rd_key hy;rw [rg_of hy];rw [h3, hkey] at m0;exact (Option.some.inj m0).symm
 have hr1 : (rg P k R { e0 with key := key, val := val }).1 = kl := by rw [rg_of (rd_mk hkey hv)]
 have who : ∀ x ∈ es.toList.set j { e0 with key := key, val := val }, x = { e0 with key := key, val := val } \/ x ∈ es.toList := fun x hx => by
  rcases List.mem_or_eq_of_mem_set hx with q | q
  ·exact .inr q
  ·exact .inl q
 refine ⟨_, hrun2, ⟨_, clock', since, seen, c0, heap_setBlock_same hb _, F', by simpa using hs, by rw [DataW.put_eq, hput], (heap_setBlock_other hb _ hne).trans hr, fun x hx => ?_, ?_, fun x hx => ?_, fun kl' hkl' => ?_, hsc, hsk⟩, ⟨rfl, rfl, rfl, by simp [setBlock], fun i _ hi => heap_setBlock_other hb _ (fun e => hi (by rw [e]))⟩, by simp [setBlock]⟩
 ·rw [hlist] at hx;rcases who x hx with rfl | q
  ·exact hold e0 hm0
  ·exact hold x q
 ·have e1 : ∀ a : Array MapEntry, (leftOf a seen).size = ((a.toList.map (·.born)).filter fun q => !seen.contains q).length := fun a => by
   unfold leftOf;rw [List.filter_map, List.length_map, <- Array.length_toList, Array.toList_filter]; rfl
  rw [e1, e1, hlist, List.map_set];congr 2
  apply List.ext_getElem?
  intro i;rw [List.getElem?_set];split
  ·rename_i q
   subst q;split
   ·simp [h2]
   ·rename_i q2
    have := (List.getElem?_eq_some_iff.1 h2).1;rw [List.length_map] at q2;exact absurd this q2
  ·rfl
 ·rw [hlist] at hx;rcases who x hx with rfl | q
  ·rw [hr1, <- hr0]; exact hl1 e0 hm0
  ·exact hl1 x q
 ·obtain ⟨x, hx, hxe⟩ := hl2 kl' hkl';by_cases q : kl' = kl
  ·subst q;refine ⟨{ e0 with key := key, val := val }, ?_, hr1⟩;rw [hlist];exact List.mem_iff_getElem?.2 ⟨j, by rw [List.getElem?_set_self (List.getElem?_eq_some_iff.1 h2).1]⟩
  ·obtain ⟨i, hi, hie⟩ := List.getElem_of_mem hx
   have hij : j ≠ i := by
    rintro rfl;rw [List.getElem?_eq_getElem hi, hie] at h2;obtain rfl := Option.some.inj h2;exact q (hxe.symm.trans hr0)
   refine ⟨x, ?_, hxe⟩;rw [hlist];exact List.mem_iff_getElem?.2 ⟨i, by rw [List.getElem?_set_ne hij, List.getElem?_eq_getElem hi, hie]⟩
end
end Go.Proofs.YtmagjdocondmhaaGreat.Mp
namespace Go.Proofs.YtmagjdocondmhaaGreat.Tr
open Go Go.RowKit Slc St Mp
attribute [local go_sem] Oper.semAt_some
def exF (L : List B) : B -> Option Bool := fun p => if p ∈ L then some true else none
theorem exF_nil : exF [] = fun _ => none := by funext p; simp [exF]
theorem exF_snoc (L : List B) (p : B) : exF (L ++ [p]) = fun j => if j = p then some true else exF L j := by
 funext j; unfold exF
 by_cases h : j = p
 ·simp [h]
 ·simp [h]
def exL (t : List Nd) (E : Int) (k : Nat) : List B := (t.take k).flatMap fun n => if n.d = E then n.ex else []
theorem exL_succ (t : List Nd) (E : Int) (k : Nat) (hk : k < t.length) : exL t E (k + 1) = exL t E k ++ if t[k]!.d = E then t[k]!.ex else [] := by
 unfold exL;rw [zA hk, List.flatMap_append, getElem!_pos t k hk];simp
theorem exL_get (t : List Nd) (D : Int) (p : B) : ((exF (exL t (D - 1) t.length)) p).getD false = expdP t D p := by
 unfold exF exL expdP;rw [List.take_length];by_cases h : p ∈ t.flatMap fun n => if n.d = D - 1 then n.ex else []
 ·rw [if_pos h];rw [List.mem_flatMap] at h;obtain ⟨n, hn, hp⟩ := h
  symm
  show t.any _ = true
  rw [List.any_eq_true];refine ⟨n, hn, ?_⟩;by_cases q : n.d = D - 1
  ·rw [if_pos q] at hp; simp [q, hp]
  ·rw [if_neg q] at hp; cases hp
 ·rw [if_neg h]
  symm
  show t.any _ = false
  rw [List.any_eq_false];intro n hn hq;simp only [Bool.and_eq_true, decide_eq_true_eq] at hq
  exact h (List.mem_flatMap.2 ⟨n, hn, by rw [if_pos hq.1]; exact hq.2⟩)
theorem child_want (t : List Nd) (D : Int) (n : Nd) (pol : List B) (all : Bool) : setB (pol.filter (wantF (exF (exL t (D - 1) t.length)) n) ++ if all then n.ex else []) = childP t D n pol all := by
 unfold childP;congr 2
 apply List.filter_congr
 intro p _;unfold wantF wantP;rw [exL_get]
theorem RdIn.apd {wr w' : World} {Bk a b : Nat} {v v' : Value} {xs news : List Value} {α : Type} {enc : α -> List Value} {u : Value} {L : List α} (h : RdIn wr (fun k => v.ownBlock ≠ some k) enc u L) (h' : Apd wr Bk 111 4 v a b xs news v' w') : RdIn w' (fun k => v'.ownBlock ≠ some k) enc u L := by
 refine RdIn.mono (S := fun k => v.ownBlock ≠ some k /\ k < wr.heap.size) ((h.mono fun k hk h1 => ⟨h1, hk⟩).keep h'.grown.size fun k hk hlt => h'.grown.block k hlt fun e => hk.1 e.symm) ?_;intro k _ hk e;rcases h'.blk with q | q
 ·exact hk.1 (by rw [<- q]; exact e)
 ·rw [q] at e; simp only [zO] at e; omega
theorem RdIn.below {w w' : World} {S : Nat -> Prop} {α : Type} {enc : α -> List Value} {u : Value} {L : List α} (h : RdIn w S enc u L) (hb : Below w.heap.size w w') : RdIn w' S enc u L := h.keep hb.size fun k _ hk => hb.block k hk
theorem new_node (w : World) (D i : Int) (p : B) (hp : p.length <= 1000000) : ∃ y : Nt, y = ⟨newN D i p, ⟨some ⟨w.heap.size, 0, none⟩, 1, 1⟩⟩ /\
  NtIn ((w.alloc (.cells #[.string (bstr p)] 9)).alloc (.cells #[.int .i64 D, .int .i64 i, .string (bstr p), .slice (some ⟨w.heap.size, 0, none⟩) 1 1] 111)) (fun k => k = w.heap.size) y /\
  SrcV ((w.alloc (.cells #[.string (bstr p)] 9)).alloc (.cells #[.int .i64 D, .int .i64 i, .string (bstr p), .slice (some ⟨w.heap.size, 0, none⟩) 1 1] 111)) 4 (.slice (some ⟨w.heap.size + 1, 0, none⟩) 1 1) 1 ([y].flatMap encN) := by
 refine ⟨_, rfl, ⟨⟨?_, fun k hk => by cases hk; rfl⟩, ⟨by simp [newN], fun b hb => ?_⟩, hp⟩, ?_⟩
 ·have := own_alloc (Bk := w.heap.size) (e := 9) encS_ok w [p] #[.string (bstr p)] rfl (zR _) (by unfold maxLen; simp);exact (this.below ((Below.refl _ _).alloc (zR _) _)).rd
 ·have hb' : b ∈ [p] := hb;rw [zS] at hb';rw [hb']; exact hp
 ·have := src_node (w.alloc (.cells #[.string (bstr p)] 9)) ⟨newN D i p, ⟨some ⟨w.heap.size, 0, none⟩, 1, 1⟩⟩;rw [World.size_alloc] at this;exact this
def EnP (w : World) (R : List Nd × Int) (e : Ending) (w' : World) : Prop := ∃ v' l', e = .returned (.tuple #[v', .int .i64 R.2]) /\ TO w' w.heap.size v' l' /\ nds l' = R.1 /\ Below w.heap.size w w'
theorem enter_any (w : World) (v pv : Value) (l : List Nt) (ps : List B) (h : TL w v l) (hp : Rd w encS pv ps) (hn : l.length <= 100000) (hpl : ps.length <= 100000) (hpx : ∀ p ∈ ps, p.length <= 1000000) (D : Int) (hD : I64 D) (cnt : Bool) :
  Calls Tryz.prog 37 #[v, .int .i64 D, pv, .bool cnt] w fun e w' => EnP w (enterP (nds l) D ps cnt) e w' := by
 obtain ⟨i0, hi0, hz0, hz1, hz2⟩ := info_parts info_node;have hset := fun (W : World) (hW : Below w.heap.size w W) => set_any W pv ps (hp.below hW) (by omega)
 obtain ⟨R, hR⟩ : ∃ R, R = enterP (nds l) D ps cnt := ⟨_, rfl⟩
 rw [<- hR];have HR := Bx.mk hR;unfold enterP at hR;obtain ⟨ad, c, rfl, -⟩ := h.rd.form;obtain ⟨pa, pc, rfl, -⟩ := hp.form;have hval := fun hd : 1 <= D => valid_any w _ l h hn (D - 1)
 have HL := Bx.mk h;have HC := Bx.mk h.cells.2;have HPX := Bx.mk hpx;have HSET := Bx.mk hset;obtain ⟨N, hN⟩ : ∃ N, N = l.length := ⟨_, rfl⟩
 have HN := Bx.mk hN;rw [<- hN] at hn hval |-;clear h hp hN hpx hset;unfold EnP I64 at *;by_cases h1 : D < 1
 ·have t0 : decide (D < 1) = true := zT h1;have HF := Bx.mk (show R = ([], 7) by rw [hR, t0]; rfl);clear hval h1 hR;go_enter Tryz.func37, Tryz.ntmps37;go_wp2_with fail
  go_ret2;exact ⟨_, [], by rw [HF.out]; rfl, TO.nil _ _, by rw [HF.out]; rfl, Below.refl _ _⟩
 have h1' : 1 <= D := by omega
 have t0 : decide (D < 1) = false := zF h1;have hval' := hval h1';rw [t0, Bool.false_or] at hR;obtain ⟨V, hV⟩ : ∃ V, V = validB (nds l) (D - 1) := ⟨_, rfl⟩
 rw [<- hV] at hval' hR;have HV := Bx.mk hV;have HRR := Bx.mk hR;clear hval hV hR h1;go_enter Tryz.func37, Tryz.ntmps37;go_wp2_with fail
 go_at_call 80;refine hval'.mono ?_;rintro e w1 ⟨rfl, hb1⟩;clear hval'
 cases V with
 | false =>
  have HF := Bx.mk (show R = ([], 7) by rw [HRR.out]; rfl);go_wp2_with fail
  go_ret2
  exact ⟨_, [], by rw [HF.out]; rfl, TO.nil _ _, by rw [HF.out]; rfl, hb1⟩
 | true =>
 have HVV := Bx.mk ((valid_iff _ _).1 HV.out.symm);have hset1 := HSET.out w1 hb1;have HB1 := Bx.mk hb1;clear hb1;go_wp2_with fail
 go_at_call 81;refine hset1.mono ?_;rintro e w2 ⟨v2, rfl, ho2, hb2⟩;have HB2 := Bx.mk (HB1.out.trans (hb2.mono HB1.out.size));have hct := contains_any w2 v2 (setB ps) anyP ho2.rd (by have := setB_length ps; omega);obtain ⟨a2, c2, rfl, -⟩ := ho2.rd.form;have HO2 := Bx.mk ho2;obtain ⟨S, hS⟩ : ∃ S, S = setB ps := ⟨_, rfl⟩
 rw [<- hS] at HO2 hct |-;have HS := Bx.mk hS;have hSl : S.length <= 100000 := by rw [hS]; have := setB_length ps; omega
 clear hset1 ho2 hb2 hS;obtain ⟨A, hA⟩ : ∃ A, A = (cnt && decide (anyP ∈ S)) := ⟨_, rfl⟩
 have HA := Bx.mk hA;clear hA;go_upto_region 4 with fail
 go_cut [10] (fun c wx => c = .bool A /\ w2 = wx)
 case first =>
  cases cnt with
  | false =>
   go_wp2_with fail
   go_meet
   exact ⟨by rw [HA.out]; rfl, rfl⟩
  | true =>
   rw [anyP_str] at hct;go_wp2_with fail
   go_at_call 48;refine hct.mono ?_;rintro e w3 ⟨rfl, rfl⟩;go_wp2_with fail
   go_meet;exact ⟨by rw [HA.out]; rfl, rfl⟩
 case rest =>
 obtain ⟨rfl, rfl⟩ := hcut;clear hct;have hmm := @run_makeMap Tryz.prog;obtain ⟨W3, hW3⟩ : ∃ W3, W3 = w2.alloc (.map #[] 0) := ⟨_, rfl⟩
 obtain ⟨bm, hbm⟩ : ∃ bm, bm = w2.heap.size := ⟨_, rfl⟩
 have HBM := Bx.mk hbm
 have HM0 := Bx.mk (show OwnF W3 kS rdB edB bm 0 (exF (exL (nds l) (D - 1) 0)) by
  have e : exF (exL (nds l) (D - 1) 0) = fun _ => none := by unfold exL; simp [exF_nil]
  rw [e, hW3, hbm]; exact OwnF.made w2 kS rdB edB)
 have HB3 := Bx.mk (show Below bm w2 W3 by rw [hW3, hbm]; exact (Below.refl _ _).alloc (zR _) _);go_wp2_with fail
 rw [<- hW3, <- hbm];clear hW3 hmm hbm;have hw2s := HB2.out.size;go_loopw [42] (fun i wr => ∃ k : Nat, k <= N /\ i = .int .i64 k /\ Bx (∃ q, q <= k * 100000 /\ OwnF wr kS rdB edB bm q (exF (exL (nds l) (D - 1) k))) /\ Bx (Below bm w2 wr)) (fun i _ => N - (intOf i).toNat)
 case atStart => exact ⟨0, by omega, rfl, ⟨_, by omega, HM0.out⟩, HB3⟩
 case round =>
  clear HM0 HB3;obtain ⟨k, hk, rfl, hM, hBw⟩ := hrel;have HBW := Bx.mk (HB2.out.trans (hBw.out.mono (by have := HBM.out; omega)));by_cases hlt : k < N
  ·have hkl : k < l.length := by rw [<- HN.out]; exact hlt
   obtain ⟨b, o, rfl, hbl, c0, c1, c2, c3⟩ := HC.out wr HBW.out k hkl;have HX := Bx.mk (show (nds l)[k]! = (l[k]).n from nds_at l k hkl);have HXA := Bx.mk (HL.out.at_ l[k] (zM hkl));obtain ⟨x, hx⟩ : ∃ x, x = l[k] := ⟨_, rfl⟩
   rw [<- hx] at c0 c1 c2 c3 HX HXA;obtain ⟨ua, uc, hu, -⟩ := HXA.out.1.form;have HXC := Bx.mk (show ∀ W : World, Below w.heap.size w W -> ∀ j (hj : j < x.n.ex.length), ∃ b o, ua = some ⟨b, o, none⟩ /\ b < w.heap.size /\ W.cell? ⟨b, o + j, none⟩ = some (.string (bstr x.n.ex[j])) from (strs_cells (hu ▸ HXA.out.1)).2);rw [hu] at c3;have HXS := Bx.mk (exL_succ (nds l) (D - 1) k (by rw [nds_len]; exact hkl));rw [HX.out] at HXS;obtain ⟨M, hMx⟩ : ∃ M, M = x.n.ex.length := ⟨_, rfl⟩
   rw [<- hMx] at c3;have HMX := Bx.mk hMx;have hM1 : M <= 100000 := by rw [hMx]; exact HXA.out.2.1.1
   clear hx hbl hu hMx hkl;obtain ⟨W1, hW1⟩ : ∃ W1, W1 = wr.alloc (.cells #[.int .i64 x.n.d, .int .i64 x.n.p, .string (bstr x.n.pol), .slice ua M uc] 111) := ⟨_, rfl⟩
   obtain ⟨bn, hbn⟩ : ∃ bn, bn = wr.heap.size := ⟨_, rfl⟩
   have hq1 : W1.heap[bn]? = some (.cells #[.int .i64 x.n.d, .int .i64 x.n.p, .string (bstr x.n.pol), .slice ua M uc] 111 (0, 0)) := by rw [hW1, hbn]; exact heap_alloc_new _ _
   have HBA := Bx.mk (show Below wr.heap.size wr W1 by rw [hW1]; exact (Below.refl _ _).alloc (zR _) _);have hsz := hBw.out.size;have HBWA := Bx.mk (show Below bm w2 W1 from hBw.out.trans (HBA.out.mono (by have := HBM.out; omega)))
   have HMA := Bx.mk (show ∃ q, q <= k * 100000 /\ OwnF W1 kS rdB edB bm q (exF (exL (nds l) (D - 1) k)) by
    obtain ⟨q, hq, ho⟩ := hM.out
    exact ⟨q, hq, ho.below HBA.out⟩)
   go_upto_region 9 with fail
   rw [<- hW1, <- hbn];clear hW1 hbn c0 c1 c2 c3;have m0 := cell_of_row _ _ 0 _ _ _ hq1;have m3 := cell_of_row _ _ 3 _ _ _ hq1;simp only [List.getElem?_toArray, List.getElem?_cons_zero, List.getElem?_cons_succ] at m0 m3
   clear hq1 hsz;by_cases td : x.n.d = D - 1
   ·have tq : (x.n.d == D - 1) = true := by simp [td]
    rw [if_pos td] at HXS;clear td;go_wp2_with fail
    go_loopw [54] (fun i wr2 => ∃ j : Nat, j <= M /\ i = .int .i64 j /\ Bx (∃ q, q <= k * 100000 + j /\ OwnF wr2 kS rdB edB bm q (exF (exL (nds l) (D - 1) k ++ x.n.ex.take j))) /\ Bx (Below bm w2 wr2)) (fun i _ => M - (intOf i).toNat)
    case atStart => exact ⟨0, by omega, rfl, ⟨by simpa using HMA.out⟩, HBWA⟩
    case round =>
     clear HMA HBWA m0 m3 tq;obtain ⟨j, hj, rfl, hM2, hBw2⟩ := hrel;by_cases hjm : j < M
     ·have hjl : j < x.n.ex.length := by rw [<- HMX.out]; exact hjm
      obtain ⟨bx, ox, rfl, -, cx⟩ := HXC.out wr (HB2.out.trans (hBw2.out.mono (by have := HBM.out; omega))) j hjl;have hpl2 := HXA.out.2.1.2 x.n.ex[j] (zM hjl);have HTK := Bx.mk (show x.n.ex.take (j + 1) = x.n.ex.take j ++ [x.n.ex[j]] from zA hjl);obtain ⟨p, hpp⟩ : ∃ p, p = x.n.ex[j] := ⟨_, rfl⟩
      rw [<- hpp] at cx hpl2 HTK;obtain ⟨q, hq, ho⟩ := hM2.out;obtain ⟨w5, hrun, ho5, hg5⟩ := ho.putS u_mapSB (by unfold maxLen; omega) (k := p) (by unfold maxLen; omega) true (.bool true) (rdB_mk _);have hrun' : (Instr.mapUpdate 98 (.map (some bm)) (.string (bstr p)) (.bool true)).run Tryz.prog wr = .ok () w5 := hrun;have HO5 := Bx.mk (show OwnF w5 kS rdB edB bm (q + 1) (exF (exL (nds l) (D - 1) k ++ x.n.ex.take (j + 1))) by rw [HTK.out, <- List.append_assoc, exF_snoc]; exact ho5);have HB5 := Bx.mk (show Below bm w2 w5 from hBw2.out.grown hg5 (by have := hBw2.out.size; have := HBM.out; omega) fun k hk => by simp only [zO] at hk; omega);have HQ := Bx.mk hq;clear hpp hjl ho ho5 hg5 hrun hq;generalize bstr p = PS at *;go_wp2_with fail
      go_roundw
      case rel => exact ⟨j + 1, by omega, by go_num, ⟨_, by have := HQ.out; omega, HO5.out⟩, HB5⟩
      case measure => simp [intOf]; omega
     ·obtain rfl : j = M := by omega
      have HM3 := Bx.mk (show ∃ q, q <= (k + 1) * 100000 /\ OwnF wr kS rdB edB bm q (exF (exL (nds l) (D - 1) (k + 1))) by
       obtain ⟨q, hq, ho⟩ := hM2.out;refine ⟨q, by omega, ?_⟩;rw [HMX.out, List.take_length] at ho
       rw [HXS.out]; exact ho)
      go_wp2_with fail
      go_roundw
      case rel => exact ⟨k + 1, by omega, by go_num, HM3, hBw2⟩
      case measure => simp [intOf]; omega
   ·have tq : (x.n.d == D - 1) = false := by simp [td]
    rw [if_neg td, List.append_nil] at HXS;clear td
    have HM3 := Bx.mk (show ∃ q, q <= (k + 1) * 100000 /\ OwnF W1 kS rdB edB bm q (exF (exL (nds l) (D - 1) (k + 1))) by
     obtain ⟨q, hq, ho⟩ := HMA.out;have hq' : q <= (k + 1) * 100000 := Nat.le_trans hq (by rw [Nat.succ_mul]; exact Nat.le_add_right _ _);refine ⟨q, hq', ?_⟩
     rw [HXS.out]; exact ho)
    go_wp2_with fail
    go_roundw
    case rel => exact ⟨k + 1, by omega, by go_num, HM3, HBWA⟩
    case measure => simp [intOf]; omega
  ·obtain rfl : N = k := by omega
   obtain ⟨w4, rfl⟩ : ∃ w4 : World, w4 = wr := ⟨_, rfl⟩
   have HMF := Bx.mk (show ∃ q, OwnF w4 kS rdB edB bm q (exF (exL (nds l) (D - 1) (nds l).length)) by
    obtain ⟨q, -, ho⟩ := hM.out
    exact ⟨q, by rw [nds_len, <- HN.out]; exact ho⟩)
   have hBww := HBW.out;have HB24 := Bx.mk (show Below w2.heap.size w2 w4 by have := hBw.out; rw [HBM.out] at this; exact this);clear hM hBw;go_wp2_with fail
   go_loopw [16, 64] (fun mv i wr => ∃ (k : Nat) (ml : List Nt), k <= N /\ i = .int .i64 k /\ ml.length <= 2048 /\ Bx (GT w4 w4.heap.size wr mv ml) /\ Bx (nds ml = moreK (nds l) D S A k)) (fun _ i _ => N - (intOf i).toNat)
   case atStart => exact ⟨0, [], by omega, rfl, by simp, ⟨GT.nil _ _ (zR _)⟩, ⟨by simp [moreK, nds]⟩⟩
   case round =>
    obtain ⟨k, ml, hk, rfl, hml, hG, hF⟩ := hrel;have HBW2 := Bx.mk (hBww.trans (hG.out.bel.mono hBww.size));obtain ⟨av, cv, rfl, -⟩ := hG.out.form;by_cases hlt : k < N
    ·have hkl : k < l.length := by rw [<- HN.out]; exact hlt
     obtain ⟨b, o, rfl, hbl, c0, c1, c2, c3⟩ := HC.out wr HBW2.out k hkl;have HX := Bx.mk (show (nds l)[k]! = (l[k]).n from nds_at l k hkl);have HXA := Bx.mk (HL.out.at_ l[k] (zM hkl));obtain ⟨x, hx⟩ : ∃ x, x = l[k] := ⟨_, rfl⟩
     rw [<- hx] at c0 c1 c2 c3 HX HXA;have HMS := Bx.mk (moreK_succ (nds l) D S A k);rw [HX.out] at HMS;simp only [Sl.val] at c3
     clear hx hbl hkl;obtain ⟨W1, hW1⟩ : ∃ W1, W1 = wr.alloc (.cells #[.int .i64 x.n.d, .int .i64 x.n.p, .string (bstr x.n.pol), .slice x.u.ad x.u.n x.u.c] 111) := ⟨_, rfl⟩
     obtain ⟨bn, hbn⟩ : ∃ bn, bn = wr.heap.size := ⟨_, rfl⟩
     have hq1 : W1.heap[bn]? = some (.cells #[.int .i64 x.n.d, .int .i64 x.n.p, .string (bstr x.n.pol), .slice x.u.ad x.u.n x.u.c] 111 (0, 0)) := (by rw [hW1, hbn]; exact heap_alloc_new _ _);have HBA := Bx.mk (show Below wr.heap.size wr W1 by rw [hW1]; exact (Below.refl _ _).alloc (zR _) _);have HGA := Bx.mk (hG.out.below HBA.out);have hBA0 : Below w.heap.size w W1 := HBW2.out.trans (HBA.out.mono HBW2.out.size);have HBA0 := Bx.mk hBA0;go_upto_region 20 with fail
     rw [<- hW1, <- hbn];clear hW1 hbn c0 c1 c2 c3;have m0 := cell_of_row _ _ 0 _ _ _ hq1;have m1 := cell_of_row _ _ 1 _ _ _ hq1;have m2 := cell_of_row _ _ 2 _ _ _ hq1;have m3 := cell_of_row _ _ 3 _ _ _ hq1;simp only [List.getElem?_toArray, List.getElem?_cons_zero, List.getElem?_cons_succ] at m0 m1 m2 m3
     clear hq1;by_cases td : x.n.d < D - 1
     ·have tq : decide (x.n.d < D - 1) = true := zT td;rw [if_pos td, List.append_nil] at HMS;have HF2 := Bx.mk (show nds ml = moreK (nds l) D S A (k + 1) by rw [hF.out, HMS.out]);clear td;go_wp2_with fail
      go_roundw
      case rel => exact ⟨k + 1, ml, by omega, by go_num, hml, HGA, HF2⟩
      case measure => simp [intOf]; omega
     ·have tq : decide (x.n.d < D - 1) = false := zF td;rw [if_neg td] at HMS;clear td;obtain ⟨qm, hqm⟩ := HMF.out;have h24 := HB24.out.size;have h2W : Below w2.heap.size w2 W1 := (HB24.out.trans (hG.out.bel.mono h24)).trans (HBA.out.mono (Nat.le_trans h24 hG.out.bel.size));have h4W : Below w4.heap.size w4 W1 := hG.out.bel.trans (HBA.out.mono hG.out.bel.size);have HSX := Bx.mk (show ∀ p ∈ S, p.length <= 1000000 from fun p hp => HPX.out p (setB_mem.1 (HS.out ▸ hp)));have hch := children_any W1 x (.slice a2 S.length c2) S bm qm _ A (HXA.out.below hBA0) (HO2.out.rd.below h2W) hSl HSX.out (hqm.below h4W);rw [child_want] at hch;unfold nodV at hch;simp only [Sl.val] at hch
      obtain ⟨C, hC⟩ : ∃ C, C = childP (nds l) D x.n S A := ⟨_, rfl⟩
      rw [<- hC] at hch HMS
      have HCX := Bx.mk (show ∀ p ∈ C, p.length <= 1000000 from fun p hp => by
       rw [hC] at hp;rcases childP_mem.1 hp with ⟨q, -⟩ | ⟨-, q⟩
       ·exact HSX.out p q
       ·exact HXA.out.2.1.2 p q)
      have HCL := Bx.mk (show C.length <= 200000 by
       rw [hC]; unfold childP
       have h1 := setB_length (S.filter (wantP (nds l) D x.n) ++ if A then x.n.ex else []);have h2 := List.length_filter_le (wantP (nds l) D x.n) S;have h3 := HXA.out.2.1.1;rw [List.length_append] at h1;have h4 : (if A = true then x.n.ex else []).length <= x.n.ex.length := by split <;> simp
       omega)
      have HW1s := Bx.mk h4W.size;clear hqm h2W h4W h24 hC;go_wp2_with fail
      go_at_call 82;refine hch.mono ?_;rintro e w5 ⟨v5, rfl, ho5, hb5⟩;obtain ⟨a5, c5, rfl, -⟩ := ho5.rd.form;have HG5 := Bx.mk (HGA.out.below hb5)
      have HRI := Bx.mk (show RdIn w5 (fun k => (Value.slice av ml.length cv).ownBlock ≠ some k) encS (.slice a5 C.length c5) C from ⟨ho5.rd, fun j hj e => by
       have h1 := (ho5.lt j hj).1;have h2 := (HGA.out.to.own.lt j e).2
       omega⟩)
      obtain ⟨CL, hCL⟩ : ∃ n, n = C.length := ⟨_, rfl⟩
      have HCN := Bx.mk hCL;have hcl : CL <= 200000 := (by rw [hCL]; exact HCL.out);rw [<- hCL] at HRI |-;clear hch ho5 hb5 hBA0 m0 m1 m2 m3 hCL tq;go_wp2_with fail
      go_loopw [16, 80] (fun mv i wr2 => ∃ (j : Nat) (m2 : List Nt), j <= CL /\ i = .int .i64 j /\ m2.length <= 2048 + j /\ Bx (GT w4 w4.heap.size wr2 mv m2) /\ Bx (nds m2 = nds ml ++ (C.take j).map (newN D (k : Nat))) /\ Bx (RdIn wr2 (fun k => mv.ownBlock ≠ some k) encS (.slice a5 CL c5) C)) (fun _ i _ => CL - (intOf i).toNat)
      case atStart => exact ⟨0, ml, by omega, rfl, by omega, HG5, ⟨by simp⟩, HRI⟩
      case round =>
       clear HG5 HRI;obtain ⟨j, m2, hj, rfl, hm2, hG2, hF2, hRI⟩ := hrel;obtain ⟨av2, cv2, rfl, -⟩ := hG2.out.form;by_cases hjc : j < CL
       ·have hjl : j < C.length := by rw [<- HCN.out]; exact hjc
        obtain ⟨bx, ox, rfl, -, cx⟩ := (strs_cells hRI.out.1).2 wr (Below.refl _ _) j hjl;have HTK := Bx.mk (show C.take (j + 1) = C.take j ++ [C[j]] from zA hjl);have hpl2 := HCX.out C[j] (zM hjl);obtain ⟨p, hpp⟩ : ∃ p, p = C[j] := ⟨_, rfl⟩
        rw [<- hpp] at cx HTK hpl2;obtain ⟨y, hy, hyn, hys⟩ := new_node wr D (k : Nat) p hpl2;have hb2 : Below wr.heap.size wr ((wr.alloc (.cells #[.string (bstr p)] 9)).alloc (.cells #[.int .i64 D, .int .i64 (k : Nat), .string (bstr p), .slice (some ⟨wr.heap.size, 0, none⟩) 1 1] 111)) := ((Below.refl _ _).alloc (zR _) _).alloc (by simp) _;have HGB := Bx.mk (hG2.out.below hb2);have HRB := Bx.mk (RdIn.below hRI.out hb2)
        have HYN := Bx.mk (hyn.mono (S' := fun k => (Value.slice av2 m2.length cv2).ownBlock ≠ some k) fun k _ hk e => by
         have := (hG2.out.to.own.lt k e).2;have hk' : k = wr.heap.size := hk
         omega)
        have HYE := Bx.mk (show y.n = newN D (k : Nat) p by rw [hy]);have HYS := Bx.mk hys;have hm1 : m2.length + 1 <= maxLen := (by unfold maxLen; omega);have hmb : (m2.length + 1) * 56 <= 140737488355328 := (by omega);have hbz := HGB.out.sz;clear hpp hjl hpl2 hy hyn hys hb2;generalize hps : bstr p = PS at *;clear hps;go_wp2_with (at_builtin; refine wpList_append_any rfl _ _ _ rfl w4.heap.size 111 i0 _ 4 56 und_nodes hi0 hz0 hz1 hz2 rfl (by decide) _ m2.length (m2.flatMap encN) rfl HGB.out.to.own _ 1 ([y].flatMap encN) rfl HYS.out hm1 hmb hbz ?_)
        intro v9 w9 hapd;have HG9 := Bx.mk (HGB.out.apd (m := [y]) (fun z hz => by rw [zS] at hz; subst hz; exact HYN.out) rfl rfl rfl rfl hapd);have HR9 := Bx.mk (RdIn.apd HRB.out hapd);have HF9 := Bx.mk (show nds (m2 ++ [y]) = nds ml ++ (C.take (j + 1)).map (newN D (k : Nat)) by rw [HTK.out, List.map_append, <- List.append_assoc, <- hF2.out]; simp [nds, HYE.out]);clear hapd hm1 hmb hbz;go_wp2_with fail
        go_roundw
        case rel => exact ⟨j + 1, m2 ++ [y], by omega, by go_num, by simp; omega, HG9, HF9, HR9⟩
        case measure => simp [intOf]; omega
       ·obtain rfl : j = CL := by omega
        have HFF := Bx.mk (show nds m2 = moreK (nds l) D S A (k + 1) by rw [hF2.out, HMS.out, hF.out, HCN.out, List.take_length]);have HBWF := Bx.mk (show Below w.heap.size w wr from hBww.trans (hG2.out.bel.mono hBww.size));by_cases hlim : 2048 < N + m2.length
        ·have tl : decide ((N : Int) + (m2.length : Int) > 2048) = true := zT (by omega)
         have HFR := Bx.mk (show R = ([], 2) by
          rw [HRR.out];simp only [Bool.not_true, Bool.false_eq_true, if_false]
          have h1 := congrArg List.length HFF.out;rw [nds_len] at h1;have h2 := moreK_mono (nds l) D S A (show k + 1 <= N by omega)
          rw [<- HS.out, <- HA.out, nds_len, <- HN.out, if_pos (by omega)])
         clear hlim;go_wp2_with fail
         go_ret2;exact ⟨_, [], by rw [HFR.out]; rfl, TO.nil _ _, by rw [HFR.out]; rfl, HBWF.out⟩
        ·have tl : decide ((N : Int) + (m2.length : Int) > 2048) = false := zF (by omega);have hm2l : m2.length <= 2048 := (by omega);clear hlim;go_wp2_with fail
         go_roundw
         case rel => exact ⟨k + 1, m2, by omega, by go_num, hm2l, hG2, HFF⟩
         case measure => simp [intOf]; omega
    ·obtain rfl : N = k := by omega
     have hgr := grown_any wr (.slice ad l.length c) (.slice av ml.length cv) l ml (HL.out.below HBW2.out) hG.out.to.tl (by have := HN.out; omega) (by omega);rw [<- HN.out] at hgr;have HFF := Bx.mk (show nds ml = moreE (nds l) D ps cnt by rw [hF.out]; unfold moreE allE; rw [nds_len, <- HN.out, HA.out, HS.out]);clear hF hG;go_wp2_with fail
     go_at_call 83;refine hgr.mono ?_;rintro e w6 (⟨hlen, rfl, hb6⟩ | ⟨hlen, v6, l6, rfl, ho6, hn6, hb6⟩)
     ·have HFR := Bx.mk (show R = ([], 2) by
       rw [HRR.out];simp only [Bool.not_true, Bool.false_eq_true, if_false]
       have h1 := congrArg List.length HFF.out;unfold moreE allE at h1;rw [nds_len] at h1;rw [nds_len] at h1 |-
       rw [if_pos (by omega)])
      have HB6 := Bx.mk (HBW2.out.trans (hb6.mono HBW2.out.size));clear hgr hb6;go_wp2_with fail
      go_ret2;exact ⟨_, [], by rw [HFR.out]; rfl, TO.nil _ _, by rw [HFR.out]; rfl, HB6.out⟩
     ·rw [HFF.out] at hn6;have hlm : (nds l).length + (moreE (nds l) D ps cnt).length <= 2048 := (by rw [<- HFF.out, nds_len, nds_len]; exact hlen);obtain ⟨e1, e2, e3⟩ := enter_stay HVV.out h1' ps cnt hlm;rw [<- hn6] at e1 e2 e3
      have hl6 : l6.length <= 5000 := by
       have h1 := congrArg List.length hn6;rw [nds_len, sort_ins HVV.out.srt, insL_length] at h1;omega
      have hpr := prune_any w6 v6 l6 ho6.tl hl6 (fun i hi => e3.pge i (by rw [nds_len]; exact hi)) D;have HFR := Bx.mk (show R = (pruneP (nds l6) D, 0) by rw [HR.out]; exact e1);have HB6 := Bx.mk (HBW2.out.trans (hb6.mono HBW2.out.size));obtain ⟨a6, c6, rfl, -⟩ := ho6.own.rd.form;clear hgr hb6 ho6 hn6 hlm e1 e2 e3;go_wp2_with fail
      go_at_call 84;refine hpr.mono ?_;rintro e w7 ⟨v7, l7, rfl, ho7, hn7, hb7⟩;obtain ⟨a7, c7, rfl, -⟩ := ho7.own.rd.form;have HO7 := Bx.mk (ho7.mono HB6.out.size);have HN7 := Bx.mk hn7;have HB7 := Bx.mk (HB6.out.trans (hb7.mono HB6.out.size));clear hpr ho7 hn7 hb7;go_wp2_with fail
      go_ret2;exact ⟨_, l7, by rw [HFR.out]; rfl, HO7.out, by rw [HFR.out, HN7.out], HB7.out⟩
end Go.Proofs.YtmagjdocondmhaaGreat.Tr
