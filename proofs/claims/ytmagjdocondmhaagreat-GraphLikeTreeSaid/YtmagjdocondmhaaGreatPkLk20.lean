/- packed -/
import Derived.Test.YtmagjdocondmhaaGreatPkLk19
set_option linter.unusedVariables false
set_option linter.unusedSimpArgs false
set_option maxRecDepth 100000
set_option maxHeartbeats 64000000
namespace Go.Proofs.YtmagjdocondmhaaGreat.Tr
open Go Go.RowKit St
section
variable {t : List Nd} {E : Int}
theorem VS.d0 (V : VS t E) : ∀ i, i < t.length -> 0 <= t[i]!.d := by
 intro i
 induction i using Nat.strongRecOn with
 | _ i ih =>
  intro hi;by_cases h0 : i = 0
  ·subst h0; have := (V.root hi).1; omega
  ·obtain ⟨a, b⟩ := V.par i (by omega) hi;have hp : t[i]!.p.toNat < i := by omega
   have := ih _ hp (by omega);rw [V.dd i (by omega) hi];unfold pn;omega
theorem VS.up1 (V : VS t E) {i : Nat} (hi : i < t.length) (hp : 0 <= t[i]!.p) : t[i]!.p.toNat < i /\ t[i]!.d.toNat = t[t[i]!.p.toNat]!.d.toNat + 1 /\ t[i]!.d = t[t[i]!.p.toNat]!.d + 1 := by
 have h0 : 0 < i := by
  rcases Nat.eq_zero_or_pos i with q | q
  ·have := (V.root0 hi).2 q; omega
  ·exact q
 have h1 := V.par i h0 hi;have h2 := V.dd i h0 hi;unfold pn at h2;have h3 := V.d0 t[i]!.p.toNat (by omega);exact ⟨by omega, by omega, h2⟩
end
end Go.Proofs.YtmagjdocondmhaaGreat.Tr
namespace Go.Proofs.YtmagjdocondmhaaGreat.Tr.Gr
open Go Go.RowKit Slc St Mp Tr Rg
def lkV (g : List (List Vx)) (k : Nat) (p : B) : Prop := ∃ v ∈ g[k]!, v.pol = p
def lkE (g : List (List Vx)) (k : Nat) (q p : B) : Prop := ∃ v ∈ g[k + 1]!, v.pol = p /\ ∃ j : Nat, (j : Int) ∈ v.par /\ j < (g[k]!).length /\ ((g[k]!)[j]!).pol = q
theorem ord_mem {l : List Vx} (ho : OrdP l) {u v : Vx} (hu : u ∈ l) (hv : v ∈ l) (h : u.pol = v.pol) : u = v := by
 obtain ⟨i, hi, rfl⟩ := List.getElem_of_mem hu;obtain ⟨j, hj, rfl⟩ := List.getElem_of_mem hv;have := ord_one ho hi hj (by rw [getElem!_pos l i hi, getElem!_pos l j hj]; exact h);subst this; rfl
theorem keepT_at_iff {l : List Vx} {m : List Bool} {n : Nat} {v : Vx} : v ∈ keepT l m n ↔ ∃ i, i < n /\ m[i]! = true /\ v = l[i]! := by
 unfold keepT;rw [List.mem_map];constructor
 ·rintro ⟨i, hi, rfl⟩;obtain ⟨h1, h2⟩ := List.mem_filter.1 hi;exact ⟨i, List.mem_range.1 h1, h2, rfl⟩
 ·rintro ⟨i, h1, h2, rfl⟩;exact ⟨i, List.mem_filter.2 ⟨List.mem_range.2 h1, h2⟩, rfl⟩
theorem mem_lv {l : List Vx} {i : Nat} (hi : i < l.length) : l[i]! ∈ l := by rw [getElem!_pos l i hi]; exact zM hi
theorem PV.rgA {g : List (List Vx)} (h : PV g) (k : Nat) : ∀ v ∈ g[k + 1]!, ∀ x ∈ v.par, 0 <= x /\ x < ((g[k]!).length : Int) := by
 by_cases hk : k + 1 < g.length
 ·exact fun v hv => (h.fit k hk v hv).rg
 ·rw [getElem!_neg g (k + 1) hk]; exact fun v hv => by cases hv
theorem filt_vx {g : List (List Vx)} {k : Nat} (hk : k < g.length) {m : List Bool} {M : B -> Prop} (hM : ∀ i, i < (g[k]!).length -> (m[i]! = true ↔ M ((g[k]!)[i]!).pol)) (j : Nat) (p : B) : lkV (filtG g k m) j p ↔ lkV g j p /\ (j = k -> M p) := by
 unfold lkV;rw [filtG_at hk j];by_cases e : j = k
 ·subst e;rw [if_pos rfl];constructor
  ·rintro ⟨v, hv, rfl⟩;obtain ⟨i, h1, h2, rfl⟩ := keepT_at_iff.1 hv;exact ⟨⟨_, mem_lv h1, rfl⟩, fun _ => (hM i h1).1 h2⟩
  ·rintro ⟨⟨v, hv, rfl⟩, h2⟩;obtain ⟨i, hi, rfl⟩ := List.getElem_of_mem hv;have e2 := getElem!_pos (g[j]!) i hi;exact ⟨_, keepT_at_iff.2 ⟨i, hi, (hM i hi).2 (by rw [e2]; exact h2 rfl), rfl⟩, by rw [e2]⟩
 ·rw [if_neg e];by_cases e1 : j = k + 1
  ·rw [if_pos e1];constructor
   ·rintro ⟨v, hv, rfl⟩;obtain ⟨u, hu, rfl⟩ := List.mem_map.1 hv;exact ⟨⟨u, hu, rfl⟩, fun h => absurd h e⟩
   ·rintro ⟨⟨v, hv, rfl⟩, -⟩;exact ⟨renV m v, List.mem_map.2 ⟨v, hv, rfl⟩, rfl⟩
  ·rw [if_neg e1];exact ⟨fun h => ⟨h, fun h => absurd h e⟩, fun h => h.1⟩
theorem filt_ed {g : List (List Vx)} (hP : PV g) {k : Nat} (hk : k < g.length) {m : List Bool} {M : B -> Prop} (hM : ∀ i, i < (g[k]!).length -> (m[i]! = true ↔ M ((g[k]!)[i]!).pol)) (j : Nat) (q p : B) : lkE (filtG g k m) j q p ↔ lkE g j q p /\ (j = k -> M q) /\ (j + 1 = k -> M p) := by
 unfold lkE;rw [filtG_at hk (j + 1), filtG_at hk j];by_cases e : j = k
 ·subst e;rw [if_neg (by omega), if_pos rfl, if_pos rfl];constructor
  ·rintro ⟨v, hv, rfl, r, hr, hl, rfl⟩;obtain ⟨u, hu, rfl⟩ := List.mem_map.1 hv;unfold renV renP at hr;obtain ⟨x, hx, hxr⟩ := List.mem_map.1 hr;obtain ⟨hx1, hx2⟩ := List.mem_filter.1 hx;have hrg := hP.rgA j u hu x hx1;have hxl : x.toNat < (g[j]!).length := by omega
   obtain ⟨-, h5⟩ := keepT_at (l := g[j]!) (m := m) (p := x.toNat) (n := (g[j]!).length) hxl hx2;have e3 : r = rk m x.toNat := by omega
   rw [e3, h5];exact ⟨⟨u, hu, rfl, x.toNat, by rw [Int.toNat_of_nonneg hrg.1]; exact hx1, hxl, rfl⟩, fun _ => (hM _ hxl).1 hx2, fun h => by omega⟩
  ·rintro ⟨⟨v, hv, rfl, r, hr, hl, rfl⟩, h2, -⟩;have hm := (hM r hl).2 (h2 rfl);obtain ⟨h4, h5⟩ := keepT_at (l := g[j]!) (m := m) (p := r) (n := (g[j]!).length) hl hm;refine ⟨renV m v, List.mem_map.2 ⟨v, hv, rfl⟩, rfl, rk m r, ?_, h4, by rw [h5]⟩;unfold renV renP;exact List.mem_map.2 ⟨(r : Int), List.mem_filter.2 ⟨hr, by rw [Int.toNat_natCast]; exact hm⟩, by rw [Int.toNat_natCast]⟩
 ·rw [if_neg e];by_cases e1 : j + 1 = k
  ·rw [if_pos e1, if_neg (by omega)];subst e1;constructor
   ·rintro ⟨v, hv, rfl, h⟩;obtain ⟨i, h1, h2, rfl⟩ := keepT_at_iff.1 hv;exact ⟨⟨_, mem_lv h1, rfl, h⟩, fun h => absurd h e, fun _ => (hM i h1).1 h2⟩
   ·rintro ⟨⟨v, hv, rfl, h⟩, -, h2⟩;obtain ⟨i, hi, rfl⟩ := List.getElem_of_mem hv;have e2 := getElem!_pos (g[j + 1]!) i hi;exact ⟨_, keepT_at_iff.2 ⟨i, hi, (hM i hi).2 (by rw [e2]; exact h2 rfl), rfl⟩, by rw [e2], by rw [e2]; exact h⟩
  ·rw [if_neg e1, if_neg (by omega)];by_cases e2 : j = k + 1
   ·rw [if_pos e2]
    have key : ∀ r, r < (g[j]!).length -> (((g[j]!).map (renV m))[r]!).pol = ((g[j]!)[r]!).pol := fun r hr => by
     rw [getElem!_pos _ r (by rw [List.length_map]; exact hr), List.getElem_map, getElem!_pos _ r hr]; rfl
    rw [List.length_map];constructor
    ·rintro ⟨v, hv, hp, r, hr, hl, hq⟩;exact ⟨⟨v, hv, hp, r, hr, hl, by rw [<- key r hl]; exact hq⟩, fun h => absurd h e, fun h => absurd h e1⟩
    ·rintro ⟨⟨v, hv, hp, r, hr, hl, hq⟩, -⟩;exact ⟨v, hv, hp, r, hr, hl, by rw [key r hl]; exact hq⟩
   ·rw [if_neg e2];exact ⟨fun h => ⟨h, fun h => absurd h e, fun h => absurd h e1⟩, fun h => h.1⟩
structure RT (t : List Nd) (m : Nat -> Prop) (g : List (List Vx)) (D : Nat) : Prop where
 len : g.length = D + 1
 rt : ∀ p, lkV g 0 p -> 0 < t.length /\ m 0 /\ t[0]!.pol = p
 vx : ∀ i, i < t.length -> m i -> lkV g t[i]!.d.toNat t[i]!.pol
 up : ∀ i, i < t.length -> m i -> 0 <= t[i]!.p -> m t[i]!.p.toNat /\ lkE g t[t[i]!.p.toNat]!.d.toNat t[t[i]!.p.toNat]!.pol t[i]!.pol
 dn : ∀ i, i < t.length -> m i -> ∀ p, lkE g t[i]!.d.toNat t[i]!.pol p -> ∃ j, j < t.length /\ m j /\ t[j]!.p = (i : Int) /\ t[j]!.pol = p
section
variable {t : List Nd} {m : Nat -> Prop} {g : List (List Vx)} {D : Nat}
theorem markA_iff (P : PV g) {k : Nat} (i : Nat) (hi : i < (g[k + 1]!).length) : (marksA g[k + 1]!)[i]! = true ↔ ∃ q, lkE g k q ((g[k + 1]!)[i]!).pol := by
 rw [marksA_at _ i hi, decide_eq_true_eq];constructor
 ·intro h;obtain ⟨x, hx⟩ := List.exists_mem_of_length_pos h;have hr := P.rgA k _ (mem_lv hi) x hx;exact ⟨_, _, mem_lv hi, rfl, x.toNat, by rw [Int.toNat_of_nonneg hr.1]; exact hx, by omega, rfl⟩
 ·rintro ⟨q, v, hv, hp, j, hj, -⟩;rw [<- ord_mem (P.ord (k + 1)) hv (mem_lv hi) hp];exact List.length_pos_of_mem hj
theorem RT.fwd1 (V : VS t (D : Int)) (h : RT t m g D) (P : PV g) {k : Nat} (hk : k + 1 < g.length) : RT t m (filtG g (k + 1) (marksA g[k + 1]!)) D := by
 have hV := filt_vx hk (m := marksA g[k + 1]!) (M := fun p => ∃ q, lkE g k q p) (markA_iff P (k := k));have hE := filt_ed P hk (m := marksA g[k + 1]!) (M := fun p => ∃ q, lkE g k q p) (markA_iff P (k := k));refine ⟨by rw [filtG_len]; exact h.len, fun p hp => h.rt p ((hV 0 p).1 hp).1, fun i hi hm => (hV _ _).2 ⟨h.vx i hi hm, fun e => ?_⟩, fun i hi hm hp => ⟨(h.up i hi hm hp).1, (hE _ _ _).2 ⟨(h.up i hi hm hp).2, fun e => ?_, fun e => ?_⟩⟩, fun i hi hm p hp => h.dn i hi hm p ((hE _ _ _).1 hp).1⟩
 ·have hp : 0 <= t[i]!.p := by
   rcases Int.lt_or_le t[i]!.p 0 with q | q
   ·have h0 := (V.root0 hi).1 q;subst h0;have := (V.root hi).1; omega
   ·exact q
  obtain ⟨a, b, -⟩ := V.up1 hi hp;have := (h.up i hi hm hp).2;exact ⟨_, by rwa [show t[t[i]!.p.toNat]!.d.toNat = k by omega] at this⟩
 ·obtain ⟨a, b, -⟩ := V.up1 hi hp;have hm' := (h.up i hi hm hp).1;have hi' : t[i]!.p.toNat < t.length := by omega
  generalize t[i]!.p.toNat = r at *
  have hp' : 0 <= t[r]!.p := by
   rcases Int.lt_or_le t[r]!.p 0 with q | q
   ·have h0 := (V.root0 hi').1 q;subst h0;have := (V.root hi').1; omega
   ·exact q
  obtain ⟨a', b', -⟩ := V.up1 hi' hp';have := (h.up r hi' hm' hp').2;exact ⟨_, by rwa [show t[t[r]!.p.toNat]!.d.toNat = k by omega] at this⟩
 ·have := (h.up i hi hm hp).2;exact ⟨_, by rwa [show t[t[i]!.p.toNat]!.d.toNat = k by omega] at this⟩
theorem RT.fwd (V : VS t (D : Int)) (h : RT t m g D) (P : PV g) : ∀ n, n < g.length \/ n = 0 -> RT t m (fwdG g n) D
 | 0, _ => h
 | n + 1, hn => by
  rw [fwdG];exact (RT.fwd V h P n (by omega)).fwd1 V (fwdG_pv P n (by omega)) (by rw [fwdG_len]; omega)
theorem markB_iff (P : PV g) {k : Nat} (i : Nat) (hi : i < (g[k]!).length) : (marksB (g[k]!).length g[k + 1]!)[i]! = true ↔ ∃ p, lkE g k ((g[k]!)[i]!).pol p := by
 rw [marksB_at hi, List.any_eq_true];constructor
 ·rintro ⟨v, hv, hx⟩;exact ⟨_, v, hv, rfl, i, of_decide_eq_true hx, hi, rfl⟩
 ·rintro ⟨p, v, hv, -, j, hj, hl, he⟩;refine ⟨v, hv, zT ?_⟩;rw [<- ord_one (P.ord k) hl hi he]; exact hj
theorem RT.bwd1 {M : List Bool} (V : VS t (D : Int)) (PT : PM t (D : Int) t.length M) (P : PV g) {k : Nat} (hk : k < D)
  (h : RT t (fun i => ((k + 1 : Nat) : Int) <= t[i]!.d -> M[i]! = true) g D) : RT t (fun i => (k : Int) <= t[i]!.d -> M[i]! = true) (filtG g k (marksB (g[k]!).length g[k + 1]!)) D := by
 have hkl : k < g.length := by rw [h.len]; omega
 have hV := filt_vx hkl (m := marksB (g[k]!).length g[k + 1]!) (M := fun q => ∃ p, lkE g k q p) (markB_iff P (k := k));have hE := filt_ed P hkl (m := marksB (g[k]!).length g[k + 1]!) (M := fun q => ∃ p, lkE g k q p) (markB_iff P (k := k));have hcl : ∀ i, i < t.length -> M[i]! = true -> 0 <= t[i]!.p -> M[t[i]!.p.toNat]! = true := fun i hi hm hp => PT.cl i (by omega) hi hm hp
 -- a marked node of the level has an edge
 have hdown : ∀ i, i < t.length -> t[i]!.d = (k : Int) -> M[i]! = true -> ∃ p, lkE g k t[i]!.pol p := fun i hi hd hm => by
  rcases PT.why i hi hm with q | ⟨c, hc, hcm, hcp⟩
  ·omega
  ·have hp : 0 <= t[c]!.p := by omega
   have hu := (h.up c hc (fun _ => hcm) hp).2;rw [show t[c]!.p.toNat = i by omega, hd] at hu;exact ⟨_, by simpa using hu⟩
 -- a node of the level with an edge is marked
 have hup : ∀ i, i < t.length -> t[i]!.d = (k : Int) -> (∃ p, lkE g k t[i]!.pol p) -> M[i]! = true := fun i hi hd hp => by
  obtain ⟨p, hp⟩ := hp;obtain ⟨c, hc, hcm, hcp, -⟩ := h.dn i hi (fun q => by omega) p (by rw [hd]; simpa using hp);obtain ⟨a, b, b'⟩ := V.up1 hc (by omega);rw [show t[c]!.p.toNat = i by omega] at b b';have := hcl c hc (hcm (by omega)) (by omega);rwa [show t[c]!.p.toNat = i by omega] at this
 have hmono : ∀ (i : Nat), ((k : Int) <= t[i]!.d -> M[i]! = true) -> (((k + 1 : Nat) : Int) <= t[i]!.d -> M[i]! = true) := fun i hm hq => hm (by omega)
 refine ⟨by rw [filtG_len]; exact h.len, fun p hp => ?_, fun i hi hm => ?_, fun i hi hm hp => ?_, fun i hi hm p hp => ?_⟩
 ·obtain ⟨h1, h2⟩ := (hV 0 p).1 hp;obtain ⟨a, b, c⟩ := h.rt p h1;refine ⟨a, fun hd => ?_, c⟩;have hd0 := (V.root a).1;have hk0 : k = 0 := by omega
  exact hup 0 a (by omega) (by rw [c]; exact h2 hk0.symm)
 ·refine (hV _ _).2 ⟨h.vx i hi (hmono i hm), fun e => ?_⟩;have hd : t[i]!.d = (k : Int) := by have := V.d0 i hi; omega
  exact hdown i hi hd (hm (by omega))
 ·obtain ⟨a, b, b'⟩ := V.up1 hi hp;have hu := h.up i hi (hmono i hm) hp;refine ⟨fun hd => hcl i hi (hm (by omega)) hp, (hE _ _ _).2 ⟨hu.2, fun e => ?_, fun e => ?_⟩⟩
  ·rw [<- e]; exact ⟨_, hu.2⟩
  ·have hd : t[i]!.d = (k : Int) := by have := V.d0 i hi; omega
   exact hdown i hi hd (hm (by omega))
 ·obtain ⟨h1, h2, h3⟩ := (hE _ _ _).1 hp;obtain ⟨j, hj, hjm, hjp, rfl⟩ := h.dn i hi (hmono i hm) p h1;refine ⟨j, hj, fun hd => ?_, hjp, rfl⟩;by_cases hd2 : ((k + 1 : Nat) : Int) <= t[j]!.d
  ·exact hjm hd2
  ·obtain ⟨a, b, b'⟩ := V.up1 hj (by omega);rw [show t[j]!.p.toNat = i by omega] at b b';have hdj : t[j]!.d = (k : Int) := by omega
   exact hup j hj hdj (h3 (by omega))
theorem bwdG_pv (P : PV g) : ∀ n, n < g.length \/ n = 0 -> PV (bwdG g n)
 | 0, _ => P
 | n + 1, hn => by
  rw [bwdG];exact (bwdG_pv P n (by omega)).filt (by rw [bwdG_len]; omega) _
theorem RT.bwd {M : List Bool} (V : VS t (D : Int)) (PT : PM t (D : Int) t.length M) (P : PV g) (h : RT t (fun _ => True) g D) : ∀ n, n <= D -> RT t (fun i => ((D - n : Nat) : Int) <= t[i]!.d -> M[i]! = true) (bwdG g n) D
 | 0, _ => by
  rw [bwdG];have hM : ∀ i, i < t.length -> ((D : Int) <= t[i]!.d -> M[i]! = true) := fun i hi hd => PT.at_ i (by omega) hi (by have := V.le i hi; omega)
  refine ⟨h.len, fun p hp => ?_, fun i hi _ => h.vx i hi trivial, fun i hi _ hp => ⟨?_, (h.up i hi trivial hp).2⟩, fun i hi _ p hp => ?_⟩
  ·obtain ⟨a, b, c⟩ := h.rt p hp;exact ⟨a, hM 0 a, c⟩
  ·have := (V.up1 hi hp).1;exact hM _ (by omega)
  ·obtain ⟨j, a, b, c⟩ := h.dn i hi trivial p hp
   exact ⟨j, a, hM j a, c⟩
 | n + 1, hn => by
  have h1 := RT.bwd V PT P h n (by omega);obtain ⟨k, hk⟩ : ∃ k, k = D - (n + 1) := ⟨_, rfl⟩
  rw [show D - n = k + 1 by omega] at h1;have hl := h.len;rw [bwdG, show g.length - 2 - n = k by omega, <- hk];exact RT.bwd1 V PT (bwdG_pv P n (by omega)) (by omega) h1
theorem RT.keep {E : Int} (V : VS t E) (h : RT t m g D) {M : List Bool} (hM : ∀ i, i < t.length -> (M[i]! = true ↔ m i)) : RT (keepP t M) (fun _ => True) g D := by
 have hat : ∀ i, i < t.length -> M[i]! = true -> (keepP t M)[rk M i]! = kpN M t[i]! := fun i h1 h2 => keepP_at t _ h1 h2
 have hlt : ∀ i, i < t.length -> M[i]! = true -> rk M i < (keepP t M).length := fun i h1 h2 => by rw [keepP_length]; exact rk_lt M h1 h2
 have hpar : ∀ i, i < t.length -> M[i]! = true -> 0 <= t[i]!.p -> M[t[i]!.p.toNat]! = true /\ t[i]!.p.toNat < t.length /\ (kpN M t[i]!).p = ((rk M t[i]!.p.toNat : Nat) : Int) := fun i hi hm hp => by
  have h1 := (h.up i hi ((hM i hi).1 hm) hp).1;have h2 := (V.up1 hi hp).1;have h3 := (hM _ (by omega)).2 h1;refine ⟨h3, by omega, ?_⟩;unfold kpN;simp only
  rw [if_neg (by omega), if_pos h3]
 refine ⟨h.len, fun p hp => ?_, fun j hj _ => ?_, fun j hj _ hp => ⟨trivial, ?_⟩, fun j hj _ p hp => ?_⟩
 ·obtain ⟨a, b, c⟩ := h.rt p hp;have hm := (hM 0 a).2 b;have h1 := hat 0 a hm;have h2 := hlt 0 a hm;rw [rk_zero] at h1 h2;refine ⟨h2, trivial, ?_⟩;rw [h1]; exact c
 ·obtain ⟨i, h1, h2, h3, h4⟩ := keepP_from t M hj;rw [h4];exact h.vx i h1 ((hM i h1).1 h2)
 ·obtain ⟨i, h1, h2, h3, h4⟩ := keepP_from t M hj;rw [h4] at hp |-
  have hp' : 0 <= t[i]!.p := by
   unfold kpN at hp;simp only at hp
   by_cases q : t[i]!.p < 0
   ·rw [if_pos q] at hp; exact hp
   ·omega
  obtain ⟨a, b, c⟩ := hpar i h1 h2 hp';rw [c, Int.toNat_natCast, hat _ b a];exact (h.up i h1 ((hM i h1).1 h2) hp').2
 ·obtain ⟨i, h1, h2, h3, h4⟩ := keepP_from t M hj;rw [h4] at hp;obtain ⟨c, hc, hcm, hcp, hcq⟩ := h.dn i h1 ((hM i h1).1 h2) p hp;have hm := (hM c hc).2 hcm;obtain ⟨a, b, e⟩ := hpar c hc hm (by omega);refine ⟨rk M c, hlt c hc hm, trivial, ?_, ?_⟩
  ·rw [hat c hc hm, e, show t[c]!.p.toNat = i by omega, h3]
  ·rw [hat c hc hm]; exact hcq
def LK (t : List Nd) (g : List (List Vx)) (D : Nat) : Prop := (t = [] /\ g = []) \/ (t ≠ [] /\ g ≠ [] /\ RT t (fun _ => True) g D)
theorem LK.empty (h : LK t g D) : t = [] ↔ g = [] := by
 rcases h with ⟨h1, h2⟩ | ⟨h1, h2, -⟩
 ·exact ⟨fun _ => h2, fun _ => h1⟩
 ·exact ⟨fun h => absurd h h1, fun h => absurd h h2⟩
theorem RT.prune (V : VS t (D : Int)) (P : PV g) (h : RT t (fun _ => True) g D) : LK (pruneP t (D : Int)) (pruneG g) D := by
 have PT := V.pm (D : Int);have hl := h.len;have h1 := RT.fwd V h P (g.length - 1) (.inl (by omega));have h2 := RT.bwd V PT (fwdG_pv P (g.length - 1) (.inl (by omega))) h1 D (zR _);rw [Nat.sub_self] at h2
 have h3 : RT t (fun i => (pruneM t (D : Int))[i]! = true) (bwdG (fwdG g (g.length - 1)) D) D := by
  have hm : ∀ i, i < t.length -> (((0 : Nat) : Int) <= t[i]!.d -> (pruneM t (D : Int))[i]! = true) -> (pruneM t (D : Int))[i]! = true := fun i hi hq => hq (V.d0 i hi)
  refine ⟨h2.len, fun p hp => ?_, fun i hi hq => h2.vx i hi fun _ => hq, fun i hi hq hp => ?_, fun i hi hq p hp => ?_⟩
  ·obtain ⟨a, b, c⟩ := h2.rt p hp;exact ⟨a, hm 0 a b, c⟩
  ·obtain ⟨a, b⟩ := h2.up i hi (fun _ => hq) hp;have := (V.up1 hi hp).1;exact ⟨hm _ (by omega) a, b⟩
  ·obtain ⟨j, a, b, c⟩ := h2.dn i hi (fun _ => hq) p hp;exact ⟨j, a, hm j a b, c⟩
 have hp : pruneG g = if (bwdG (fwdG g (g.length - 1)) D).any (fun l => decide (l.length = 0)) then [] else bwdG (fwdG g (g.length - 1)) D := by
  unfold pruneG;rw [show g.length - 1 = D by omega]
 rw [hp];generalize bwdG (fwdG g (g.length - 1)) D = G at h3;have hk := h3.keep V (fun i _ => Iff.rfl);have hgl := h3.len;by_cases he : (G.any fun l => decide (l.length = 0)) = true
 ·rw [if_pos he];left
  refine ⟨?_, rfl⟩;rw [List.any_eq_true] at he;obtain ⟨l, hlm, hl0⟩ := he;obtain ⟨k, hkl, rfl⟩ := List.getElem_of_mem hlm;have hkD : k <= D := by omega
  have hk0 : G[k]! = [] := by rw [getElem!_pos G k hkl]; exact List.length_eq_zero_iff.1 (of_decide_eq_true hl0)
  rcases Classical.em (pruneP t (D : Int) = []) with q | q
  ·exact q
  ·exfalso
   unfold pruneP at q;have hpos : 0 < (keepP t (pruneM t (D : Int))).length := List.length_pos_iff.2 q;obtain ⟨i, hi, hm, -⟩ := keepP_from t _ hpos
   -- the root is marked
   have hroot : ∀ i, i < t.length -> (pruneM t (D : Int))[i]! = true -> (pruneM t (D : Int))[0]! = true := by
    intro i
    induction i using Nat.strongRecOn with
    | _ i ih =>
     intro hi hm;by_cases h0 : i = 0
     ·rw [<- h0]; exact hm
     ·have hp0 := V.par i (by omega) hi;exact ih t[i]!.p.toNat (by omega) (by omega) (PT.cl i (by omega) hi hm hp0.1)
   have hr := hroot i hi hm
   -- each depth has a marked node
   have hdep : ∀ d, d <= D -> ∃ i, i < t.length /\ (pruneM t (D : Int))[i]! = true /\ t[i]!.d = (d : Int) := by
    intro d
    induction d with
    | zero => intro _; exact ⟨0, by omega, hr, (V.root (by omega)).1⟩
    | succ d ih =>
     intro hd;obtain ⟨i, hi, hm, hdi⟩ := ih (by omega);rcases PT.why i hi hm with q | ⟨c, hc, hcm, hcp⟩
     ·omega
     ·obtain ⟨a, b, b'⟩ := V.up1 hc (by omega);rw [show t[c]!.p.toNat = i by omega] at b';exact ⟨c, hc, hcm, by omega⟩
   obtain ⟨i, hi, hm, hdi⟩ := hdep k hkD;obtain ⟨v, hv, -⟩ := h3.vx i hi hm;rw [hdi, Int.toNat_natCast, hk0] at hv
   cases hv
 ·rw [if_neg he];right
  refine ⟨?_, ?_, hk⟩
  ·intro q
   have h0 : G[0]! ≠ [] := fun e => he (by
    rw [List.any_eq_true]
    exact ⟨G[0]'(by omega), zM _, by rw [getElem!_pos G 0 (by omega)] at e; rw [e]; rfl⟩)
   obtain ⟨v, hv⟩ := List.exists_mem_of_ne_nil _ h0;have := (hk.rt v.pol ⟨v, hv, rfl⟩).1;unfold pruneP at q;rw [q] at this;exact absurd this (Nat.lt_irrefl 0)
  ·intro q;rw [q] at hgl;simp at hgl
end
end Go.Proofs.YtmagjdocondmhaaGreat.Tr.Gr
namespace Go.Proofs.YtmagjdocondmhaaGreat.Tr.Gr
open Go Go.RowKit Slc St Mp Tr Rg
section
variable {t : List Nd} {g : List (List Vx)} {D : Nat}
theorem app_lo {α : Type} [Inhabited α] {a b : List α} {i : Nat} (h : i < a.length) : (a ++ b)[i]! = a[i]! := by
 rw [getElem!_pos _ i (by rw [List.length_append]; omega), getElem!_pos a i h, List.getElem_append_left h]
theorem app_hi {α : Type} [Inhabited α] {a b : List α} {i : Nat} (h : a.length <= i) : (a ++ b)[i]! = b[i - a.length]! := by
 rw [List.getElem!_eq_getElem?_getD, List.getElem!_eq_getElem?_getD, List.getElem?_append_right h]
theorem app_end {α : Type} [Inhabited α] {a : List α} {x : α} : (a ++ [x])[a.length]! = x := by
 rw [app_hi (zR _), Nat.sub_self]; rfl
def lkN (ab L : List Vx) (q p : B) : Prop := ∃ v ∈ L, v.pol = p /\ ∃ j : Nat, (j : Int) ∈ v.par /\ j < ab.length /\ (ab[j]!).pol = q
theorem RT.snoc {S : List Nd} {L : List Vx} (V : VS t (D : Int)) (h : RT t (fun _ => True) g D)
  (hS : ∀ x ∈ S, x.d = ((D + 1 : Nat) : Int) /\ 0 <= x.p /\ x.p < (t.length : Int) /\ t[x.p.toNat]!.d = (D : Int))
  (hE : ∀ i, i < t.length -> t[i]!.d = (D : Int) -> ∀ p, (∃ x ∈ S, x.p = (i : Int) /\ x.pol = p) ↔ lkN g[D]! L t[i]!.pol p) :
  RT (t ++ S) (fun _ => True) (g ++ [L]) (D + 1) := by
 have hl := h.len;have glo : ∀ k, k <= D -> (g ++ [L])[k]! = g[k]! := fun k hk => app_lo (by omega)
 have ghi : (g ++ [L])[D + 1]! = L := by rw [<- hl]; exact app_end
 have gno : (g ++ [L])[D + 2]! = [] := by rw [getElem!_neg _ _ (by rw [List.length_append, List.length_singleton]; omega)]; rfl
 have eLo : ∀ k, k < D -> ∀ q p, lkE (g ++ [L]) k q p ↔ lkE g k q p := fun k hk q p => by
  unfold lkE; rw [glo (k + 1) hk, glo k (by omega)]
 have eHi : ∀ q p, lkE (g ++ [L]) D q p ↔ lkN g[D]! L q p := fun q p => by
  unfold lkE lkN; rw [ghi, glo D (zR _)]
 have tlo : ∀ i, i < t.length -> (t ++ S)[i]! = t[i]! := fun i hi => app_lo hi
 have thi : ∀ i, t.length <= i -> i < (t ++ S).length -> (t ++ S)[i]! ∈ S := fun i h1 h2 => by
  rw [app_hi h1];rw [List.length_append] at h2;exact mem_at.2 ⟨i - t.length, by omega, rfl⟩
 refine ⟨by rw [List.length_append, hl]; rfl, fun p hp => ?_, fun i hi _ => ?_, fun i hi _ hp => ⟨trivial, ?_⟩, fun i hi _ p hp => ?_⟩
 ·unfold lkV at hp;rw [glo 0 (by omega)] at hp;obtain ⟨a, -, c⟩ := h.rt p hp;exact ⟨by rw [List.length_append]; omega, trivial, by rw [tlo 0 a]; exact c⟩
 ·rcases Nat.lt_or_ge i t.length with q | q
  ·rw [tlo i q];have h1 := h.vx i q trivial;unfold lkV at h1 |-;rw [glo _ (by have := V.le i q; omega)]; exact h1
  ·have hx := thi i q hi;generalize (t ++ S)[i]! = x at hx;obtain ⟨a, b, c, d⟩ := hS x hx;obtain ⟨v, hv, hvp, -⟩ := (hE x.p.toNat (by omega) d x.pol).1 ⟨x, hx, by omega, rfl⟩;rw [a, Int.toNat_natCast];unfold lkV;rw [ghi];exact ⟨v, hv, hvp⟩
 ·rcases Nat.lt_or_ge i t.length with q | q
  ·rw [tlo i q] at hp |-;obtain ⟨a, b, b'⟩ := V.up1 q hp;rw [tlo _ (by omega)];refine (eLo _ ?_ _ _).2 (h.up i q trivial hp).2;have := V.le i q;omega
  ·have hx := thi i q hi;generalize (t ++ S)[i]! = x at hx hp;obtain ⟨a, b, c, d⟩ := hS x hx;rw [tlo _ (by omega), d, Int.toNat_natCast];exact (eHi _ _).2 ((hE x.p.toNat (by omega) d x.pol).1 ⟨x, hx, by omega, rfl⟩)
 ·rcases Nat.lt_or_ge i t.length with q | q
  ·rw [tlo i q] at hp;have hle := V.le i q;have hge := V.d0 i q;by_cases hd : t[i]!.d = (D : Int)
   ·rw [hd, Int.toNat_natCast] at hp;obtain ⟨x, hx, hxp, hxq⟩ := (hE i q hd p).2 ((eHi _ _).1 hp);obtain ⟨j, hj, rfl⟩ := mem_at.1 hx;refine ⟨t.length + j, by rw [List.length_append]; omega, trivial, ?_⟩;rw [app_hi (by omega), show t.length + j - t.length = j by omega];exact ⟨hxp, hxq⟩
   ·obtain ⟨j, a, -, b, c⟩ := h.dn i q trivial p ((eLo _ (by omega) _ _).1 hp);exact ⟨j, by rw [List.length_append]; omega, trivial, by rw [tlo j a]; exact b, by rw [tlo j a]; exact c⟩
  ·have hx := thi i q hi;generalize (t ++ S)[i]! = x at hx hp;obtain ⟨a, -⟩ := hS x hx;rw [a, Int.toNat_natCast] at hp;obtain ⟨v, hv, -⟩ := hp;rw [gno] at hv
   cases hv
theorem RT.surj (h : RT t (fun _ => True) g D) (V : VS t (D : Int)) (hg : gvalidB g = true) : ∀ k, k <= D -> ∀ p, lkV g k p -> ∃ i, i < t.length /\ t[i]!.d = (k : Int) /\ t[i]!.pol = p
 | 0, _, p, hp => by
  obtain ⟨a, -, c⟩ := h.rt p hp
  exact ⟨0, a, (V.root a).1, c⟩
 | k + 1, hk, p, hp => by
  obtain ⟨v, hv, rfl⟩ := hp;have hl := h.len;have h1 := gfit_par ((gvalid_at hg k (by omega)).2 v hv);obtain ⟨x, hx⟩ := List.exists_mem_of_length_pos h1.2.1;have hr := h1.2.2 x hx;obtain ⟨i, hi, hd, hq⟩ := RT.surj h V hg k (by omega) _ ⟨_, mem_lv (show x.toNat < (g[k]!).length by omega), rfl⟩
  obtain ⟨j, hj, -, hjp, hjq⟩ := h.dn i hi trivial v.pol (by
   rw [hd, Int.toNat_natCast, hq]
   exact ⟨v, hv, rfl, x.toNat, by rw [Int.toNat_of_nonneg hr.1]; exact hx, by omega, rfl⟩)
  obtain ⟨a, b, b'⟩ := V.up1 hj (by omega);rw [show t[j]!.p.toNat = i by omega] at b';exact ⟨j, hj, by omega, hjq⟩
def EX (t : List Nd) (g : List (List Vx)) : Prop := ∀ n ∈ t, ∀ v ∈ g[n.d.toNat]!, v.pol = n.pol -> v.ex = n.ex
theorem EX.prune (h : EX t g) (E : Int) : EX (pruneP t E) (pruneG g) := by
 intro n hn v hv hp;unfold pruneP at hn;obtain ⟨i, hi, hm, rfl⟩ := keep_mem.1 hn;have hni : t[i]! ∈ t := mem_at.2 ⟨i, hi, rfl⟩;have hv' : v ∈ (pruneG g)[t[i]!.d.toNat]! := hv;have hp' : v.pol = t[i]!.pol := hp
 show v.ex = t[i]!.ex
 rcases pruneG_sub g with e | ⟨-, e⟩
 ·rw [e] at hv'
  cases hv'
 ·obtain ⟨u, hu, e1, e2⟩ := (e t[i]!.d.toNat).2 v hv';rw [e2];exact h _ hni u hu (by rw [<- e1]; exact hp')
theorem exI_iff {l : List Vx} {p : B} {j : Nat} (hj : j < l.length) : (j : Int) ∈ exI l p ↔ p ∈ (l[j]!).ex := by
 constructor
 ·intro h;obtain ⟨i, -, hi, h⟩ := exJ_has h;rwa [show j = i by omega]
 ·intro h;unfold exI exJ;exact List.mem_flatMap.2 ⟨j, List.mem_range.2 hj, List.mem_map.2 ⟨p, List.mem_filter.2 ⟨h, by simp⟩, rfl⟩⟩
theorem exI_nil {l : List Vx} {p : B} : exI l p = [] ↔ ∀ j, j < l.length -> p ∉ (l[j]!).ex := by
 constructor
 ·intro h j hj hp;have := (exI_iff hj).2 hp;rw [h] at this; cases this
 ·intro h;rcases Classical.em (exI l p = []) with q | q
  ·exact q
  ·obtain ⟨x, hx⟩ := List.exists_mem_of_ne_nil _ q;obtain ⟨i, hi, -, hp⟩ := exJ_has hx;exact absurd hp (h i hi)
theorem parF_iff {l : List Vx} {ps : List B} {cnt : Bool} {p : B} {x : Int} : x ∈ parF l ps cnt p ↔ (x ∈ exI l p /\ ((cnt = true /\ anyP ∈ ps) \/ (p ∈ ps /\ p ≠ anyP))) \/ ((p ∈ ps /\ p ≠ anyP) /\ exI l p = [] /\ 0 <= fndP l anyP /\ x = fndP l anyP) := by
 unfold parF;by_cases hn : exI l p = []
 ·rw [hn];simp only [ne_eq, not_true_eq_false, decide_false, Bool.and_false, Bool.false_eq_true, if_false, List.not_mem_nil, false_and, false_or, true_and, Bool.and_eq_true, decide_eq_true_eq]
  by_cases hq : p ∈ ps /\ ¬ p = anyP
  ·rw [if_pos hq];by_cases hs : 0 <= fndP l anyP
   ·rw [if_pos hs, zS];exact ⟨fun h => ⟨hq, hs, h⟩, fun h => h.2.2⟩
   ·rw [if_neg hs];exact ⟨fun h => (by cases h), fun h => absurd h.2.1 hs⟩
  ·rw [if_neg hq];exact ⟨fun h => (by cases h), fun h => absurd h.1 hq⟩
 ·simp only [ne_eq, hn, not_false_eq_true, decide_true, Bool.and_true, if_true, Bool.and_eq_true, decide_eq_true_eq, false_and, and_false, or_false]
  by_cases hc : cnt = true /\ anyP ∈ ps
  ·rw [if_pos hc];exact ⟨fun h => ⟨h, .inl hc⟩, fun h => h.1⟩
  ·rw [if_neg hc];by_cases hq : p ∈ ps /\ ¬ p = anyP
   ·rw [if_pos hq];exact ⟨fun h => ⟨h, .inr hq⟩, fun h => h.1⟩
   ·rw [if_neg hq];exact ⟨fun h => (by cases h), fun h => by rcases h.2 with q | q; exact absurd q hc; exact absurd q hq⟩
theorem levP_ed {l : List Vx} {ps : List B} {cnt : Bool} {q p : B} : lkN l (levP l ps cnt) q p ↔ ∃ j : Nat, (j : Int) ∈ parF l ps cnt p /\ j < l.length /\ (l[j]!).pol = q := by
 unfold lkN levP;constructor
 ·rintro ⟨v, hv, rfl, h⟩;obtain ⟨s, hs, rfl⟩ := List.mem_map.1 hv;exact h
 ·rintro ⟨j, h1, h2, h3⟩;refine ⟨lvV (parF l ps cnt) p, List.mem_map.2 ⟨p, (keyL_mem _ _ _ _).2 ?_, rfl⟩, rfl, j, h1, h2, h3⟩;intro e; rw [e] at h1; cases h1
theorem lk_enter (V : VT t (D : Int)) (h : LK t g D) (hg : gvalidB g = true) (hx : EX t g) (ps : List B) (cnt : Bool) (hl : t.length + (moreE t ((D + 1 : Nat) : Int) ps cnt).length <= 2048) :
  LK (enterP t ((D + 1 : Nat) : Int) ps cnt).1 (genterP g ps cnt).1 (D + 1) /\ EX (enterP t ((D + 1 : Nat) : Int) ps cnt).1 (genterP g ps cnt).1 /\ (genterP g ps cnt).2 = 0 := by
 have V' : VT t (((D + 1 : Nat) : Int) - 1) := by rw [show ((D + 1 : Nat) : Int) - 1 = (D : Int) by omega]; exact V
 obtain ⟨he, -, VS'⟩ := enter_stay V' (by omega) ps cnt hl;rw [he];unfold genterP;rw [hg, if_pos rfl];rcases h with ⟨rfl, rfl⟩ | ⟨h1, h2, hR⟩
 ·rw [if_pos (show ([] : List (List Vx)).length = 0 from rfl)];refine ⟨.inl ⟨?_, rfl⟩, ?_, rfl⟩
  ·unfold moreE; rfl
  ·intro n hn;have : pruneP (sortT ([] ++ moreE [] ((D + 1 : Nat) : Int) ps cnt)) ((D + 1 : Nat) : Int) = [] := by unfold moreE; rfl
   have hn' : n ∈ pruneP (sortT ([] ++ moreE [] ((D + 1 : Nat) : Int) ps cnt)) ((D + 1 : Nat) : Int) := hn;rw [this] at hn'; cases hn'
 ·rw [if_neg (fun e => h2 (List.length_eq_zero_iff.1 e))];have hlen := hR.len
  have hA : ∀ n ∈ t, n.d < ((D + 1 : Nat) : Int) := fun n hn => by
   obtain ⟨i, hi, rfl⟩ := mem_at.1 hn;have := V.le i hi; omega
  have hgd := enter_gd V' ps cnt;obtain ⟨S, hS⟩ : ∃ S, S = insL [] (moreE t ((D + 1 : Nat) : Int) ps cnt) := ⟨_, rfl⟩
  have hsort : sortT (t ++ moreE t ((D + 1 : Nat) : Int) ps cnt) = t ++ S := by
   rw [sort_ins V.srt, hS];have := insL_lo hA (moreE t ((D + 1 : Nat) : Int) ps cnt) [] fun x h => (hgd x h).d
   rwa [List.append_nil] at this
  have hmem : ∀ x, x ∈ S ↔ x ∈ moreE t ((D + 1 : Nat) : Int) ps cnt := fun x => by
   rw [hS, insL_mem]; simp
  have hlast : g.length - 1 = D := by omega
  have hlq := valid_lq hg (k := D) (by omega)
  have hRT : RT (t ++ S) (fun _ => True) (g ++ [levP g[D]! ps cnt]) (D + 1) := by
   refine hR.snoc V.vs (fun x hx' => ?_) fun i hi hd p => ?_
   ·have G := hgd x ((hmem x).1 hx');exact ⟨G.d, G.p0, G.p1, by have := G.pd; omega⟩
   ·rw [levP_ed]
    -- the vertex of the node
    obtain ⟨v, hv, hvp⟩ := hR.vx i hi trivial;rw [hd, Int.toNat_natCast] at hv;have hve := hx t[i]! (mem_at.2 ⟨i, hi, rfl⟩) v (by rw [hd, Int.toNat_natCast]; exact hv) hvp;obtain ⟨j, hj, rfl⟩ := List.getElem_of_mem hv;rw [<- getElem!_pos (g[D]!) j hj] at hvp hve
    have hexp : expdP t ((D + 1 : Nat) : Int) p = false ↔ exI g[D]! p = [] := by
     rw [exI_nil];constructor
     ·intro h j hj hp;obtain ⟨i', hi', hd', hq'⟩ := hR.surj V.vs hg D (zR _) _ ⟨_, mem_lv hj, rfl⟩;have := hx t[i']! (mem_at.2 ⟨i', hi', rfl⟩) _ (by rw [hd', Int.toNat_natCast]; exact mem_lv hj) hq'.symm;rw [this] at hp;rw [expdP_iff.2 ⟨i', hi', by rw [hd']; omega, hp⟩] at h
      cases h
     ·intro h
      cases q : expdP t ((D + 1 : Nat) : Int) p with
      | false => rfl
      | true =>
       obtain ⟨i', hi', hd', hp'⟩ := expdP_iff.1 q;obtain ⟨u, hu, hup⟩ := hR.vx i' hi' trivial;have hd2 : t[i']!.d.toNat = D := (by omega);rw [hd2] at hu;have := hx t[i']! (mem_at.2 ⟨i', hi', rfl⟩) u (by rw [hd2]; exact hu) hup;obtain ⟨j', hj', rfl⟩ := List.getElem_of_mem hu;exact absurd (by rw [getElem!_pos _ j' hj', this]; exact hp') (h j' hj')
    have hL : (∃ x ∈ S, x.p = (i : Int) /\ x.pol = p) ↔ p ∈ childP t ((D + 1 : Nat) : Int) t[i]! (setB ps) (allE ps cnt) := by
     constructor
     ·rintro ⟨x, hx', hxp, rfl⟩;obtain ⟨i', hi', -, p', hp', rfl⟩ := moreK_mem.1 ((hmem x).1 hx');have : (i' : Int) = (i : Int) := hxp;obtain rfl : i' = i := (by omega);exact hp'
     ·intro hp';exact ⟨newN ((D + 1 : Nat) : Int) (i : Nat) p, (hmem _).2 (moreK_mem.2 ⟨i, hi, by omega, p, hp', rfl⟩), rfl, rfl⟩
    rw [hL, childP_mem, wantP_iff, setB_mem, hexp, <- hve, <- hvp]
    have hall : allE ps cnt = true ↔ cnt = true /\ anyP ∈ ps := by
     unfold allE; rw [Bool.and_eq_true, decide_eq_true_eq, setB_mem]
    rw [hall];constructor
    ·intro hh;refine ⟨j, parF_iff.2 ?_, hj, rfl⟩;rw [exI_iff hj];rcases hh with ⟨a, b, c | ⟨c, d⟩⟩ | ⟨a, b⟩
     ·exact .inl ⟨c, .inr ⟨a, b⟩⟩
     ·have := (fndP_is hlq.ord hj anyP).2 d;exact .inr ⟨⟨a, b⟩, c, by omega, this.symm⟩
     ·exact .inl ⟨b, .inl a⟩
    ·rintro ⟨j', hj1, hj2, hj3⟩;obtain rfl := ord_one hlq.ord hj2 hj hj3;rcases parF_iff.1 hj1 with ⟨a, b⟩ | ⟨a, b, c, d⟩
     ·rw [exI_iff hj] at a;rcases b with b | b
      ·exact .inr ⟨b, a⟩
      ·exact .inl ⟨b.1, b.2, .inl a⟩
     ·exact .inl ⟨a.1, a.2, .inr ⟨b, (fndP_is hlq.ord hj anyP).1 d.symm⟩⟩
  have hPV : PV (g ++ [levP g[g.length - 1]! ps cnt]) := by
   rw [hlast];have := (valid_pv hg).snoc (by omega) (levP_ord g[D]! ps cnt) (by rw [hlast]; exact levP_fit hlq ps cnt);exact this
  rw [hlast] at hPV |-;rw [hsort] at VS' |-;refine ⟨hRT.prune VS' hPV, EX.prune ?_ _, rfl⟩;intro n hn v hv hp;rcases List.mem_append.1 hn with q | q
  ·have hd := hA n q;obtain ⟨i, hi, rfl⟩ := mem_at.1 q;rw [app_lo (by omega)] at hv;exact hx _ q v hv hp
  ·obtain ⟨i, hi, -, p, -, rfl⟩ := moreK_mem.1 ((hmem n).1 q);have hv' : v ∈ (g ++ [levP g[D]! ps cnt])[((D + 1 : Nat) : Int).toNat]! := hv;rw [Int.toNat_natCast, <- hlen, app_end] at hv';unfold levP at hv';obtain ⟨s, -, rfl⟩ := List.mem_map.1 hv';have : s = p := hp;subst this;rfl
end
end Go.Proofs.YtmagjdocondmhaaGreat.Tr.Gr
namespace Go.Proofs.YtmagjdocondmhaaGreat.Tr.Gr
open Go Go.RowKit Slc St Mp Tr Rg
section
variable {ms : List (B × B)} {star above : Int}
theorem fndP_no {l : List Vx} {p : B} : ¬ 0 <= fndP l p ↔ ∀ v ∈ l, v.pol ≠ p := by
 rw [fndP_iff];exact ⟨fun h v hv e => h ⟨v, hv, e⟩, fun h ⟨v, hv, e⟩ => h v hv e⟩
theorem mapS_pol {l : List Vx} (ho : OrdP l) {p0 p : B} : (∃ v ∈ mapS ms star above l p0, v.pol = p) ↔ (∃ v ∈ l, v.pol = p) \/ (0 <= star /\ p = p0) := by
 unfold mapS;split
 ·rename_i h0
  obtain ⟨k, hk, he, hp, -⟩ := fndP_some h0;rw [he, Int.toNat_natCast];constructor
  ·rintro ⟨v, hv, rfl⟩;rcases (set_iff ho hk).1 hv with rfl | ⟨h1, -⟩
   ·exact .inl ⟨_, mem_lv hk, rfl⟩
   ·exact .inl ⟨v, h1, rfl⟩
  ·intro h
   have hn : (∃ v ∈ l, v.pol = p) := by
    rcases h with h | ⟨-, rfl⟩
    ·exact h
    ·exact ⟨_, mem_lv hk, hp⟩
   obtain ⟨v, hv, rfl⟩ := hn;by_cases e : v.pol = (l[k]!).pol
   ·exact ⟨_, (set_iff ho hk).2 (.inl rfl), e.symm⟩
   ·exact ⟨v, (set_iff ho hk).2 (.inr ⟨hv, e⟩), rfl⟩
 ·split
  ·rename_i h1
   constructor
   ·rintro ⟨v, hv, rfl⟩;rcases insV_iff.1 hv with h | rfl
    ·exact .inl ⟨v, h, rfl⟩
    ·exact .inr ⟨h1, rfl⟩
   ·rintro (⟨v, hv, rfl⟩ | ⟨-, rfl⟩)
    ·exact ⟨v, insV_iff.2 (.inl hv), rfl⟩
    ·exact ⟨_, insV_iff.2 (.inr rfl), rfl⟩
  ·rename_i h1
   exact ⟨fun h => .inl h, fun h => by rcases h with h | ⟨h, -⟩; exact h; exact absurd h h1⟩
theorem mapS_pp {l : List Vx} (ho : OrdP l) {p0 p : B} {x : Int} : (∃ v ∈ mapS ms star above l p0, v.pol = p /\ x ∈ v.par) ↔ (∃ v ∈ l, v.pol = p /\ x ∈ v.par) \/ (0 <= star /\ p = p0 /\ (∀ v ∈ l, v.pol ≠ p) /\ x = above) := by
 unfold mapS;split
 ·rename_i h0
  obtain ⟨k, hk, he, hp, -⟩ := fndP_some h0;rw [he, Int.toNat_natCast];constructor
  ·rintro ⟨v, hv, rfl, hx⟩;rcases (set_iff ho hk).1 hv with rfl | ⟨h1, -⟩
   ·exact .inl ⟨_, mem_lv hk, rfl, hx⟩
   ·exact .inl ⟨v, h1, rfl, hx⟩
  ·intro h
   have hn : (∃ v ∈ l, v.pol = p /\ x ∈ v.par) := by
    rcases h with h | ⟨-, rfl, h, -⟩
    ·exact h
    ·exact absurd hp (h _ (mem_lv hk))
   obtain ⟨v, hv, rfl, hx⟩ := hn;by_cases e : v.pol = (l[k]!).pol
   ·obtain rfl := ord_mem ho hv (mem_lv hk) e;exact ⟨_, (set_iff ho hk).2 (.inl rfl), rfl, hx⟩
   ·exact ⟨v, (set_iff ho hk).2 (.inr ⟨hv, e⟩), rfl, hx⟩
 ·rename_i h0
  rw [fndP_no] at h0;split
  ·rename_i h1
   constructor
   ·rintro ⟨v, hv, rfl, hx⟩;rcases insV_iff.1 hv with h | rfl
    ·exact .inl ⟨v, h, rfl, hx⟩
    ·exact .inr ⟨h1, rfl, h0, List.mem_singleton.1 hx⟩
   ·rintro (⟨v, hv, rfl, hx⟩ | ⟨-, rfl, -, rfl⟩)
    ·exact ⟨v, insV_iff.2 (.inl hv), rfl, hx⟩
    ·exact ⟨_, insV_iff.2 (.inr rfl), rfl, List.mem_singleton.2 rfl⟩
  ·rename_i h1
   exact ⟨fun h => .inl h, fun h => by rcases h with h | ⟨h, -⟩; exact h; exact absurd h h1⟩
theorem mapL_pp : ∀ (ks : List B) {l : List Vx} (ho : OrdP l) {p : B} {x : Int}, (∃ v ∈ mapL ms star above l ks, v.pol = p /\ x ∈ v.par) ↔ (∃ v ∈ l, v.pol = p /\ x ∈ v.par) \/ (0 <= star /\ p ∈ ks /\ (∀ v ∈ l, v.pol ≠ p) /\ x = above)
 | [], l, ho, p, x => by
  show (∃ v ∈ l, v.pol = p /\ x ∈ v.par) ↔ _
  exact ⟨fun h => .inl h, fun h => by rcases h with h | ⟨-, h, -⟩; exact h; cases h⟩
 | p0 :: ks, l, ho, p, x => by
  have ih := mapL_pp ks (mapS_ord (ms := ms) (star := star) (above := above) ho p0) (p := p) (x := x)
  show (∃ v ∈ mapL ms star above (mapS ms star above l p0) ks, v.pol = p /\ x ∈ v.par) ↔ _
  rw [ih, mapS_pp ho];have hpol := mapS_pol (ms := ms) (star := star) (above := above) ho (p0 := p0) (p := p);constructor
  ·rintro ((h | ⟨a, b, c, d⟩) | ⟨a, b, c, d⟩)
   ·exact .inl h
   ·exact .inr ⟨a, by rw [b]; exact List.mem_cons_self, c, d⟩
   ·exact .inr ⟨a, List.mem_cons_of_mem _ b, fun v hv e => by
     obtain ⟨u, hu, hup⟩ := hpol.2 (.inl ⟨v, hv, e⟩)
     exact c u hu hup, d⟩
  ·rintro (h | ⟨a, b, c, d⟩)
   ·exact .inl (.inl h)
   ·by_cases e : p = p0
    ·exact .inl (.inr ⟨a, e, c, d⟩)
    ·refine .inr ⟨a, (List.mem_cons.1 b).resolve_left e, fun v hv hvp => ?_, d⟩;rcases hpol.1 ⟨v, hv, hvp⟩ with ⟨u, hu, hup⟩ | ⟨-, h⟩
     ·exact c u hu hup
     ·exact e h
theorem mapS_exx {l : List Vx} (ho : OrdP l) {p : B} {v : Vx} (hv : v ∈ mapS ms star above l p) : (v.pol = p -> v.ex = subL ms p) /\ (v.pol ≠ p -> v ∈ l) := by
 unfold mapS at hv;split at hv
 ·rename_i h0
  obtain ⟨k, hk, he, hp, -⟩ := fndP_some h0;rw [he, Int.toNat_natCast] at hv;rcases (set_iff ho hk).1 hv with rfl | ⟨h1, h2⟩
  ·exact ⟨fun _ => rfl, fun h => absurd hp h⟩
  ·exact ⟨fun h => absurd (h.trans hp.symm) h2, fun _ => h1⟩
 ·rename_i h0
  rw [fndP_no] at h0;split at hv
  ·rcases insV_iff.1 hv with h | rfl
   ·exact ⟨fun e => absurd e (h0 v h), fun _ => h⟩
   ·exact ⟨fun _ => rfl, fun h => absurd rfl h⟩
  ·exact ⟨fun e => absurd e (h0 v hv), fun _ => hv⟩
theorem mapL_exx : ∀ (ks : List B) {l : List Vx} (ho : OrdP l) {v : Vx}, v ∈ mapL ms star above l ks -> (v.pol ∈ ks -> v.ex = subL ms v.pol) /\ (v.pol ∉ ks -> v ∈ l)
 | [], l, ho, v, hv => ⟨fun h => (by cases h), fun _ => hv⟩
 | p :: ks, l, ho, v, hv => by
  obtain ⟨h1, h2⟩ := mapL_exx ks (mapS_ord (ms := ms) (star := star) (above := above) ho p) (v := v) hv;refine ⟨fun h => ?_, fun h => ?_⟩
  ·by_cases q : v.pol ∈ ks
   ·exact h1 q
   ·have e := (List.mem_cons.1 h).resolve_right q;rw [(mapS_exx ho (h2 q)).1 e, e]
  ·rw [List.mem_cons, not_or] at h;exact (mapS_exx ho (h2 h.2)).2 h.1
end
section
variable {t : List Nd} {g : List (List Vx)} {D : Nat}
theorem take_lo {k n : Nat} (h : k < n) (hn : n <= g.length) : (g.take n)[k]! = g[k]! := by
 rw [getElem!_pos _ k (by rw [List.length_take]; omega), getElem!_pos g k (by omega), List.getElem_take]
theorem take_hi {k n : Nat} (h : n <= k) : (g.take n)[k]! = [] := by
 rw [getElem!_neg _ k (by rw [List.length_take]; omega)]; rfl
theorem set_end {L : List Vx} (h : g.length = D + 2) : g.set (D + 1) L = g.take (D + 1) ++ [L] := by
 apply get_ext
 ·rw [zL, List.length_append, List.length_take, List.length_singleton]; omega
 ·intro j hj;rw [zL] at hj;rw [set_at2 (by omega)];have hl : (g.take (D + 1)).length = D + 1 := by rw [List.length_take]; omega
  by_cases e : j = D + 1
  ·rw [if_pos e, e];have := app_end (a := g.take (D + 1)) (x := L);rw [hl] at this; exact this.symm
  ·rw [if_neg e, app_lo (by omega), take_lo (by omega) (by omega)]
theorem RT.init {A L : List Nd} (V : VS (A ++ L) ((D + 1 : Nat) : Int)) (h : RT (A ++ L) (fun _ => True) g (D + 1)) (hA : ∀ n ∈ A, n.d < ((D + 1 : Nat) : Int)) (hL : ∀ n ∈ L, n.d = ((D + 1 : Nat) : Int)) : RT A (fun _ => True) (g.take (D + 1)) D := by
 have hl := h.len;have tlo : ∀ i, i < A.length -> (A ++ L)[i]! = A[i]! := fun i hi => app_lo hi
 have hmem : ∀ i, i < A.length -> A[i]! ∈ A := fun i hi => mem_at.2 ⟨i, hi, rfl⟩
 have hal : A.length <= (A ++ L).length := by rw [List.length_append]; omega
 refine ⟨by rw [List.length_take]; omega, fun p hp => ?_, fun i hi _ => ?_, fun i hi _ hp => ⟨trivial, ?_⟩, fun i hi _ p hp => ?_⟩
 ·unfold lkV at hp;rw [take_lo (by omega) (by omega)] at hp;obtain ⟨a, -, c⟩ := h.rt p hp;have hr := (V.root a).1
  have h0 : 0 < A.length := by
   rcases Nat.eq_zero_or_pos A.length with q | q
   ·obtain rfl := List.length_eq_zero_iff.1 q;have := hL _ (mem_at.2 ⟨0, a, rfl⟩);rw [List.nil_append] at hr; omega
   ·exact q
  exact ⟨h0, trivial, by rw [tlo 0 h0] at c; exact c⟩
 ·have h1 := h.vx i (by omega) trivial;rw [tlo i hi] at h1;unfold lkV at h1 |-;rw [take_lo (by have := hA _ (hmem i hi); omega) (by omega)]; exact h1
 ·have hp' : 0 <= ((A ++ L)[i]!).p := by rw [tlo i hi]; exact hp
  have h1 := (h.up i (by omega) trivial hp').2;obtain ⟨a, b, b'⟩ := V.up1 (show i < (A ++ L).length by omega) hp';rw [tlo i hi] at h1 a b b';rw [tlo _ (by omega)] at h1 b b';have hd := hA _ (hmem i hi);unfold lkE at h1 |-;rw [take_lo (by omega) (by omega), take_lo (by omega) (by omega)]; exact h1
 ·have hd := hA _ (hmem i hi);have hd0 := V.d0 i (by omega);rw [tlo i hi] at hd0;by_cases q : A[i]!.d.toNat + 1 < D + 1
  ·have hp' : lkE g (A ++ L)[i]!.d.toNat (A ++ L)[i]!.pol p := by
    rw [tlo i hi];unfold lkE at hp |-;rw [take_lo q (by omega), take_lo (by omega) (by omega)] at hp; exact hp
   obtain ⟨j, hj, -, hjp, hjq⟩ := h.dn i (by omega) trivial p hp';obtain ⟨a, b, b'⟩ := V.up1 hj (by omega);rw [show (A ++ L)[j]!.p.toNat = i by omega, tlo i hi] at b'
   have hjA : j < A.length := by
    rcases Nat.lt_or_ge j A.length with q2 | q2
    ·exact q2
    ·have := hL (A ++ L)[j]! (by
      rw [app_hi q2];rw [List.length_append] at hj
      exact mem_at.2 ⟨j - A.length, by omega, rfl⟩)
     omega
   rw [tlo j hjA] at hjp hjq;exact ⟨j, hjA, trivial, hjp, hjq⟩
  ·obtain ⟨v, hv, -⟩ := hp;rw [take_hi (by omega)] at hv
   cases hv
theorem RT.last {A L : List Nd} (V : VS (A ++ L) ((D + 1 : Nat) : Int)) (h : RT (A ++ L) (fun _ => True) g (D + 1)) (hA : ∀ n ∈ A, n.d < ((D + 1 : Nat) : Int)) (hL : ∀ n ∈ L, n.d = ((D + 1 : Nat) : Int)) {i : Nat} (hi : i < A.length) (hd : A[i]!.d = (D : Int)) (p : B) :
  (∃ x ∈ L, x.p = (i : Int) /\ x.pol = p) ↔ lkN g[D]! g[D + 1]! A[i]!.pol p := by
 have tlo : ∀ i, i < A.length -> (A ++ L)[i]! = A[i]! := fun i hi => app_lo hi
 have hal : A.length <= (A ++ L).length := by rw [List.length_append]; omega
 constructor
 ·rintro ⟨x, hx, hxp, rfl⟩;obtain ⟨j, hj, rfl⟩ := mem_at.1 hx;have hjl : A.length + j < (A ++ L).length := by rw [List.length_append]; omega
  have e : (A ++ L)[A.length + j]! = L[j]! := by rw [app_hi (by omega), show A.length + j - A.length = j by omega]
  have h1 := (h.up (A.length + j) hjl trivial (by rw [e]; omega)).2;rw [e, show L[j]!.p.toNat = i by omega, tlo i hi, hd, Int.toNat_natCast] at h1;exact h1
 ·intro hp;obtain ⟨j, hj, -, hjp, hjq⟩ := h.dn i (by omega) trivial p (by rw [tlo i hi, hd, Int.toNat_natCast]; exact hp);obtain ⟨a, b, b'⟩ := V.up1 hj (by omega);rw [show (A ++ L)[j]!.p.toNat = i by omega, tlo i hi, hd] at b'
  have hjA : A.length <= j := by
   rcases Nat.lt_or_ge j A.length with q2 | q2
   ·have := hA (A ++ L)[j]! (by rw [tlo j q2]; exact mem_at.2 ⟨j, q2, rfl⟩);omega
   ·exact q2
  rw [app_hi hjA] at hjp hjq;rw [List.length_append] at hj;exact ⟨L[j - A.length]!, mem_at.2 ⟨j - A.length, by omega, rfl⟩, hjp, hjq⟩
theorem set_ed {L : List Vx} (h : g.length = D + 2) (k : Nat) (q p : B) : lkE (g.set (D + 1) L) k q p ↔ (k = D /\ lkN g[D]! L q p) \/ (k ≠ D /\ lkE g k q p) := by
 unfold lkE lkN;rw [set_at2 (by omega), set_at2 (by omega)];by_cases e : k = D
 ·subst e;rw [if_pos rfl, if_neg (by omega)];exact ⟨fun h => .inl ⟨rfl, h⟩, fun h => by rcases h with h | h; exact h.2; exact absurd rfl h.1⟩
 ·rw [if_neg (by omega)];by_cases e2 : k = D + 1
  ·subst e2;rw [if_pos rfl];have : g[D + 1 + 1]! = [] := by rw [getElem!_neg _ _ (by omega)]; rfl
   rw [this];constructor
   ·rintro ⟨v, hv, -⟩; cases hv
   ·rintro (⟨h, -⟩ | ⟨-, v, hv, -⟩)
    ·exact absurd h e
    ·cases hv
  ·rw [if_neg e2];exact ⟨fun h => .inr ⟨e, h⟩, fun h => by rcases h with h | h; exact absurd h.1 e; exact h.2⟩
theorem lk_mapno (V : VT t ((D + 1 : Nat) : Int)) (hR : RT t (fun _ => True) g (D + 1)) (hg : gvalidB g = true) (hx : EX t g) (ms : List (B × B)) :
  LK (pruneP (keepP t (mapM t ((D + 1 : Nat) : Int) ms)) ((D + 1 : Nat) : Int)) (pruneG (g.set (D + 1) (gmapL g ms false))) (D + 1) /\ EX (pruneP (keepP t (mapM t ((D + 1 : Nat) : Int) ms)) ((D + 1 : Nat) : Int)) (pruneG (g.set (D + 1) (gmapL g ms false))) := by
 have hl := hR.len;obtain ⟨-, -, VK⟩ := map_stay_no V (by omega) ms;have hpv := gmapL_pv hg (by omega) ms false;rw [show g.length - 1 = D + 1 by omega] at hpv
 have hgm : gmapL g ms false = (g[D + 1]!).filter fun v => !decide (v.pol ∈ srcL ms) := by
  unfold gmapL;rw [show g.length - 1 = D + 1 by omega]; rfl
 have hlk : ∀ q p, lkN g[D]! (gmapL g ms false) q p ↔ lkE g D q p /\ p ∉ srcL ms := fun q p => by
  rw [hgm];unfold lkN lkE;constructor
  ·rintro ⟨v, hv, rfl, h⟩;obtain ⟨h1, h2⟩ := List.mem_filter.1 hv;exact ⟨⟨v, h1, rfl, h⟩, by simpa using h2⟩
  ·rintro ⟨⟨v, hv, rfl, h⟩, h2⟩;exact ⟨v, List.mem_filter.2 ⟨hv, by simpa using h2⟩, rfl, h⟩
 have hm : ∀ i, i < t.length -> ((mapM t ((D + 1 : Nat) : Int) ms)[i]! = true ↔ (t[i]!.d < ((D + 1 : Nat) : Int) \/ t[i]!.pol ∉ srcL ms)) := fun i hi => by
  have : (mapM t ((D + 1 : Nat) : Int) ms)[i]! = (decide (t[i]!.d < ((D + 1 : Nat) : Int)) || !decide (t[i]!.pol ∈ srcL ms)) := mapP_at _ hi;rw [this]; simp [-List.getElem!_eq_getElem?_getD]
 have h1 : RT t (fun i => t[i]!.d < ((D + 1 : Nat) : Int) \/ t[i]!.pol ∉ srcL ms) (g.set (D + 1) (gmapL g ms false)) (D + 1) := by
  refine ⟨by rw [zL]; exact hl, fun p hp => ?_, fun i hi hq => ?_, fun i hi hq hp => ?_, fun i hi hq p hp => ?_⟩
  ·unfold lkV at hp;rw [set_at2 (by omega), if_neg (by omega)] at hp;obtain ⟨a, -, c⟩ := hR.rt p hp;exact ⟨a, .inl (by have := (V.root a).1; omega), c⟩
  ·have h2 := hR.vx i hi trivial;unfold lkV at h2 |-;rw [set_at2 (by omega)];by_cases e : t[i]!.d.toNat = D + 1
   ·rw [if_pos e, hgm];rw [e] at h2;obtain ⟨v, hv, hvp⟩ := h2;refine ⟨v, List.mem_filter.2 ⟨hv, ?_⟩, hvp⟩;rw [hvp];simpa using hq.resolve_left (by omega)
   ·rw [if_neg e]; exact h2
  ·obtain ⟨a, b, b'⟩ := V.vs.up1 hi hp;have hle := V.le i hi;refine ⟨.inl (by omega), (set_ed (by omega) _ _ _).2 ?_⟩;have h2 := (hR.up i hi trivial hp).2;by_cases e : t[t[i]!.p.toNat]!.d.toNat = D
   ·rw [e] at h2;exact .inl ⟨e, (hlk _ _).2 ⟨h2, hq.resolve_left (by omega)⟩⟩
   ·exact .inr ⟨e, h2⟩
  ·rcases (set_ed (by omega) _ _ _).1 hp with ⟨e, h2⟩ | ⟨e, h2⟩
   ·obtain ⟨h3, h4⟩ := (hlk _ _).1 h2;obtain ⟨j, a, -, b, rfl⟩ := hR.dn i hi trivial p (by rw [e]; exact h3);exact ⟨j, a, .inr h4, b, rfl⟩
   ·obtain ⟨j, a, -, b, c⟩ := hR.dn i hi trivial p h2;obtain ⟨a', b', b''⟩ := V.vs.up1 a (by omega);rw [show t[j]!.p.toNat = i by omega] at b' b'';have hle := V.le j a;have h0 := V.vs.d0 i hi;exact ⟨j, a, .inl (by omega), b, c⟩
 have h2 := h1.keep V.vs hm;refine ⟨h2.prune VK hpv, EX.prune ?_ _⟩;intro n hn v hv hp;obtain ⟨i, hi, hmi, rfl⟩ := keep_mem.1 hn;have hv' : v ∈ (g.set (D + 1) (gmapL g ms false))[t[i]!.d.toNat]! := hv
 have hv2 : v ∈ g[t[i]!.d.toNat]! := by
  rw [set_at2 (by omega)] at hv';by_cases e : t[i]!.d.toNat = D + 1
  ·rw [if_pos e, hgm] at hv';rw [e]; exact (List.mem_filter.1 hv').1
  ·rw [if_neg e] at hv'; exact hv'
 exact hx t[i]! (mem_at.2 ⟨i, hi, rfl⟩) v hv2 hp
theorem lk_mapyes (V : VT t ((D + 1 : Nat) : Int)) (hR : RT t (fun _ => True) g (D + 1)) (hg : gvalidB g = true) (hx : EX t g) (ms : List (B × B)) (hl : t.length + (mapMore t ((D + 1 : Nat) : Int) ms).length <= 2048) :
  LK (pruneP (sortT (t.map (nowN ms ((D + 1 : Nat) : Int)) ++ mapMore t ((D + 1 : Nat) : Int) ms)) ((D + 1 : Nat) : Int)) (pruneG (g.set (D + 1) (gmapL g ms true))) (D + 1) /\ EX (pruneP (sortT (t.map (nowN ms ((D + 1 : Nat) : Int)) ++ mapMore t ((D + 1 : Nat) : Int) ms)) ((D + 1 : Nat) : Int)) (pruneG (g.set (D + 1) (gmapL g ms true))) := by
 have hgl := hR.len;obtain ⟨-, -, VK⟩ := map_stay V (by omega) ms hl;have hpv := gmapL_pv hg (by omega) ms true;rw [show g.length - 1 = D + 1 by omega] at hpv
 have hgm : gmapL g ms true = mapL ms (fndP g[D + 1]! anyP) (fndP g[D]! anyP) g[D + 1]! (srcL ms) := by
  unfold gmapL;rw [show g.length - 1 = D + 1 by omega, show g.length - 2 = D by omega]; rfl
 have hlq := valid_lq hg (k := D + 1) (by omega);have hlq0 := valid_lq hg (k := D) (by omega);obtain ⟨A, L, hAL, hAL2, VA, hA, hL, hgd, hgm2⟩ := map_gd V (by omega) ms
 have hLd : ∀ n ∈ L, n.d = ((D + 1 : Nat) : Int) := fun n hn => by
  have := (hgd _ (List.mem_map.2 ⟨n, hn, rfl⟩)).d;rwa [(now_d ms _ n).1] at this
 obtain ⟨S, hS⟩ : ∃ S, S = insL (L.map (nowN ms ((D + 1 : Nat) : Int))) (mapMore t ((D + 1 : Nat) : Int) ms) := ⟨_, rfl⟩
 have hsort : sortT (t.map (nowN ms ((D + 1 : Nat) : Int)) ++ mapMore t ((D + 1 : Nat) : Int) ms) = A ++ S := by
  have hsrt : Srt ltT (A ++ L.map (nowN ms ((D + 1 : Nat) : Int))) := by
   unfold Srt;refine List.pairwise_append.2 ⟨VA.lt.srt, ?_, fun a ha b hb => ?_⟩
   ·rw [List.pairwise_map];exact hL.imp fun {a b} h => by rw [lt_now]; exact ltT_ord.asym h
   ·have := hA a ha;have := (hgd b hb).d;rw [ltT_false]; exact .inl (by omega)
  rw [hAL2, sort_ins hsrt, insL_lo hA _ _ fun x h => (hgm2 x h).d, hS]
 have hmem : ∀ x, x ∈ S ↔ x ∈ L.map (nowN ms ((D + 1 : Nat) : Int)) \/ x ∈ mapMore t ((D + 1 : Nat) : Int) ms := fun x => by rw [hS, insL_mem]
 have hV := V.vs;rw [hAL] at hR hV;have hI := hR.init hV hA hLd;have hal : A.length <= t.length := by rw [hAL, List.length_append]; omega
 have tlo : ∀ i, i < A.length -> t[i]! = A[i]! := fun i hi => by rw [hAL]; exact app_lo hi
 have hRT : RT (A ++ S) (fun _ => True) (g.take (D + 1) ++ [gmapL g ms true]) (D + 1) := by
  have VA' : VS A (D : Int) := ⟨VA.root, VA.par, VA.dd, fun i hi => by have := hA _ (mem_at.2 ⟨i, hi, rfl⟩); omega, VA.lt, VA.asc, VA.sp, VA.ns⟩;refine hI.snoc VA' (fun x hx' => ?_) fun i hi hd p => ?_
  ·have G : Gd A ((D + 1 : Nat) : Int) x := by
    rcases (hmem x).1 hx' with h | h
    ·exact hgd x h
    ·exact hgm2 x h
   exact ⟨G.d, G.p0, G.p1, by have := G.pd; omega⟩
  ·rw [take_lo (by omega) (by omega)];have hold := hR.last hV hA hLd hi hd p
   -- new nodes
   have hfound : foundP t ((D + 1 : Nat) : Int) p = false ↔ ∀ v ∈ g[D + 1]!, v.pol ≠ p := by
    constructor
    ·intro h v hv e;have hR' : RT t (fun _ => True) g (D + 1) := (by rw [hAL]; exact hR);obtain ⟨i', hi', hd', hq'⟩ := hR'.surj V.vs hg (D + 1) (zR _) p ⟨v, hv, e⟩;unfold foundP at h;rw [List.any_eq_false] at h;exact h _ (mem_at.2 ⟨i', hi', rfl⟩) (by rw [zF (by omega), hq']; simp)
    ·intro h;unfold foundP;rw [List.any_eq_false];intro n hn hq;simp only [Bool.and_eq_true, Bool.not_eq_true', decide_eq_false_iff_not, decide_eq_true_eq] at hq
     obtain ⟨i', hi', rfl⟩ := mem_at.1 hn;have hR' : RT t (fun _ => True) g (D + 1) := (by rw [hAL]; exact hR);obtain ⟨v, hv, hvp⟩ := hR'.vx i' hi' trivial;have := V.le i' hi';rw [show t[i']!.d.toNat = D + 1 by omega] at hv;exact h v hv (hvp.trans hq.2)
   have hnew : (∃ x ∈ mapMore t ((D + 1 : Nat) : Int) ms, x.p = (i : Int) /\ x.pol = p) ↔ (p ∈ srcL ms /\ foundP t ((D + 1 : Nat) : Int) p = false /\ lastS t ((D + 1 : Nat) : Int) t.length = (i : Int)) := by
    unfold mapMore;constructor
    ·rintro ⟨x, hx', hxp, rfl⟩;obtain ⟨q, hq, rfl⟩ := List.mem_map.1 hx';obtain ⟨h1, h2⟩ := List.mem_filter.1 hq;simp only [Bool.and_eq_true, Bool.not_eq_true', decide_eq_true_eq] at h2
     exact ⟨h1, h2.2, hxp⟩
    ·rintro ⟨h1, h2, h3⟩;refine ⟨_, List.mem_map.2 ⟨p, List.mem_filter.2 ⟨h1, ?_⟩, rfl⟩, h3, rfl⟩;rw [h2, h3, zT (by omega)]; rfl
   have hstar : lastS t ((D + 1 : Nat) : Int) t.length = (i : Int) ↔ (0 <= fndP g[D + 1]! anyP /\ A[i]!.pol = anyP) := by
    rw [lastS_eq V t.length (zR _)];have hR' : RT t (fun _ => True) g (D + 1) := (by rw [hAL]; exact hR);have hslt := spAt_lt t ((D + 1 : Nat) : Int);constructor
    ·intro h;by_cases hs : 0 <= spAt t ((D + 1 : Nat) : Int) /\ spAt t ((D + 1 : Nat) : Int) < ((t.length : Nat) : Int)
     ·rw [if_pos hs] at h;have hsi : (spAt t ((D + 1 : Nat) : Int)).toNat < t.length := (by omega);obtain ⟨h3, h4⟩ := (V.spAt_iff (i := (spAt t ((D + 1 : Nat) : Int)).toNat) hsi).1 (by omega);generalize (spAt t ((D + 1 : Nat) : Int)).toNat = s at *
      have hs0 : 0 < s := by
       rcases Nat.eq_zero_or_pos s with q | q
       ·subst q; have := (V.root hsi).1; omega
       ·exact q
      have hsp := (V.sp s hs0 hsi h4).1;unfold pn at hsp;rw [h, Int.toNat_natCast, tlo i hi] at hsp;refine ⟨?_, hsp⟩;obtain ⟨v, hv, hvp⟩ := hR'.vx s hsi trivial;rw [h3, Int.toNat_natCast] at hv;exact fndP_has hv (hvp.trans h4)
     ·rw [if_neg hs] at h; omega
    ·rintro ⟨h1, h2⟩;obtain ⟨v, hv, hvp⟩ := fndP_iff.1 h1;obtain ⟨s, hs, hsd, hsq⟩ := hR'.surj V.vs hg (D + 1) (zR _) anyP ⟨v, hv, hvp⟩;have hsp := (V.spAt_iff hs).2 ⟨hsd, hsq⟩;rw [if_pos (by omega), hsp, Int.toNat_natCast]
     have hs0 : 0 < s := by
      rcases Nat.eq_zero_or_pos s with q | q
      ·subst q; have := (V.root hs).1; omega
      ·exact q
     have hpp := (V.sp s hs0 hs hsq).1;have hpr := V.par s hs0 hs;have hdd := V.dd s hs0 hs;unfold pn at hpp hdd;have hone := V.one t[s]!.p.toNat i (by omega) (by omega) (by rw [tlo i hi]; omega) hpp (by rw [tlo i hi]; exact h2);omega
   have hL2 : (∃ x ∈ S, x.p = (i : Int) /\ x.pol = p) ↔ lkN g[D]! g[D + 1]! A[i]!.pol p \/ (p ∈ srcL ms /\ (∀ v ∈ g[D + 1]!, v.pol ≠ p) /\ 0 <= fndP g[D + 1]! anyP /\ A[i]!.pol = anyP) := by
    rw [<- hold, <- hfound, <- hstar, <- hnew];constructor
    ·rintro ⟨x, hx', hxp, hxq⟩;rcases (hmem x).1 hx' with h | h
     ·obtain ⟨y, hy, rfl⟩ := List.mem_map.1 h;obtain ⟨-, e2, e3⟩ := now_d ms ((D + 1 : Nat) : Int) y;exact .inl ⟨y, hy, by rw [<- e2]; exact hxp, by rw [<- e3]; exact hxq⟩
     ·exact .inr ⟨x, h, hxp, hxq⟩
    ·rintro (⟨y, hy, hyp, hyq⟩ | ⟨x, hx', hxp, hxq⟩)
     ·obtain ⟨-, e2, e3⟩ := now_d ms ((D + 1 : Nat) : Int) y;exact ⟨_, (hmem _).2 (.inl (List.mem_map.2 ⟨y, hy, rfl⟩)), by rw [e2]; exact hyp, by rw [e3]; exact hyq⟩
     ·exact ⟨x, (hmem x).2 (.inr hx'), hxp, hxq⟩
   rw [hL2, hgm];constructor
   ·rintro (⟨v, hv, rfl, j, hj1, hj2, hj3⟩ | ⟨h1, h2, h3, h4⟩)
    ·obtain ⟨u, hu, hup, hux⟩ := (mapL_pp (ms := ms) (star := fndP g[D + 1]! anyP) (above := fndP g[D]! anyP) (srcL ms) hlq.ord).2 (.inl ⟨v, hv, rfl, hj1⟩);exact ⟨u, hu, hup, j, hux, hj2, hj3⟩
    ·obtain ⟨u, hu, hup, hux⟩ := (mapL_pp (ms := ms) (star := fndP g[D + 1]! anyP) (above := fndP g[D]! anyP) (srcL ms) hlq.ord).2 (.inr ⟨h3, h1, h2, rfl⟩);have hab := gvalid_star hg (k := D) (by omega) h3;obtain ⟨j, hj, he, hjp, -⟩ := fndP_some hab;rw [he] at hux;exact ⟨u, hu, hup, j, hux, hj, by rw [hjp, h4]⟩
   ·rintro ⟨u, hu, hup, j, hj1, hj2, hj3⟩;rcases (mapL_pp (ms := ms) (star := fndP g[D + 1]! anyP) (above := fndP g[D]! anyP) (srcL ms) hlq.ord).1 ⟨u, hu, hup, hj1⟩ with ⟨v, hv, hvp, hvx⟩ | ⟨h1, h2, h3, h4⟩
    ·exact .inl ⟨v, hv, hvp, j, hvx, hj2, hj3⟩
    ·exact .inr ⟨h2, h3, h1, by rw [<- hj3]; exact (fndP_is hlq0.ord hj2 anyP).1 h4.symm⟩
 rw [<- set_end (L := gmapL g ms true) hgl] at hRT;rw [hsort] at VK |-;refine ⟨hRT.prune VK hpv, EX.prune ?_ _⟩;intro n hn v hv hp;rcases List.mem_append.1 hn with q | q
 ·have hd := hA n q;rw [set_at2 (by omega), if_neg (by omega)] at hv;exact hx n (by rw [hAL]; exact List.mem_append.2 (.inl q)) v hv hp
 ·have hd : n.d = ((D + 1 : Nat) : Int) := by
   rcases (hmem n).1 q with h | h
   ·exact (hgd n h).d
   ·exact (hgm2 n h).d
  rw [hd, Int.toNat_natCast, set_at2 (by omega), if_pos rfl, hgm] at hv;obtain ⟨m1, m2⟩ := mapL_exx (srcL ms) hlq.ord hv;rcases (hmem n).1 q with h | h
  ·obtain ⟨y, hy, rfl⟩ := List.mem_map.1 h;obtain ⟨-, -, e3⟩ := now_d ms ((D + 1 : Nat) : Int) y;rw [e3] at hp;have hyd := hLd y hy;unfold nowN;rw [zF (by omega)];by_cases hs : y.pol ∈ srcL ms
   ·rw [zT hs]
    show v.ex = subL ms y.pol
    rw [m1 (by rw [hp]; exact hs), hp]
   ·rw [zF hs]
    show v.ex = y.ex
    refine hx y (by rw [hAL]; exact List.mem_append.2 (.inr hy)) v ?_ hp;rw [hyd, Int.toNat_natCast];exact m2 (by rw [hp]; exact hs)
  ·unfold mapMore at h;obtain ⟨s, hs, rfl⟩ := List.mem_map.1 h;have hs1 := (List.mem_filter.1 hs).1;have hp' : v.pol = s := hp
   show v.ex = subL ms s
   rw [m1 (by rw [hp']; exact hs1), hp']
theorem lk_map (V : VT t ((D + 1 : Nat) : Int)) (h : LK t g (D + 1)) (hg : gvalidB g = true) (hx : EX t g) (ms : List (B × B)) (ok : Bool) (hl : ok = true -> t.length + (mapMore t ((D + 1 : Nat) : Int) ms).length <= 2048) :
  LK (mapP t ((D + 1 : Nat) : Int) ms ok).1 (gmapP g ms ok).1 (D + 1) /\ EX (mapP t ((D + 1 : Nat) : Int) ms ok).1 (gmapP g ms ok).1 /\ (gmapP g ms ok).2 = 0 := by
 have e1 : mapP t ((D + 1 : Nat) : Int) ms ok = (if ok then pruneP (sortT (t.map (nowN ms ((D + 1 : Nat) : Int)) ++ mapMore t ((D + 1 : Nat) : Int) ms)) ((D + 1 : Nat) : Int) else pruneP (keepP t (mapM t ((D + 1 : Nat) : Int) ms)) ((D + 1 : Nat) : Int), 0) := by
  cases ok with
  | false => exact (map_stay_no V (by omega) ms).1
  | true => exact (map_stay V (by omega) ms (hl rfl)).1
 rw [e1];rcases h with ⟨rfl, rfl⟩ | ⟨h1, h2, hR⟩
 ·have e2 : gmapP [] ms ok = ([], 0) := rfl;rw [e2]
  have e3 : (if ok then pruneP (sortT (([] : List Nd).map (nowN ms ((D + 1 : Nat) : Int)) ++ mapMore [] ((D + 1 : Nat) : Int) ms)) ((D + 1 : Nat) : Int) else pruneP (keepP [] (mapM [] ((D + 1 : Nat) : Int) ms)) ((D + 1 : Nat) : Int)) = [] := by
   cases ok with
   | false => rfl
   | true =>
    have : mapMore [] ((D + 1 : Nat) : Int) ms = [] := by
     unfold mapMore
     have : (srcL ms).filter (fun q => decide (lastS [] ((D + 1 : Nat) : Int) ([] : List Nd).length >= 0) && !foundP [] ((D + 1 : Nat) : Int) q) = [] := by
      rw [List.filter_eq_nil_iff];intro q _
      show ¬ (decide ((-1 : Int) >= 0) && !foundP [] ((D + 1 : Nat) : Int) q) = true
      simp
     rw [this]; rfl
    rw [this]; rfl
  rw [e3];exact ⟨.inl ⟨rfl, rfl⟩, (fun n hn => by cases hn), rfl⟩
 ·have hgl := hR.len
  have e2 : gmapP g ms ok = (pruneG (g.set (D + 1) (gmapL g ms ok)), 0) := by
   unfold gmapP;rw [hg, zF (by omega)];simp only [Bool.not_false, Bool.and_true, if_true]
   rw [if_neg (by omega), show g.length - 1 = D + 1 by omega]
  rw [e2]
  cases ok with
  | false =>
   obtain ⟨a, b⟩ := lk_mapno V hR hg hx ms
   exact ⟨a, b, rfl⟩
  | true =>
   obtain ⟨a, b⟩ := lk_mapyes V hR hg hx ms (hl rfl);exact ⟨a, b, rfl⟩
end
end Go.Proofs.YtmagjdocondmhaaGreat.Tr.Gr
namespace Go.Proofs.YtmagjdocondmhaaGreat.Tr.Gr
open Go Go.RowKit Slc St Mp Tr Rg
theorem pols_at {a b : List Vx} (h : a.map (·.pol) = b.map (·.pol)) {i : Nat} (hi : i < b.length) : (a[i]!).pol = (b[i]!).pol := by
 have hl := len_pols h;have e1 : (a.map (·.pol))[i]'(by rw [List.length_map]; omega) = (a[i]'(by omega)).pol := List.getElem_map _;have e2 : (b.map (·.pol))[i]'(by rw [List.length_map]; omega) = (b[i]'hi).pol := List.getElem_map _;rw [getElem!_pos a i (by omega), getElem!_pos b i hi, <- e1, <- e2];simp only [h]
theorem FitP.pols {v : Vx} {ab ab' : List Vx} (h : FitP v ab) (e : ab'.map (·.pol) = ab.map (·.pol)) : FitP v ab' := by
 refine ⟨h.ex, h.asc, fun p hp => by rw [len_pols e]; exact h.rg p hp, fun hs => ?_, h.ns⟩;obtain ⟨h1, h2, h3⟩ := h.sp hs;refine ⟨h1, fun p hp => ?_, h3⟩;have hr := h.rg p hp;have := h2 p hp;unfold specV at this |-;rw [pols_at e (by omega)]; exact this
theorem FitP.wan {v : Vx} {ab : List Vx} (h : FitP v ab) (ps : List B) (st : Int) : FitP (wanV ps st v) ab := by
 cases hs : specV v with
 | true => rw [wan_spec ps st hs]; exact h
 | false =>
  unfold wanV;split
  ·exact ⟨h.ex, h.asc.filter _, fun p hp => h.rg p (List.mem_filter.1 hp).1, fun hs' => (by have : specV v = true := hs'; rw [hs] at this; cases this), fun _ => h.ns hs⟩
  ·exact h
theorem PV.cut {g : List (List Vx)} (h : PV g) (ps : List B) (n : Nat) : PV (r1G ps g n) := by
 refine ⟨?_, fun k => ?_, fun k hk v hv => ?_⟩
 ·by_cases hl : 0 < g.length
  ·rw [r1G_at ps g n hl, if_neg (by omega)]; exact h.top
  ·right; rw [getElem!_neg _ 0 (by rw [r1G_len]; exact hl)]; rfl
 ·by_cases hk : k < g.length
  ·exact ord_pols (r1G_pols ps g n hk) (h.ord k)
  ·rw [getElem!_neg _ k (by rw [r1G_len]; exact hk)]; exact List.Pairwise.nil
 ·rw [r1G_len] at hk
  have h1 : ∃ u ∈ g[k + 1]!, ∃ st, v = u \/ v = wanV ps st u := by
   rw [r1G_at ps g n hk] at hv;split at hv
   ·unfold wanL at hv;obtain ⟨u, hu, rfl⟩ := List.mem_map.1 hv;exact ⟨u, hu, _, .inr rfl⟩
   ·exact ⟨v, hv, 0, .inl rfl⟩
  obtain ⟨u, hu, st, e⟩ := h1;have hf := (h.fit k hk u hu).pols (r1G_pols ps g n (k := k) (by omega));rcases e with rfl | rfl
  ·exact hf
  ·exact hf.wan ps st
theorem cut_ed {g : List (List Vx)} (P : PV g) (ps : List B) (k : Nat) (q p : B) : lkE (r1G ps g (g.length - 1)) k q p ↔ lkE g k q p /\ ¬ (q = anyP /\ p ≠ anyP /\ p ∉ ps) := by
 by_cases hk : k + 1 < g.length
 ·unfold lkE;have hp := r1G_pols ps g (g.length - 1) (k := k) (by omega);have hl := len_pols hp;rw [r1G_at ps g (g.length - 1) hk, if_pos (by omega), Nat.add_sub_cancel, hl];have ho := P.ord k;constructor
  ·rintro ⟨v, hv, rfl, j, hj, hjl, hq⟩;rw [pols_at hp hjl] at hq;unfold wanL at hv;obtain ⟨u, hu, rfl⟩ := List.mem_map.1 hv;rw [wanV_pol];refine ⟨⟨u, hu, rfl, j, wanV_par hj, hjl, hq⟩, ?_⟩;rintro ⟨h1, h2, h3⟩;rw [wanV_eq, show specV u = false from zF h2, zF h3] at hj;simp only [Bool.or_false, Bool.false_eq_true, if_false] at hj
   have h4 := (List.mem_filter.1 hj).2;rw [(fndP_is ho hjl anyP).2 (hq.trans h1)] at h4;simp at h4
  ·rintro ⟨⟨v, hv, rfl, j, hj, hjl, hq⟩, hn⟩;refine ⟨wanV ps (fndP g[k]! anyP) v, List.mem_map.2 ⟨v, hv, rfl⟩, wanV_pol _ _ _, j, ?_, hjl, by rw [pols_at hp hjl]; exact hq⟩;rw [wanV_eq];split
   ·exact hj
   ·rename_i h1
    simp only [Bool.or_eq_true, decide_eq_true_eq, not_or] at h1
    refine List.mem_filter.2 ⟨hj, ?_⟩;simp only [Bool.not_eq_true', decide_eq_false_iff_not]
    intro e;have h2 := (fndP_is ho hjl anyP).1 e.symm;refine hn ⟨hq.symm.trans h2, fun e2 => h1.1 (by unfold specV; exact zT e2), h1.2⟩
 ·unfold lkE;rw [getElem!_neg _ (k + 1) (by rw [r1G_len]; exact hk), getElem!_neg g (k + 1) hk];constructor
  ·rintro ⟨v, hv, -⟩; cases hv
  ·rintro ⟨⟨v, hv, -⟩, -⟩; cases hv
section
variable {t : List Nd} {g : List (List Vx)} {D : Nat}
theorem rresC_iff {ps : List B} {i : Nat} : rresC t ps false i = true ↔ i = 0 \/ ¬ ((pn t t[i]!).pol = anyP /\ t[i]!.pol ≠ anyP /\ t[i]!.pol ∉ ps) := by
 unfold rresC spec;simp only [Bool.false_or, Bool.or_eq_true, decide_eq_true_eq, Bool.not_eq_true', decide_eq_false_iff_not]
 generalize (pn t t[i]!).pol = a;generalize t[i]!.pol = b;constructor
 ·rintro (h | h | h | h)
  ·exact .inl h
  ·exact .inr fun ⟨h1, _, _⟩ => h h1
  ·exact .inr fun ⟨_, h2, _⟩ => h2 h
  ·exact .inr fun ⟨_, _, h3⟩ => h3 h
 ·rintro (h | h)
  ·exact .inl h
  ·by_cases h1 : a = anyP
   ·by_cases h2 : b = anyP
    ·exact .inr (.inr (.inl h2))
    ·by_cases h3 : b ∈ ps
     ·exact .inr (.inr (.inr h3))
     ·exact absurd ⟨h1, h2, h3⟩ h
   ·exact .inr (.inl h1)
theorem RT.cut (V : VT t (D : Int)) (h : RT t (fun _ => True) g D) (P : PV g) (ps : List B) : RT t (fun i => (dnM t (rresC t ps false) t.length)[i]! = true) (r1G ps g (g.length - 1)) D := by
 have hl := h.len
 have hV : ∀ k p, lkV (r1G ps g (g.length - 1)) k p ↔ lkV g k p := fun k p => by
  by_cases hk : k < g.length
  ·have e := r1G_pols ps g (g.length - 1) hk;unfold lkV;constructor
   ·rintro ⟨v, hv, rfl⟩;have : v.pol ∈ (g[k]!).map (·.pol) := (by rw [<- e]; exact List.mem_map.2 ⟨v, hv, rfl⟩);obtain ⟨u, hu, hup⟩ := List.mem_map.1 this;exact ⟨u, hu, hup⟩
   ·rintro ⟨v, hv, rfl⟩;have : v.pol ∈ ((r1G ps g (g.length - 1))[k]!).map (·.pol) := (by rw [e]; exact List.mem_map.2 ⟨v, hv, rfl⟩);obtain ⟨u, hu, hup⟩ := List.mem_map.1 this;exact ⟨u, hu, hup⟩
  ·unfold lkV;rw [getElem!_neg _ k (by rw [r1G_len]; exact hk), getElem!_neg g k hk]
 have hdn := fun {i} (hi : i < t.length) => V.dn (rresC t ps false) hi
 refine ⟨by rw [r1G_len]; exact hl, fun p hp => ?_, fun i hi _ => (hV _ _).2 (h.vx i hi trivial), fun i hi hm hp => ?_, fun i hi hm p hp => ?_⟩
 ·obtain ⟨a, -, c⟩ := h.rt p ((hV _ _).1 hp);refine ⟨a, ?_, c⟩;rw [hdn a, rresC_iff.2 (.inl rfl), zT ((V.root0 a).2 rfl)]; rfl
 ·refine ⟨res_par V _ hi hm hp, (cut_ed P ps _ _ _).2 ⟨(h.up i hi trivial hp).2, ?_⟩⟩;rw [hdn hi, Bool.and_eq_true] at hm;rcases rresC_iff.1 hm.1 with q | q
  ·have := (V.root0 hi).2 q; omega
  ·exact q
 ·obtain ⟨h1, h2⟩ := (cut_ed P ps _ _ _).1 hp;obtain ⟨j, hj, -, hjp, rfl⟩ := h.dn i hi trivial p h1;refine ⟨j, hj, ?_, hjp, rfl⟩;have hji : t[j]!.p.toNat = i := by omega
  rw [hdn hj, Bool.and_eq_true, hji, hm, Bool.or_true];exact ⟨rresC_iff.2 (.inr (by unfold pn; rw [hji]; exact h2)), rfl⟩
end
section
variable {ab : Int}
theorem resX_par {l : List Vx} {p : B} {x : Int} (ho : OrdP l) : x ∈ (resX ab l p).par ↔ (∃ v ∈ l, v.pol = p /\ x ∈ v.par) \/ x = ab := by
 unfold resX;by_cases h : 0 <= fndP l p
 ·rw [if_pos h];obtain ⟨v, hv, rfl⟩ := fndP_iff.1 h;have hm := (fndP_mem ho hv).2
  show x ∈ srtI ((l[(fndP l v.pol).toNat]!).par ++ [ab]) ↔ _
  rw [srtI_mem, hm, List.mem_append, zS];constructor
  ·rintro (q | q)
   ·exact .inl ⟨v, hv, rfl, q⟩
   ·exact .inr q
  ·rintro (⟨u, hu, hup, q⟩ | q)
   ·rw [ord_mem ho hu hv hup] at q; exact .inl q
   ·exact .inr q
 ·rw [if_neg h];rw [fndP_no] at h
  show x ∈ [ab] ↔ _
  rw [zS];constructor
  ·exact fun q => .inr q
  ·rintro (⟨u, hu, hup, q⟩ | q)
   ·exact absurd hup (h u hu)
   ·exact q
theorem resS_pp {l : List Vx} (ho : OrdP l) {p0 p : B} {x : Int} : (∃ v ∈ resS [] ab l p0, v.pol = p /\ x ∈ v.par) ↔ (∃ v ∈ l, v.pol = p /\ x ∈ v.par) \/ (p = p0 /\ x = ab) := by
 have hm := (resS_iff (ab := ab) ho p0).2;constructor
 ·rintro ⟨v, hv, rfl, hx⟩;rcases (hm v).1 hv with q | ⟨q, -⟩
  ·subst q;rw [resX_pol];rcases (resX_par ho).1 hx with q | q
   ·exact .inl q
   ·exact .inr ⟨rfl, q⟩
  ·exact .inl ⟨v, q, rfl, hx⟩
 ·intro h;by_cases e : p = p0
  ·subst e;refine ⟨_, (hm _).2 (.inl rfl), resX_pol _ _ _, (resX_par ho).2 ?_⟩;rcases h with h | h
   ·exact .inl h
   ·exact .inr h.2
  ·rcases h with ⟨v, hv, rfl, hx⟩ | h
   ·exact ⟨v, (hm v).2 (.inr ⟨hv, e⟩), rfl, hx⟩
   ·exact absurd h.1 e
theorem resL_pp : ∀ (ks : List B) {l : List Vx} (ho : OrdP l) {p : B} {x : Int}, (∃ v ∈ resL [] ab l ks, v.pol = p /\ x ∈ v.par) ↔ (∃ v ∈ l, v.pol = p /\ x ∈ v.par) \/ (p ∈ ks /\ x = ab)
 | [], l, ho, p, x => ⟨fun h => .inl h, fun h => by rcases h with h | ⟨h, -⟩; exact h; cases h⟩
 | p0 :: ks, l, ho, p, x => by
  have ih := resL_pp ks (resS_iff (ab := ab) ho p0).1 (p := p) (x := x)
  show (∃ v ∈ resL [] ab (resS [] ab l p0) ks, v.pol = p /\ x ∈ v.par) ↔ _
  rw [ih, resS_pp ho, List.mem_cons];constructor
  ·rintro ((h | ⟨a, b⟩) | ⟨a, b⟩)
   ·exact .inl h
   ·exact .inr ⟨.inl a, b⟩
   ·exact .inr ⟨.inr a, b⟩
  ·rintro (h | ⟨a | a, b⟩)
   ·exact .inl (.inl h)
   ·exact .inl (.inr ⟨a, b⟩)
   ·exact .inr ⟨a, b⟩
theorem srtI_asc {l : List Int} {x : Int} (h : l.Pairwise (· < ·)) (hx : x ∉ l) : (srtI (l ++ [x])).Pairwise (· < ·) := by
 have hnd : (srtI (l ++ [x])).Nodup := by
  unfold srtI;refine (List.mergeSort_perm _ _).nodup_iff.2 ?_;rw [List.nodup_append];refine ⟨h.imp fun {a b} q => by omega, by simp, fun a ha b hb => ?_⟩;rw [zS] at hb;rintro rfl;exact hx (hb ▸ ha)
 have hsr : (srtI (l ++ [x])).Pairwise (· <= ·) := by
  unfold srtI;have := List.pairwise_mergeSort (le := fun a b : Int => decide (a <= b)) (fun a b c h1 h2 => by simp at *; omega) (fun a b => by simp; omega) (l ++ [x]);exact this.imp fun {a b} q => by simpa using q
 have := List.Pairwise.and hsr hnd;exact this.imp fun {a b} q => by have h1 := q.1; have h2 := q.2; omega
theorem resX_fit {l bl : List Vx} {p : B} (ho : OrdP l) (hp : p ≠ anyP) (hab : 0 <= ab /\ ab < (bl.length : Int)) (hf : ∀ v ∈ l, FitP v bl) (hn : ∀ v ∈ l, v.pol = p -> ab ∉ v.par) : FitP (resX ab l p) bl := by
 have hsp : specV (resX ab l p) = false := by unfold specV; rw [resX_pol]; exact zF hp
 have hpar : ∀ x ∈ (resX ab l p).par, 0 <= x /\ x < (bl.length : Int) := fun x hx => by
  rcases (resX_par ho).1 hx with ⟨v, hv, -, q⟩ | q
  ·exact (hf v hv).rg x q
  ·rw [q]; exact hab
 refine ⟨?_, ?_, hpar, fun h => (by rw [hsp] at h; cases h), fun _ => ?_⟩
 all_goals unfold resX
 ·by_cases h : 0 <= fndP l p
  ·rw [if_pos h];obtain ⟨v, hv, rfl⟩ := fndP_iff.1 h;have hm := (fndP_mem ho hv).2
   show ascB (l[(fndP l v.pol).toNat]!).ex = true
   rw [hm]; exact (hf v hv).ex
  ·rw [if_neg h]; exact asc_one p
 ·by_cases h : 0 <= fndP l p
  ·rw [if_pos h];obtain ⟨v, hv, rfl⟩ := fndP_iff.1 h;have hm := (fndP_mem ho hv).2
   show (srtI ((l[(fndP l v.pol).toNat]!).par ++ [ab])).Pairwise (· < ·)
   rw [hm]; exact srtI_asc (hf v hv).asc (hn v hv rfl)
  ·rw [if_neg h]; exact List.pairwise_singleton _ _
 ·by_cases h : 0 <= fndP l p
  ·rw [if_pos h];obtain ⟨v, hv, rfl⟩ := fndP_iff.1 h;have hm := (fndP_mem ho hv).2
   show anyP ∉ (l[(fndP l v.pol).toNat]!).ex
   rw [hm];exact (hf v hv).ns (by unfold specV; exact zF hp)
  ·rw [if_neg h]
   show anyP ∉ [p]
   rw [zS]; exact fun e => hp e.symm
theorem resL_fit {bl : List Vx} (hab : 0 <= ab /\ ab < (bl.length : Int)) : ∀ (ks : List B) {l : List Vx}, ks.Nodup -> OrdP l -> (∀ v ∈ l, FitP v bl) -> (∀ p ∈ ks, p ≠ anyP /\ ∀ v ∈ l, v.pol = p -> ab ∉ v.par) -> ∀ v ∈ resL [] ab l ks, FitP v bl
 | [], l, _, ho, hf, _ => hf
 | p :: ks, l, hnd, ho, hf, hn => by
  have hnd' := List.nodup_cons.1 hnd;have hm := (resS_iff (ab := ab) ho p);obtain ⟨hp1, hp2⟩ := hn p List.mem_cons_self;refine resL_fit hab ks hnd'.2 hm.1 (fun v hv => ?_) fun q hq => ⟨(hn q (List.mem_cons_of_mem _ hq)).1, fun v hv hvq => ?_⟩
  ·rcases (hm.2 v).1 hv with e | ⟨e, -⟩
   ·rw [e]; exact resX_fit ho hp1 hab hf hp2
   ·exact hf v e
  ·rcases (hm.2 v).1 hv with e | ⟨e, -⟩
   ·exfalso
    rw [e, resX_pol] at hvq;rw [hvq] at hnd';exact hnd'.1 hq
   ·exact (hn q (List.mem_cons_of_mem _ hq)).2 v e hvq
end
theorem thN_iff {G : List (List Vx)} (P : PV G) {s : B} {n : Nat} : thN G s n = true ↔ ∃ d, d < n /\ lkE G d anyP s := by
 unfold thN;rw [List.any_eq_true];constructor
 ·rintro ⟨d, hd, h⟩;rw [List.mem_range] at hd;unfold thB at h;rw [Bool.and_eq_true, decide_eq_true_eq] at h;obtain ⟨v, hv, rfl⟩ := fndP_iff.1 h.1;rw [(fndP_mem (P.ord _) hv).2] at h;have h2 := h.2;unfold belV at h2;rw [List.any_eq_true] at h2;obtain ⟨x, hx, hs⟩ := h2;have hr := P.rgA d v hv x hx;exact ⟨d, hd, v, hv, rfl, x.toNat, by rw [Int.toNat_of_nonneg hr.1]; exact hx, by omega, of_decide_eq_true hs⟩
 ·rintro ⟨d, hd, v, hv, rfl, j, hj, hjl, hq⟩;refine ⟨d, List.mem_range.2 hd, ?_⟩;unfold thB;obtain ⟨a1, a2⟩ := fndP_mem (P.ord (d + 1)) hv;rw [Bool.and_eq_true, decide_eq_true_eq, a2];refine ⟨a1, ?_⟩;unfold belV;rw [List.any_eq_true];exact ⟨(j : Int), hj, by rw [Int.toNat_natCast]; unfold specV; exact zT hq⟩
end Go.Proofs.YtmagjdocondmhaaGreat.Tr.Gr
