/- packed -/
import Derived.Test.YtmagjdocondmhaaGreatPkLk06
import Derived.Deep.CutRange
import Derived.Deep.DeepCutAuto
import Derived.Test.YtmagjdocondmhaaGreatShelf
set_option linter.unusedVariables false
set_option linter.unusedSimpArgs false
set_option maxRecDepth 100000
set_option maxHeartbeats 64000000
namespace Go.Proofs.YtmagjdocondmhaaGreat.Tr
open Go Go.RowKit St
abbrev Stc (l : List Nd) : Prop := l.Pairwise fun a b => ltT a b = true
theorem Stc.srt {l : List Nd} (h : Stc l) : Srt ltT l := List.Pairwise.imp (fun {a b} h => ltT_ord.asym h) h
theorem stc_at {l : List Nd} : Stc l ↔ ∀ i j, i < j -> j < l.length -> ltT l[i]! l[j]! = true := by
 unfold Stc;rw [List.pairwise_iff_getElem];constructor
 ·intro h i j hij hj;rw [getElem!_pos l i (by omega), getElem!_pos l j hj];exact h i j (by omega) hj hij
 ·intro h i j hi hj hij;have := h i j hij hj;rwa [getElem!_pos l i hi, getElem!_pos l j hj] at this
structure VS (t : List Nd) (D : Int) : Prop where
 root : 0 < t.length -> t[0]!.d = 0 /\ t[0]!.p = -1 /\ t[0]!.pol = anyP /\ t[0]!.ex = [anyP]
 par : ∀ i, 0 < i -> i < t.length -> 0 <= t[i]!.p /\ t[i]!.p < i
 dd : ∀ i, 0 < i -> i < t.length -> t[i]!.d = (pn t t[i]!).d + 1
 le : ∀ i, i < t.length -> t[i]!.d <= D
 lt : Stc t
 asc : ∀ i, i < t.length -> ascB t[i]!.ex = true
 sp : ∀ i, 0 < i -> i < t.length -> t[i]!.pol = anyP -> (pn t t[i]!).pol = anyP /\ t[i]!.ex = [anyP]
 ns : ∀ i, i < t.length -> t[i]!.pol ≠ anyP -> anyP ∉ t[i]!.ex
theorem VT.vs {t : List Nd} {D : Int} (V : VT t D) : VS t D := ⟨V.root, V.par, V.dd, V.le, stc_at.2 fun i j h hj => V.lt' j i h hj, V.asc, V.sp, V.ns⟩
theorem VS.vt {t : List Nd} {D : Int} (V : VS t D) (hD : 0 <= D) (hl : t.length <= 2048) (hf : ∀ i, i < t.length -> t[i]!.d < D -> ∃ n ∈ t, n.p = (i : Int)) : VT t D :=
 ⟨hD, hl, V.root, V.par, V.dd, V.le, fun i hi => stc_at.1 V.lt i (i + 1) (by omega) hi, V.asc, V.sp, V.ns, hf⟩
theorem VS.mono {t : List Nd} {D E : Int} (V : VS t D) (h : D <= E) : VS t E := ⟨V.root, V.par, V.dd, fun i hi => by have := V.le i hi; omega, V.lt, V.asc, V.sp, V.ns⟩
section
variable {t : List Nd} {D : Int}
theorem VS.root0 (V : VS t D) {i : Nat} (hi : i < t.length) : t[i]!.p < 0 ↔ i = 0 := by
 constructor
 ·intro h;rcases Nat.eq_zero_or_pos i with q | q
  ·exact q
  ·have := V.par i q hi; omega
 ·rintro rfl; have := V.root hi; omega
def Cls (t : List Nd) (m : List Bool) : Prop := ∀ i, i < t.length -> m[i]! = true -> 0 <= t[i]!.p -> m[t[i]!.p.toNat]! = true
theorem VS.keep (V : VS t D) {m : List Bool} (hc : Cls t m) : VS (keepP t m) D := by
 have hp0 : ∀ i, i < t.length -> m[i]! = true -> 0 < rk m i -> 0 < i := fun i _ _ h => by
  rcases Nat.eq_zero_or_pos i with q | q
  ·subst q; rw [rk_zero] at h; omega
  ·exact q
 have hpar : ∀ i, 0 < i -> i < t.length -> m[i]! = true -> t[i]!.p.toNat < i /\ m[t[i]!.p.toNat]! = true /\ (kpN m t[i]!).p = (rk m t[i]!.p.toNat : Nat) /\ pn (keepP t m) (kpN m t[i]!) = kpN m (pn t t[i]!) := by
  intro i h0 hi hm;have h1 := V.par i h0 hi;have h2 := hc i hi hm h1.1
  have h3 : (kpN m t[i]!).p = (rk m t[i]!.p.toNat : Nat) := by
   unfold kpN; simp only; rw [if_neg (by omega), if_pos h2]
  refine ⟨by omega, h2, h3, ?_⟩;unfold pn;rw [h3, Int.toNat_natCast];exact keepP_at t m (by omega) h2
 have hz : ∀ i, i < t.length -> m[i]! = true -> rk m i = 0 -> i = 0 := by
  intro i hi hm h;rcases Nat.eq_zero_or_pos i with q | q
  ·exact q
  ·obtain ⟨h1, h2, -⟩ := hpar i q hi hm;have := rk_lt m h1 h2; omega
 refine ⟨fun h => ?_, fun j h0 hj => ?_, fun j h0 hj => ?_, fun j hj => ?_, stc_at.2 fun j1 j2 h12 h2 => ?_, fun j hj => ?_, fun j h0 hj => ?_, fun j hj => ?_⟩
 ·obtain ⟨i, h1, h2, h3, h4⟩ := keepP_from t m h;obtain rfl := hz i h1 h2 h3;obtain ⟨r1, r2, r3, r4⟩ := V.root h1;rw [h4]; unfold kpN; simp only
  exact ⟨r1, by rw [if_pos (by omega)]; exact r2, r3, r4⟩
 ·obtain ⟨i, h1, h2, h3, h4⟩ := keepP_from t m hj;obtain ⟨q1, q2, q3, q4⟩ := hpar i (hp0 i h1 h2 (by omega)) h1 h2;rw [h4, q3];have := rk_lt m q1 q2;omega
 ·obtain ⟨i, h1, h2, h3, h4⟩ := keepP_from t m hj;have hi0 := hp0 i h1 h2 (by omega);obtain ⟨q1, q2, q3, q4⟩ := hpar i hi0 h1 h2;rw [h4, q4];exact V.dd i hi0 h1
 ·obtain ⟨i, h1, h2, h3, h4⟩ := keepP_from t m hj;rw [h4]; exact V.le i h1
 ·have h1 : j1 < (keepP t m).length := by omega
  obtain ⟨i1, a1, a2, a3, a4⟩ := keepP_from t m h1;obtain ⟨i2, b1, b2, b3, b4⟩ := keepP_from t m h2;rw [a4, b4]
  have hlt : i1 < i2 := by
   rcases Nat.lt_or_ge i1 i2 with q | q
   ·exact q
   ·have := rk_mono m q; omega
  have h := (ltT_iff _ _).1 (stc_at.1 V.lt i1 i2 hlt b1);rw [ltT_iff];obtain ⟨q1, q2, q3, q4⟩ := hpar i2 (by omega) b1 b2
  have hpp : t[i1]!.p < t[i2]!.p -> (kpN m t[i1]!).p < (kpN m t[i2]!).p := by
   intro hp;rw [q3];rcases Nat.eq_zero_or_pos i1 with q | q
   ·subst q;have := V.root a1;unfold kpN; simp only; rw [if_pos (by omega)]; omega
   ·obtain ⟨p1, p2, p3, p4⟩ := hpar i1 q a1 a2;have := V.par i1 q a1;rw [p3];have := rk_lt m (show t[i1]!.p.toNat < t[i2]!.p.toNat by omega) p2;omega
  rcases h with h | ⟨h, h' | ⟨h', h''⟩⟩
  ·exact .inl h
  ·exact .inr ⟨h, .inl (hpp h')⟩
  ·refine .inr ⟨h, .inr ⟨?_, h''⟩⟩;unfold kpN; simp only; rw [h']
 ·obtain ⟨i, h1, h2, h3, h4⟩ := keepP_from t m hj;rw [h4]; exact V.asc i h1
 ·obtain ⟨i, h1, h2, h3, h4⟩ := keepP_from t m hj;have hi0 := hp0 i h1 h2 (by omega);obtain ⟨q1, q2, q3, q4⟩ := hpar i hi0 h1 h2;rw [h4, q4];exact V.sp i hi0 h1
 ·obtain ⟨i, h1, h2, h3, h4⟩ := keepP_from t m hj;rw [h4]; exact V.ns i h1
theorem set_at (m : List Bool) (i j : Nat) (b : Bool) (hi : i < m.length) : (m.set i b)[j]! = if j = i then b else m[j]! := by
 rw [List.getElem!_eq_getElem?_getD, List.getElem!_eq_getElem?_getD, List.getElem?_set];by_cases e : i = j
 ·subst e; simp [hi]
 ·rw [if_neg e, if_neg (fun q => e q.symm)]
structure PM (t : List Nd) (D : Int) (j : Nat) (m : List Bool) : Prop where
 len : m.length = t.length
 cl : ∀ k, t.length - j <= k -> k < t.length -> m[k]! = true -> 0 <= t[k]!.p -> m[t[k]!.p.toNat]! = true
 at_ : ∀ i, t.length - j <= i -> i < t.length -> t[i]!.d = D -> m[i]! = true
 why : ∀ i, i < t.length -> m[i]! = true -> t[i]!.d = D \/ ∃ k, k < t.length /\ m[k]! = true /\ t[k]!.p = (i : Int)
theorem prune_marks (hp : ∀ i, i < t.length -> -1 <= t[i]!.p /\ t[i]!.p < i) : ∀ j, j <= t.length -> PM t D j (pmB t D j) := by
 intro j
 induction j with
 | zero =>
  intro _;refine ⟨pmB_length t D 0, fun k h1 h2 => by omega, fun i h1 h2 => by omega, fun i hi hm => ?_⟩;unfold pmB at hm;rw [getElem!_pos _ i (by simpa using hi)] at hm
  simp at hm
 | succ j ih =>
  intro hj;have P := ih (by omega);rw [pmB];generalize pmB t D j = m at P;obtain ⟨i, hi⟩ : ∃ i, i = t.length - 1 - j := ⟨_, rfl⟩
  rw [<- hi];have hil : i < t.length := by omega
  have hpi := hp i hil;have hml := P.len
  -- the first store
  obtain ⟨m1, hm1⟩ : ∃ m1, m1 = if t[i]!.d = D then m.set i true else m := ⟨_, rfl⟩
  have hl1 : m1.length = t.length := by rw [hm1]; split <;> simp [hml]
  have a1 : ∀ k, m1[k]! = if k = i /\ t[i]!.d = D then true else m[k]! := by
   intro k;rw [hm1];by_cases hd : t[i]!.d = D
   ·rw [if_pos hd, set_at _ _ _ _ (by omega)];by_cases hk : k = i
    ·rw [if_pos hk, if_pos ⟨hk, hd⟩]
    ·rw [if_neg hk, if_neg fun q => hk q.1]
   ·rw [if_neg hd, if_neg fun q => hd q.2]
  obtain ⟨m2, hm2⟩ : ∃ m2, m2 = if m1[i]! && decide (t[i]!.p >= 0) then m1.set t[i]!.p.toNat true else m1 := ⟨_, rfl⟩
  have e2 : stepM t D m i = m2 := by rw [hm2, hm1]; rfl
  rw [e2];have hl2 : m2.length = t.length := by rw [hm2]; split <;> simp [hl1]
  have a2 : ∀ k, m2[k]! = if m1[i]! = true /\ 0 <= t[i]!.p /\ k = t[i]!.p.toNat then true else m1[k]! := by
   intro k;rw [hm2];by_cases hb : m1[i]! = true /\ 0 <= t[i]!.p
   ·rw [if_pos (by rw [hb.1, Bool.true_and, decide_eq_true_eq]; exact hb.2), set_at _ _ _ _ (by omega)];by_cases hk : k = t[i]!.p.toNat
    ·rw [if_pos hk, if_pos ⟨hb.1, hb.2, hk⟩]
    ·rw [if_neg hk, if_neg fun h => hk h.2.2]
   ·rw [if_neg (by rw [Bool.and_eq_true, decide_eq_true_eq]; exact hb), if_neg fun h => hb ⟨h.1, h.2.1⟩]
  have up1 : ∀ k, m[k]! = true -> m1[k]! = true := fun k h => by rw [a1, h]; simp
  have up2 : ∀ k, m1[k]! = true -> m2[k]! = true := fun k h => by rw [a2, h]; simp
  have hi2 : m2[i]! = m1[i]! := by
   rw [a2, if_neg];rintro ⟨-, h1, h2⟩;omega
  refine ⟨hl2, fun k h1 h2 h3 h4 => ?_, fun k h1 h2 h3 => ?_, fun k h1 h2 => ?_⟩
  ·by_cases e : k = i
   ·subst e;rw [hi2] at h3;rw [a2, if_pos ⟨h3, h4, rfl⟩]
   ·have hk : i < k := by omega
    have e3 : m2[k]! = m[k]! := by
     rw [a2, if_neg (by rintro ⟨-, q1, q2⟩; omega), a1, if_neg fun q => e q.1]
    rw [e3] at h3;exact up2 _ (up1 _ (P.cl k (by omega) h2 h3 h4))
  ·by_cases e : k = i
   ·subst e;exact up2 _ (by rw [a1, if_pos ⟨rfl, h3⟩])
   ·exact up2 _ (up1 _ (P.at_ k (by omega) h2 h3))
  ·rw [a2] at h2;by_cases q : m1[i]! = true /\ 0 <= t[i]!.p /\ k = t[i]!.p.toNat
   ·exact .inr ⟨i, hil, by rw [hi2]; exact q.1, by omega⟩
   ·rw [if_neg q, a1] at h2;by_cases q2 : k = i /\ t[i]!.d = D
    ·rw [q2.1]; exact .inl q2.2
    ·rw [if_neg q2] at h2;rcases P.why k h1 h2 with h | ⟨k', h3, h4, h5⟩
     ·exact .inl h
     ·exact .inr ⟨k', h3, up2 _ (up1 _ h4), h5⟩
theorem VS.pge (V : VS t D) : ∀ i, i < t.length -> -1 <= t[i]!.p /\ t[i]!.p < i := by
 intro i hi;rcases Nat.eq_zero_or_pos i with q | q
 ·subst q; have := V.root hi; omega
 ·have := V.par i q hi; omega
theorem VS.pm (V : VS t D) (E : Int) : PM t E t.length (pruneM t E) := prune_marks V.pge _ (zR _)
theorem VS.prune (V : VS t D) (hD : 0 <= D) (hl : t.length <= 2048) : VT (pruneP t D) D := by
 have P := V.pm D;have hc : Cls t (pruneM t D) := fun i hi hm h => P.cl i (by omega) hi hm h
 unfold pruneP;refine (V.keep hc).vt hD (by rw [keepP_length]; have := rk_le (pruneM t D) t.length; omega) fun j hj hd => ?_
 obtain ⟨i, h1, h2, h3, h4⟩ := keepP_from t _ hj;rw [h4] at hd;rcases P.why i h1 h2 with h | ⟨k, h5, h6, h7⟩
 ·unfold kpN at hd; simp only at hd; omega
 ·refine ⟨kpN (pruneM t D) t[k]!, keep_mem.2 ⟨k, h5, h6, rfl⟩, ?_⟩;unfold kpN;simp only
  rw [if_neg (by omega), if_pos (by rw [h7]; exact h2), h7, <- h3]; rfl
structure Gd (A : List Nd) (D : Int) (n : Nd) : Prop where
 d : n.d = D
 p0 : 0 <= n.p
 p1 : n.p < A.length
 pd : A[n.p.toNat]!.d + 1 = D
 asc : ascB n.ex = true
 sp : n.pol = anyP -> A[n.p.toNat]!.pol = anyP /\ n.ex = [anyP]
 ns : n.pol ≠ anyP -> anyP ∉ n.ex
theorem VS.join {A L : List Nd} (V : VS A D) (hA : ∀ n ∈ A, n.d < D) (hL : Stc L) (hg : ∀ n ∈ L, Gd A D n) : VS (A ++ L) D := by
 have lo : ∀ {i}, i < A.length -> (A ++ L)[i]! = A[i]! := fun h => getElem!_append_left' h
 have hi : ∀ {i}, A.length <= i -> i < (A ++ L).length -> (A ++ L)[i]! ∈ L := fun {i} h h2 => by
  rw [getElem!_append_right' h, List.length_append] at *;exact mem_at.2 ⟨i - A.length, by omega, rfl⟩
 have hA0 : ∀ {i}, A.length <= i -> i < (A ++ L).length -> Gd A D (A ++ L)[i]! := fun h h2 => hg _ (hi h h2)
 have hpos : ∀ {i}, i < (A ++ L).length -> 0 < A.length := fun {i} h => by
  rcases Nat.lt_or_ge i A.length with q | q
  ·omega
  ·have G := hA0 q h;have := G.p0; have := G.p1; omega
 have ppn : ∀ {i}, A.length <= i -> i < (A ++ L).length -> pn (A ++ L) (A ++ L)[i]! = A[(A ++ L)[i]!.p.toNat]! := fun h h2 => by
  have G := hA0 h h2;unfold pn;have := G.p0; have := G.p1
  exact lo (by omega)
 have ppl : ∀ {i}, 0 < i -> i < A.length -> pn (A ++ L) (A ++ L)[i]! = pn A A[i]! := fun {i} h0 h => by
  have := V.par i h0 h;unfold pn;rw [lo h];exact lo (by omega)
 refine ⟨fun h => by rw [lo (hpos h)]; exact V.root (hpos h), fun i h0 h => ?_, fun i h0 h => ?_, fun i h => ?_, ?_, fun i h => ?_, fun i h0 h => ?_, fun i h => ?_⟩
 ·rcases Nat.lt_or_ge i A.length with q | q
  ·rw [lo q]; exact V.par i h0 q
  ·have G := hA0 q h; have := G.p0; have := G.p1; omega
 ·rcases Nat.lt_or_ge i A.length with q | q
  ·rw [ppl h0 q, lo q]; exact V.dd i h0 q
  ·have G := hA0 q h;rw [ppn q h, G.d, G.pd]
 ·rcases Nat.lt_or_ge i A.length with q | q
  ·rw [lo q]; exact V.le i q
  ·have G := hA0 q h; rw [G.d]; exact Int.le_refl _
 ·refine List.pairwise_append.2 ⟨V.lt, hL, fun a ha b hb => ?_⟩;rw [ltT_iff];have := hA a ha;have := (hg b hb).d;exact .inl (by omega)
 ·rcases Nat.lt_or_ge i A.length with q | q
  ·rw [lo q]; exact V.asc i q
  ·exact (hA0 q h).asc
 ·rcases Nat.lt_or_ge i A.length with q | q
  ·rw [ppl h0 q, lo q]; exact V.sp i h0 q
  ·rw [ppn q h]; exact (hA0 q h).sp
 ·rcases Nat.lt_or_ge i A.length with q | q
  ·rw [lo q]; exact V.ns i q
  ·exact (hA0 q h).ns
theorem VS.split (V : VS t D) (hD : 0 < D) : ∃ A L, t = A ++ L /\ VS A D /\ (∀ n ∈ A, n.d < D) /\ Stc L /\ ∀ n ∈ L, Gd A D n := by
 have hmono : ∀ i j, i <= j -> j < t.length -> t[i]!.d <= t[j]!.d := fun i j h hj => by
  by_cases e : i = j
  ·subst e; exact Int.le_refl _
  ·have := (ltT_iff _ _).1 (stc_at.1 V.lt i j (by omega) hj); omega
 obtain ⟨a, ha⟩ : ∃ a, a = t.findIdx fun n => !decide (n.d < D) := ⟨_, rfl⟩
 have hal : a <= t.length := by rw [ha]; exact List.findIdx_le_length
 have hlo : ∀ i, i < a -> t[i]!.d < D := fun i hi => by
  have := List.not_of_lt_findIdx (show i < t.findIdx _ from ha ▸ hi);rw [getElem!_pos t i (by omega)];simpa using this
 have hhi : ∀ i, a <= i -> i < t.length -> t[i]!.d = D := fun i h1 h2 => by
  have hw : t.findIdx (fun n => !decide (n.d < D)) < t.length := by omega
  have := List.findIdx_getElem (w := hw);rw [<- getElem!_pos t _ hw, <- ha] at this;have h3 := hmono a i h1 h2;have h4 := V.le i h2;simp at this
  simp only [List.getElem!_eq_getElem?_getD] at *
  omega
 have hta : (t.take a).length = a := by rw [List.length_take]; omega
 have lo : ∀ i, i < a -> (t.take a)[i]! = t[i]! := fun i hi => getElem!_take' hi
 have hpp : ∀ i, 0 < i -> i < t.length -> t[i]!.p.toNat < a := fun i h0 hi => by
  have h1 := V.par i h0 hi;have h2 := V.dd i h0 hi;have h3 := V.le i hi;rcases Nat.lt_or_ge t[i]!.p.toNat a with q | q
  ·exact q
  ·have h4 := hhi _ q (by omega);unfold pn at h2;omega
 have hpn : ∀ i, 0 < i -> i < t.length -> pn (t.take a) t[i]! = pn t t[i]! := fun i h0 hi => by
  unfold pn; exact lo _ (hpp i h0 hi)
 refine ⟨t.take a, t.drop a, (List.take_append_drop a t).symm, ⟨fun h => ?_, fun i h0 h => ?_, fun i h0 h => ?_, fun i h => ?_, ?_, fun i h => ?_, fun i h0 h => ?_, fun i h => ?_⟩, fun n hn => ?_, ?_, fun n hn => ?_⟩
 ·rw [hta] at h; rw [lo 0 h]; exact V.root (by omega)
 ·rw [hta] at h; rw [lo i h]; exact V.par i h0 (by omega)
 ·rw [hta] at h; rw [lo i h, hpn i h0 (by omega)]; exact V.dd i h0 (by omega)
 ·rw [hta] at h; rw [lo i h]; exact V.le i (by omega)
 ·exact List.Pairwise.sublist (List.take_sublist _ _) V.lt
 ·rw [hta] at h; rw [lo i h]; exact V.asc i (by omega)
 ·rw [hta] at h; rw [lo i h, hpn i h0 (by omega)]; exact V.sp i h0 (by omega)
 ·rw [hta] at h; rw [lo i h]; exact V.ns i (by omega)
 ·obtain ⟨i, hi, rfl⟩ := mem_at.1 hn;rw [hta] at hi; rw [lo i hi]; exact hlo i hi
 ·exact List.Pairwise.sublist (List.drop_sublist _ _) V.lt
 ·obtain ⟨i, hi, rfl⟩ := mem_at.1 hn;rw [List.length_drop] at hi;have e3 : (t.drop a)[i]! = t[a + i]! := by rw [List.getElem!_eq_getElem?_getD, List.getElem!_eq_getElem?_getD, List.getElem?_drop]
  rw [e3];have hj : a + i < t.length := by omega
  have hd := hhi (a + i) (by omega) hj
  have h0 : 0 < a + i := by
   rcases Nat.eq_zero_or_pos (a + i) with q | q
   ·rw [q] at hd hj; have := V.root hj; omega
   ·exact q
  have hp := V.par _ h0 hj;have hpa := hpp _ h0 hj;have hdd := V.dd _ h0 hj;have hsp := V.sp _ h0 hj;rw [<- hpn _ h0 hj] at hdd hsp;exact ⟨hd, hp.1, by rw [hta]; omega, by unfold pn at hdd; omega, V.asc _ hj, hsp, V.ns _ hj⟩
theorem insL_lo {A : List Nd} (hA : ∀ n ∈ A, n.d < D) : ∀ (xs L : List Nd), (∀ x ∈ xs, x.d = D) -> insL (A ++ L) xs = A ++ insL L xs
 | [], L, _ => rfl
 | x :: xs, L, h => by
  show insL (St.ins (lt := ltT) x (A ++ L)) xs = A ++ insL (St.ins (lt := ltT) x L) xs
  rw [ins_lo A L fun n hn => by rw [ltT_false]; have := hA n hn; have := h x (by simp); exact .inl (by omega)];exact insL_lo hA xs _ fun y hy => h y (by simp [hy])
abbrev Cmp (a b : Nd) : Prop := ltT a b = true \/ ltT b a = true
theorem insL_perm' : ∀ (xs L : List Nd), (insL L xs).Perm (L ++ xs)
 | [], L => by simp [insL]
 | x :: xs, L => by
  have h1 : (St.ins (lt := ltT) x L).Perm (x :: L) := by
   induction L with
   | nil => exact List.Perm.refl _
   | cons y L ih =>
    unfold St.ins;split
    ·exact List.Perm.refl _
    ·exact (ih.cons y).trans (List.Perm.swap x y L)
  refine (insL_perm' xs (St.ins (lt := ltT) x L)).trans ((h1.append_right xs).trans ?_);exact List.perm_middle.symm
theorem stc_ins {L xs : List Nd} (hs : Srt ltT L) (hc : (L ++ xs).Pairwise Cmp) : Stc (insL L xs) := by
 have h1 : (insL L xs).Pairwise Cmp := ((insL_perm' xs L).pairwise_iff (fun {a b} h => h.symm)).2 hc;have h2 := insL_srt hs xs;unfold Srt at h2;have := List.Pairwise.and h1 h2;refine this.imp ?_;rintro a b ⟨h | h, h'⟩
 ·exact h
 ·rw [h] at h'; cases h'
theorem VS.sort {A L xs : List Nd} (V : VS A D) (hA : ∀ n ∈ A, n.d < D) (hL : Srt ltT L) (hg : ∀ n ∈ L, Gd A D n) (hx : ∀ n ∈ xs, Gd A D n) (hc : (L ++ xs).Pairwise Cmp) : VS (sortT (A ++ L ++ xs)) D := by
 have hsrt : Srt ltT (A ++ L) := by
  unfold Srt;refine List.pairwise_append.2 ⟨V.lt.srt, hL, fun a ha b hb => ?_⟩;have := hA a ha;have := (hg b hb).d;rw [ltT_false]; exact .inl (by omega)
 rw [sort_ins hsrt, insL_lo hA xs L fun x h => (hx x h).d];refine V.join hA (stc_ins hL hc) fun n hn => ?_
 rcases insL_mem.1 hn with h | h
 ·exact hg n h
 ·exact hx n h
theorem Stc.cmp {l : List Nd} (h : Stc l) : l.Pairwise Cmp := List.Pairwise.imp (fun {a b} h => .inl h) h
theorem asc_one (p : B) : ascB [p] = true := by unfold ascB; rfl
end
end Go.Proofs.YtmagjdocondmhaaGreat.Tr
namespace Go.Proofs.YtmagjdocondmhaaGreat.Tr
open Go Go.RowKit St
section
variable {t : List Nd} {D : Int}
abbrev allE (ps : List B) (cnt : Bool) : Bool := cnt && decide (anyP ∈ setB ps)
abbrev moreE (t : List Nd) (D : Int) (ps : List B) (cnt : Bool) : List Nd := moreK t D (setB ps) (allE ps cnt) t.length
theorem enter_gd (V : VT t (D - 1)) (ps : List B) (cnt : Bool) : ∀ n ∈ moreE t D ps cnt, Gd t D n := by
 intro n hn;obtain ⟨i, hi, hd, p, hp, rfl⟩ := moreK_mem.1 hn;have hle := V.le i hi;have hdi : t[i]!.d + 1 = D := by omega
 have hany : p = anyP -> t[i]!.pol = anyP := by
  rintro rfl;rcases childP_mem.1 hp with ⟨-, h⟩ | ⟨-, h⟩
  ·exact absurd rfl (wantP_iff.1 h).1
  ·exact Classical.byContradiction fun q => V.ns i hi q h
 refine ⟨rfl, by show (0 : Int) <= (i : Int); omega, by show (i : Int) < _; omega, by unfold newN; simp only [Int.toNat_natCast]; exact hdi, asc_one p, fun h => ?_, fun h h2 => ?_⟩
 ·have h' : p = anyP := h;refine ⟨by unfold newN; simp only [Int.toNat_natCast]; exact hany h', by show [p] = _; rw [h']⟩
 ·have h2' : anyP ∈ [p] := h2;rw [zS] at h2';exact h h2'.symm
theorem enter_stay (V : VT t (D - 1)) (hD : 1 <= D) (ps : List B) (cnt : Bool) (hl : t.length + (moreE t D ps cnt).length <= 2048) :
  enterP t D ps cnt = (pruneP (sortT (t ++ moreE t D ps cnt)) D, 0) /\ VT (pruneP (sortT (t ++ moreE t D ps cnt)) D) D /\ VS (sortT (t ++ moreE t D ps cnt)) D := by
 have hv := (valid_iff t (D - 1)).2 V
 have hA : ∀ n ∈ t, n.d < D := fun n hn => by
  obtain ⟨i, hi, rfl⟩ := mem_at.1 hn;have := V.le i hi; omega
 have hc : ([] ++ moreE t D ps cnt).Pairwise Cmp := by
  rw [List.nil_append]
  exact new_pair (moreK_nodup _ _ _ _ _) fun n hn => by
   obtain ⟨i, -, -, p, -, rfl⟩ := moreK_mem.1 hn;exact ⟨_, _, rfl⟩
 have h := VS.sort (A := t) (L := []) (xs := moreE t D ps cnt) (V.vs.mono (by omega)) hA (List.Pairwise.nil) (fun n hn => by cases hn) (enter_gd V ps cnt) hc;rw [List.append_nil] at h;refine ⟨?_, h.prune (by omega) ?_, h⟩
 ·unfold enterP;rw [zF (by omega), hv];simp only [Bool.not_true, Bool.or_self, Bool.false_eq_true, if_false]
  rw [if_neg (by unfold moreE allE at hl; omega)]
 ·rw [show (sortT (t ++ moreE t D ps cnt)).length = (t ++ moreE t D ps cnt).length from by rw [sort_ins V.srt, insL_length, List.length_append], List.length_append]; exact hl
theorem srcL_any (l : List (B × B)) : anyP ∉ srcL l := by
 unfold srcL;rw [setB_mem, List.mem_map];rintro ⟨m, hm, he⟩;rw [List.mem_filter] at hm;have := hm.2;unfold okM at this;simp [he] at this
theorem subL_any (l : List (B × B)) (x : B) : anyP ∉ subL l x := by
 unfold subL;rw [setB_mem, List.mem_map];rintro ⟨m, hm, he⟩;rw [List.mem_filter] at hm;have := hm.2;unfold okM at this;simp [he] at this
theorem ascB_iff {l : List B} : ascB l = true ↔ Asc l /\ l ≠ [] := by
 unfold ascB;rw [Bool.and_eq_true, decide_eq_true_eq, Bool.not_eq_true', List.isEmpty_eq_false_iff]
theorem subL_asc {l : List (B × B)} {x : B} (h : x ∈ srcL l) : ascB (subL l x) = true := by
 refine ascB_iff.2 ⟨setB_asc _, fun e => ?_⟩;unfold srcL at h;rw [setB_mem, List.mem_map] at h;obtain ⟨m, hm, rfl⟩ := h;rw [List.mem_filter] at hm
 have : m.2 ∈ subL l m.1 := by
  unfold subL;rw [setB_mem, List.mem_map];exact ⟨m, List.mem_filter.2 ⟨hm.1, by simp [hm.2]⟩, rfl⟩
 rw [e] at this; cases this
theorem now_d (l : List (B × B)) (D : Int) (n : Nd) : (nowN l D n).d = n.d /\ (nowN l D n).p = n.p /\ (nowN l D n).pol = n.pol := by
 unfold nowN;split
 ·exact ⟨rfl, rfl, rfl⟩
 ·split <;> exact ⟨rfl, rfl, rfl⟩
theorem lt_now (l : List (B × B)) (D : Int) (a b : Nd) : ltT (nowN l D a) (nowN l D b) = ltT a b := by
 obtain ⟨a1, a2, a3⟩ := now_d l D a;obtain ⟨b1, b2, b3⟩ := now_d l D b;rw [Bool.eq_iff_iff, ltT_iff, ltT_iff, a1, a2, a3, b1, b2, b3]
theorem map_stay_no (V : VT t D) (hD : 1 <= D) (l : List (B × B)) : mapP t D l false = (pruneP (keepP t (mapM t D l)) D, 0) /\ VT (pruneP (keepP t (mapM t D l)) D) D /\ VS (keepP t (mapM t D l)) D := by
 have hv := (valid_iff t D).2 V;have hm : ∀ i, i < t.length -> (mapM t D l)[i]! = (decide (t[i]!.d < D) || !decide (t[i]!.pol ∈ srcL l)) := fun i hi => mapP_at _ hi
 have hc : Cls t (mapM t D l) := fun i hi _ h0 => by
  obtain ⟨h1, h2⟩ := V.pard hi h0;have := V.le i hi;rw [hm _ (by omega), zT (by omega)]; rfl
 have h := V.vs.keep hc;refine ⟨?_, h.prune (by omega) ?_, h⟩
 ·unfold mapP;rw [zF (by omega), hv];simp
 ·rw [keepP_length]; have := rk_le (mapM t D l) t.length; have := V.len; omega
theorem map_gd (V : VT t D) (hD : 1 <= D) (l : List (B × B)) : ∃ A L, t = A ++ L /\ t.map (nowN l D) = A ++ L.map (nowN l D) /\ VS A D /\ (∀ n ∈ A, n.d < D) /\ Stc L /\ (∀ n ∈ L.map (nowN l D), Gd A D n) /\ ∀ n ∈ mapMore t D l, Gd A D n := by
 obtain ⟨A, L, hAL, VA, hA, hL, hg⟩ := V.vs.split (D := D) (by omega)
 have hgn : ∀ n ∈ L.map (nowN l D), Gd A D n := by
  intro n hn;obtain ⟨m, hm, rfl⟩ := List.mem_map.1 hn;have G := hg m hm;unfold nowN;rw [zF (by have := G.d; omega)];simp only [Bool.false_eq_true, if_false]
  by_cases q : m.pol ∈ srcL l
  ·rw [zT q, if_pos rfl];exact ⟨G.d, G.p0, G.p1, G.pd, subL_asc q, fun h => absurd (h ▸ q) (srcL_any l), fun _ => subL_any _ _⟩
  ·rw [zF q]; exact G
 refine ⟨A, L, hAL, ?_, VA, hA, hL, hgn, fun n hn => ?_⟩
 ·rw [hAL, List.map_append];congr 1
  conv => rhs; rw [<- List.map_id A]
  apply List.map_congr_left
  intro n hn;unfold nowN;rw [zT (hA n hn)]; rfl
 ·unfold mapMore at hn;obtain ⟨q, hq, rfl⟩ := List.mem_map.1 hn;rw [List.mem_filter] at hq;obtain ⟨hq1, hq2⟩ := hq;simp only [Bool.and_eq_true, decide_eq_true_eq] at hq2
  have hls := lastS_eq V t.length (zR _);rw [hls] at hq2 |-;by_cases hs : 0 <= spAt t D /\ spAt t D < (t.length : Nat)
  ·rw [if_pos hs] at hq2 |-;have hi : (spAt t D).toNat < t.length := by omega
   have h2 := (V.spAt_iff (i := (spAt t D).toNat) hi).1 (by omega);generalize (spAt t D).toNat = i at *;have hmem : t[i]! ∈ A ++ L := hAL ▸ mem_at.2 ⟨i, hi, rfl⟩
   have G : Gd A D t[i]! := by
    rcases List.mem_append.1 hmem with h | h
    ·have := hA _ h; omega
    ·exact hg _ h
   exact ⟨rfl, G.p0, G.p1, G.pd, subL_asc hq1, fun h => absurd (h ▸ hq1) (srcL_any l), fun _ => subL_any _ _⟩
  ·rw [if_neg hs] at hq2;omega
theorem map_stay (V : VT t D) (hD : 1 <= D) (l : List (B × B)) (hl : t.length + (mapMore t D l).length <= 2048) :
  mapP t D l true = (pruneP (sortT (t.map (nowN l D) ++ mapMore t D l)) D, 0) /\ VT (pruneP (sortT (t.map (nowN l D) ++ mapMore t D l)) D) D /\ VS (sortT (t.map (nowN l D) ++ mapMore t D l)) D := by
 have hv := (valid_iff t D).2 V;obtain ⟨A, L, hAL, hAL2, VA, hA, hL, hg, hx⟩ := map_gd V hD l
 have hL2 : Stc (L.map (nowN l D)) := by
  unfold Stc;rw [List.pairwise_map];exact hL.imp fun {a b} h => by rw [lt_now]; exact h
 have hc : (L.map (nowN l D) ++ mapMore t D l).Pairwise Cmp := by
  refine List.pairwise_append.2 ⟨hL2.cmp, ?_, fun a ha b hb => ?_⟩
  ·unfold mapMore;rw [List.pairwise_map];refine (List.Pairwise.filter _ (setB_asc _)).imp fun {a b} h => ?_
   exact .inl ((ltT_iff _ _).2 (.inr ⟨rfl, .inr ⟨rfl, h⟩⟩))
  ·obtain ⟨m, hm, rfl⟩ := List.mem_map.1 ha;unfold mapMore at hb;obtain ⟨q, hq, rfl⟩ := List.mem_map.1 hb;rw [List.mem_filter] at hq;have hq2 := hq.2;simp only [Bool.and_eq_true, Bool.not_eq_true', decide_eq_true_eq] at hq2
   have hne : m.pol ≠ q := by
    intro e;have h1 := (hg _ ha).d;have h2 := hq2.2;unfold foundP at h2;rw [List.any_eq_false] at h2;refine h2 m (hAL ▸ List.mem_append.2 (.inr hm)) ?_;rw [(now_d l D m).1] at h1;rw [zF (by omega), zT e]; rfl
   obtain ⟨n1, n2, n3⟩ := now_d l D m;have hd := (hg _ ha).d;generalize lastS t D t.length = P at *;unfold Cmp;rw [ltT_iff, ltT_iff, n2, n3, hd];simp only [Int.lt_irrefl, false_or, true_and]
   by_cases p1 : m.p < P
   ·exact .inl (.inl p1)
   ·by_cases p2 : P < m.p
    ·exact .inr (.inl p2)
    ·have p3 : m.p = P := by omega
     by_cases p4 : m.pol < q
     ·exact .inl (.inr ⟨p3, p4⟩)
     ·exact .inr (.inr ⟨p3.symm, ltB_or p4 hne⟩)
 have h := VS.sort (xs := mapMore t D l) VA hA hL2.srt hg hx hc;rw [<- hAL2] at h
 have hsl : (sortT (t.map (nowN l D) ++ mapMore t D l)).length = t.length + (mapMore t D l).length := by
  have := fold_length (lt := ltT) (t.map (nowN l D) ++ mapMore t D l) [];unfold sortT srtL;rw [this]; simp
 refine ⟨?_, h.prune (by omega) (by rw [hsl]; exact hl), h⟩;unfold mapP;rw [zF (by omega), hv];simp only [Bool.not_true, Bool.or_self, Bool.false_eq_true, if_false]
 rw [if_neg (by omega)]
end
end Go.Proofs.YtmagjdocondmhaaGreat.Tr
namespace Go.Proofs.YtmagjdocondmhaaGreat.Tr
open Go Go.RowKit St
section
variable {t : List Nd} {k : Nat}
end
end Go.Proofs.YtmagjdocondmhaaGreat.Tr
namespace Go.Proofs.YtmagjdocondmhaaGreat.Tr
open Go Go.RowKit Go.Sort Slc St
attribute [local go_sem] Oper.semAt_some
structure SymA (dk : Array Nt) (nn lo hi s r : Nat) : Prop where
 le : s <= r
 ge : lo <= s
 les : r <= hi
 lows : lo < s -> ltN dk[nn - s]! dk[s - 1]! = false
 ups : r < hi -> ltN dk[nn - r - 1]! dk[r]! = true
theorem last_of {l : List Nt} (h : l ≠ []) : ∃ s x, l = s ++ [x] := ⟨l.dropLast, l.getLast h, (List.dropLast_concat_getLast h).symm⟩
theorem sym_split {dk : Array Nt} {P L1 L2 Q : List Nt} {a m b mid nn lo hi s : Nat} (hd : dk.toList = P ++ ((L1 ++ L2) ++ Q)) (ha : a = P.length) (hm : m = a + L1.length) (hb : b = m + L2.length) (h1 : 0 < L1.length) (h2 : 0 < L2.length)
  (sl1 : Srt ltN L1) (sl2 : Srt ltN L2) (hmid : mid = (a + b) / 2) (hnn : nn = mid + m) (hlo : (mid < m /\ lo = nn - b /\ hi = mid) \/ (m <= mid /\ lo = a /\ hi = m)) (H : SymA dk nn lo hi s s) :
  ∃ U1 U2 V1 V2, L1 = U1 ++ U2 /\ L2 = V1 ++ V2 /\ a + U1.length = s /\ m + V1.length = nn - s /\ s <= m /\ m <= nn - s /\ nn - s <= b /\ s <= nn /\ a <= s /\ (∀ x ∈ U2, ∀ y ∈ V1, ltN y x = true) /\ (∀ x ∈ U1, ∀ y ∈ V2, ltN y x = false) := by
 obtain ⟨q1, q2, q3, q4, q5⟩ := H;have r1 : a <= s := by omega
 have r2 : s <= m := by omega
 have r3 : m <= nn - s := by omega
 have r4 : nn - s <= b := by omega
 obtain ⟨U1, U2, e1, l1⟩ := split_len (l := L1) (n := s - a) (by omega);obtain ⟨V1, V2, e2, l2⟩ := split_len (l := L2) (n := nn - s - m) (by omega);have hl1 : L1.length = U1.length + U2.length := by rw [e1]; simp
 have hl2 : L2.length = V1.length + V2.length := by rw [e2]; simp
 rw [e1] at sl1;rw [e2] at sl2;refine ⟨U1, U2, V1, V2, e1, e2, by omega, by omega, r2, r3, r4, by omega, r1, ?_, ?_⟩
 ·by_cases hU : U2 = []
  ·subst hU; intro x hx; cases hx
  ·by_cases hV : V1 = []
   ·subst hV; intro x hx y hy; cases hy
   ·obtain ⟨v0, v, rfl⟩ := last_of hV;obtain ⟨u, u0, rfl⟩ := List.exists_cons_of_ne_nil hU;simp only [List.length_append, List.length_cons, List.length_nil] at hl1 hl2 l1 l2
    have g1 : dk[s]! = u := (get_list (A := P ++ U1) (B := u0 ++ (L2 ++ Q)) (by rw [hd, e1]; simp) (by simp; omega)).1;have g2 : dk[nn - s - 1]! = v := (get_list (A := P ++ (L1 ++ v0)) (B := V2 ++ Q) (by rw [hd, e2]; simp) (by simp; omega)).1;have := q5 (by omega);rw [g1, g2] at this;exact srt_lt_lt ltN_ord (Srt.append.1 sl1).2.1 (Srt.append.1 sl2).1 this
 ·by_cases hU : U1 = []
  ·subst hU; intro x hx; cases hx
  ·by_cases hV : V2 = []
   ·subst hV; intro x hx y hy; cases hy
   ·obtain ⟨u0, u, rfl⟩ := last_of hU;obtain ⟨v, v0, rfl⟩ := List.exists_cons_of_ne_nil hV;simp only [List.length_append, List.length_cons, List.length_nil] at hl1 hl2 l1 l2
    have g1 : dk[s - 1]! = u := (get_list (A := P ++ u0) (B := U2 ++ (L2 ++ Q)) (by rw [hd, e1]; simp) (by simp; omega)).1;have g2 : dk[nn - s]! = v := (get_list (A := P ++ (L1 ++ V1)) (B := v0 ++ Q) (by rw [hd, e2]; simp) (by simp; omega)).1;have := q4 (by omega);rw [g1, g2] at this;exact srt_le_le ltN_ord (Srt.append.1 sl1).1 (Srt.append.1 sl2).2.1 this
theorem SymA.up {dk : Array Nt} {nn lo hi s r c : Nat} (H : SymA dk nn lo hi s r) (h1 : s <= c) (h2 : c < r) (h : ltN dk[nn - 1 - c]! dk[c]! = false) : SymA dk nn lo hi (c + 1) r :=
 ⟨by omega, by have := H.ge; omega, H.les, fun _ => by rw [show nn - (c + 1) = nn - 1 - c by omega, Nat.add_sub_cancel]; exact h, H.ups⟩
theorem SymA.down {dk : Array Nt} {nn lo hi s r c : Nat} (H : SymA dk nn lo hi s r) (h1 : s <= c) (h2 : c < r) (h : ltN dk[nn - 1 - c]! dk[c]! = true) : SymA dk nn lo hi s c :=
 ⟨h1, H.ge, by have := H.les; omega, H.lows, fun _ => by rw [show nn - c - 1 = nn - 1 - c by omega]; exact h⟩
theorem sym_any {w0 : World} {blk off cap : Nat} {d0 : Array Nt} (R : RowK encN 4 w0 blk off d0) : ∀ (N : Nat) (dk : Array Nt) (W : World) (P L1 L2 Q : List Nt) (n a m b : Nat), L1.length + L2.length <= N -> dk.size = d0.size -> SWK encN 4 w0 blk off dk W -> dk.toList = P ++ ((L1 ++ L2) ++ Q) -> 0 < L1.length -> 0 < L2.length -> Srt ltN L1 -> Srt ltN L2 -> dk.size < 1000000000 ->
  n = dk.size -> a = P.length -> m = a + L1.length -> b = m + L2.length ->
  Calls Tryz.prog 158 #[.slice (some ⟨blk, off, none⟩) n cap, .int .i64 (a : Nat), .int .i64 (m : Nat), .int .i64 (b : Nat), cmpV] W fun e w' =>
   e = .returned (.tuple #[]) /\ ∃ (dk' : Array Nt) (S' : List Nt), dk'.toList = P ++ (S' ++ Q) /\ Srt ltN S' /\ Stab ltN (L1 ++ L2) S' /\ SWK encN 4 w0 blk off dk' w' := by
 intro N
 induction N with
 | zero => intro dk W P L1 L2 Q n a m b h; omega
 | succ N IH =>
 intro dk W P L1 L2 Q n a m b hN hs S hd h1 h2 sl1 sl2 hsz hn ha hm hb;by_cases c1 : L1.length = 1
 ·obtain ⟨x, rfl⟩ := List.length_eq_one_iff.1 c1;exact sym_one R dk W hs S P L2 Q x (by rw [hd]; simp) h2 sl2 hsz hn ha (by simpa using hm) hb
 by_cases c2 : L2.length = 1
 ·obtain ⟨x, rfl⟩ := List.length_eq_one_iff.1 c2;exact sym_last R dk W hs S P L1 Q x (by rw [hd]; simp) (by omega) sl1 hsz hn ha hm (by simpa using hb)
 have hlen : dk.size = P.length + L1.length + L2.length + Q.length := by rw [<- Array.length_toList, hd]; simp; omega
 obtain ⟨mid, hmid⟩ : ∃ mid, mid = (a + b) / 2 := ⟨_, rfl⟩
 obtain ⟨nn, hnn⟩ : ∃ nn, nn = mid + m := ⟨_, rfl⟩
 obtain ⟨lo, hi, hlo⟩ : ∃ lo hi, (mid < m /\ lo = nn - b /\ hi = mid) \/ (m <= mid /\ lo = a /\ hi = m) := by
  rcases Nat.lt_or_ge mid m with h | h
  ·exact ⟨_, _, Or.inl ⟨h, rfl, rfl⟩⟩
  ·exact ⟨_, _, Or.inr ⟨h, rfl, rfl⟩⟩
 have HSP := Bx.mk (fun s => sym_split (s := s) hd ha hm hb h1 h2 sl1 sl2 hmid hnn hlo);have HIH := Bx.mk IH;have HS := Bx.mk S;have HD := Bx.mk hd;have HSD := Bx.mk hs;have hnb : n < 1000000000 := by omega
 have hbn : b <= n := by omega
 have HM := Bx.mk (And.intro hm hb);have HA := Bx.mk ha;have HN := Bx.mk hn;have HNN := Bx.mk (And.intro hN (And.intro sl1 sl2));have ham : a + 2 <= m := by omega
 have hmb : m + 2 <= b := by omega
 have hmida : a <= mid := by omega
 have hmidb : mid < b := by omega
 have hamid : a < mid := by omega
 have hq1 : ((a : Int) + (b : Int)) / 2 = (mid : Int) := by omega
 have w1 : IntKind.i64.wrap ((m : Int) - (a : Int)) = ((m - a : Nat) : Int) := by rw [IntWalk.i64_in _ (by omega)]; omega
 have w2 : IntKind.i64.wrap ((b : Int) - (m : Int)) = ((b - m : Nat) : Int) := by rw [IntWalk.i64_in _ (by omega)]; omega
 have t1 : (((m - a : Nat) : Int) == 1) = false := by simp; omega
 have t2 : (((b - m : Nat) : Int) == 1) = false := by simp; omega
 have t1' : ¬ (m - a = 1) := by omega
 have t2' : ¬ (b - m = 1) := by omega
 have w3 : IntKind.i64.wrap ((mid : Int) + (m : Int)) = (nn : Int) := by rw [IntWalk.i64_in _ (by omega)]; omega
 have HNNM := Bx.mk hnn;have hnnb : nn <= 2000000000 := by omega
 have hbnn : mid < m -> b <= nn := by omega
 have hlos : lo <= hi /\ hi < b /\ nn - lo <= b /\ hi <= nn /\ 0 < nn /\ lo <= nn := by omega
 clear S hd sl1 sl2 hs hb ha hm hn hlen c1 c2 hN IH h1 h2 hnn hmid;unfold cmpV;go_enter Tryz.func158, Tryz.ntmps158;go_upto_if 140 with fail
 clear t1 t2 t1' t2' w1 w2 w3 hq1;go_cut [20, 21] (fun sv rv wx => sv = .int .i64 (lo : Nat) /\ rv = .int .i64 (hi : Nat) /\ wx = W)
 case first =>
  rcases hlo with ⟨g1, g2, g3⟩ | ⟨g1, g2, g3⟩
  ·have g4 : decide ((m : Int) > (mid : Int)) = true := zT (by omega);have g4' : decide (mid < m) = true := zT (by omega);have w4 : IntKind.i64.wrap ((nn : Int) - (b : Int)) = (lo : Int) := by have := hbnn g1; rw [IntWalk.i64_in _ (by omega)]; omega
   go_wp2_with fail
   go_meet;exact ⟨by rw [g2], by rw [g3], rfl⟩
  ·have g4 : decide ((m : Int) > (mid : Int)) = false := zF (by omega);have g4' : decide (mid < m) = false := zF (by omega);go_wp2_with fail
   go_meet;exact ⟨by rw [g2], by rw [g3], rfl⟩
 case rest =>
 obtain ⟨rfl, rfl, hwc⟩ := hcut;subst hwc;have wp : IntKind.i64.wrap ((nn : Int) - 1) = ((nn - 1 : Nat) : Int) := by rw [IntWalk.i64_in _ (by omega)]; omega
 go_wp2_with fail
 clear hlo hbnn wp;obtain ⟨p, hp⟩ : ∃ p, p = nn - 1 := ⟨_, rfl⟩
 rw [<- hp];have hpb : p < lo + b := by omega
 have hhip : hi <= p + 1 := by omega
 have HP := Bx.mk hp;clear hp;go_loopw [20, 21] (fun sv rv wr => ∃ (s r : Nat), sv = .int .i64 (s : Nat) /\ rv = .int .i64 (r : Nat) /\ lo <= s /\ s <= r /\ r <= hi /\ Bx (SymA dk nn lo hi s r) /\ Bx (SWK encN 4 w0 blk off dk wr)) (fun iv jv _ => (intOf jv).toNat - (intOf iv).toNat)
 case atStart => exact ⟨lo, hi, rfl, rfl, by omega, by omega, by omega, ⟨by omega, by omega, by omega, fun h => by omega, fun h => by omega⟩, HS⟩
 case round =>
  obtain ⟨s, r, rfl, rfl, hls, hsr, hrh, hB, hS⟩ := hrel;by_cases hlt : s < r
  ·obtain ⟨c, hc⟩ : ∃ c, c = (s + r) / 2 := ⟨_, rfl⟩
   have hsc : s <= c := by omega
   have hcr : c < r := by omega
   obtain ⟨v, hv⟩ : ∃ v, v = p - c := ⟨_, rfl⟩
   have wv : IntKind.i64.wrap ((p : Int) - (c : Int)) = (v : Int) := by rw [IntWalk.i64_in _ (by omega)]; omega
   have hcn : c < n := by omega
   have hvn : v < n := by omega
   obtain ⟨hd1, hp1, hs1, ha1, hn1, hc1, he1, hv1⟩ := enc_parts dk[v]!;obtain ⟨ad1, ap1, as1, aa1, an1, ac1, ae1, av1⟩ := enc_parts dk[c]!;have lh := fun q os => swk_load R HSD.out hS.out v (by rw [<- HN.out]; exact hvn) he1 q os
   have la := fun q os => swk_load R HSD.out hS.out c (by rw [<- HN.out]; exact hcn) ae1 q os
   have hcg := fun (q : Nat) (os : Array Obj) => before_any dk[v]! dk[c]! (grow (wr.drewN q) os)
   rw [hv1, av1] at hcg;have hq2 : ((s : Int) + (r : Int)) / 2 = (c : Int) := by omega
   have HV := Bx.mk (show v = nn - 1 - c by have := HP.out; omega);clear hc hv hv1 av1 he1 ae1;have lh0 := fun q os => (lh q os).1
   have lh1 := fun q os => (lh q os).2.1
   have lh2 := fun q os => (lh q os).2.2.1
   have lh3 := fun q os => (lh q os).2.2.2
   have la0 := fun q os => (la q os).1
   have la1 := fun q os => (la q os).2.1
   have la2 := fun q os => (la q os).2.2.1
   have la3 := fun q os => (la q os).2.2.2
   clear lh la;have mixed : Tryz.prog.follows .mixedOrders = true := by kernel_rfl
   have eg : ∀ args w, (callFunc 117 args).run Tryz.prog w = .ok (.enter 117 args) w := fun _ _ => rfl
   by_cases hlt2 : cfN dk[v]! dk[c]! < 0
   ·have tn : (!decide (cfN dk[v]! dk[c]! < 0)) = false := by rw [zT hlt2]; rfl
    as_aux_lemma =>
    go_wp2_with fail
    go_quiet_grown (first | (go_at_fn 117; refine Calls.grown_of (hcg _ _)))
    go_wp2
    go_roundw
    case rel =>
     refine ⟨s, c, rfl, rfl, hls, hsc, by omega, ⟨?_⟩, ⟨hS.out.grown _ _⟩⟩;refine hB.out.down hsc hcr ?_;rw [<- HV.out]; exact zT hlt2
    case measure => simp [intOf]; omega
   ·have tn : (!decide (cfN dk[v]! dk[c]! < 0)) = true := by rw [zF hlt2]; rfl
    as_aux_lemma =>
    go_wp2_with fail
    go_quiet_grown (first | (go_at_fn 117; refine Calls.grown_of (hcg _ _)))
    go_wp2
    go_roundw
    case rel =>
     refine ⟨c + 1, r, by go_num, rfl, by omega, by omega, hrh, ⟨?_⟩, ⟨hS.out.grown _ _⟩⟩;refine hB.out.up hsc hcr ?_;rw [<- HV.out]; exact zF (Int.not_lt.2 hlt2)
    case measure => simp [intOf]; omega
  ·obtain rfl : s = r := by omega
   obtain ⟨U1, U2, V1, V2, e1, e2, l1, l2, k1, k2, k3, k4, k5, f1, f2⟩ := HSP.out s hB.out;obtain ⟨en, hen⟩ : ∃ en, en = nn - s := ⟨_, rfl⟩
   have we : IntKind.i64.wrap ((nn : Int) - (s : Int)) = (en : Int) := by rw [IntWalk.i64_in _ (by omega)]; omega
   have hl1 : L1.length = U1.length + U2.length := by rw [e1]; simp
   have hl2 : L2.length = V1.length + V2.length := by rw [e2]; simp
   have HMD := Bx.mk (show mid = s + V1.length by have := HNNM.out; omega);have HLE := Bx.mk (show U1.length + U2.length = m - a /\ V1.length + V2.length = b - m /\ m + V1.length = en /\ en <= b /\ m <= en by have := HM.out; omega);have HU := Bx.mk (And.intro e1 (And.intro e2 (And.intro f1 f2)));have HL1 := Bx.mk l1;have hen2 : en <= b := by omega
   have HQ := Bx.mk (And.intro k1 (And.intro k4 k5));clear e1 e2 f1 f2 hen l2 l1 k1 k2 k3 k4 k5 hl1 hl2 hB hhip hpb hlos;obtain ⟨C1, hC1⟩ : ∃ c : Bool, c = decide (s < m /\ m < en) := ⟨_, rfl⟩
   go_upto_region 39 with fail
   go_cut [185] (fun c wx => c = .bool C1 /\ wx = wr)
   case first =>
    by_cases g1 : s < m
    ·have hc : C1 = decide (m < en) := by rw [hC1]; simp [g1]
     clear hC1
     as_aux_lemma =>
      go_wp2_with fail
      all_goals go_meet
      all_goals exact ⟨by first | (rw [hc]; done) | (rw [hc]; simp [*]), rfl⟩
    ·have hc : C1 = false := by rw [hC1]; exact zF (fun h => g1 h.1)
     clear hC1
     as_aux_lemma =>
      go_wp2_with fail
      go_meet;exact ⟨by rw [hc], rfl⟩
   case rest =>
   obtain ⟨rfl, rfl⟩ := hcut;go_upto_if 185 with fail
   go_cut [24] (fun ev wx => ev = .int .i64 (en : Nat) /\ ∃ dk1 : Array Nt, Bx (dk1.size = n /\ dk1.toList = P ++ ((U1 ++ V1) ++ ((U2 ++ V2) ++ Q))) /\ Bx (SWK encN 4 w0 blk off dk1 wx))
   case first =>
    cases C1
    ·have hx : U2 = [] \/ V1 = [] := by
      have hc := of_decide_eq_false hC1.symm;have q1 := HLE.out;have q2 := HL1.out;have q3 := HQ.out;by_cases hu : U2.length = 0
      ·exact Or.inl (List.eq_nil_of_length_eq_zero hu)
      ·exact Or.inr (List.eq_nil_of_length_eq_zero (by omega))
     have HX := Bx.mk hx;clear hx hC1
     as_aux_lemma =>
     go_wp2_with fail
     go_meet;refine ⟨rfl, dk, ⟨HN.out.symm, ?_⟩, hS⟩;rw [HD.out, HU.out.1, HU.out.2.1];rcases HX.out with rfl | rfl <;> simp
    ·have hc := of_decide_eq_true hC1.symm;have q1 := HLE.out;have q2 := HL1.out;have q3 := HQ.out;have q4 := HA.out;have hrot := rot_any R dk wc HSD.out hS.out (cap := cap) (P ++ U1) U2 V1 (V2 ++ Q) (by rw [HD.out, HU.out.1, HU.out.2.1]; simp) (by omega) (by omega) hsz (n := n) (a := s) (m := m) (b := en) HN.out (by rw [List.length_append]; omega) (by rw [List.length_append]; omega) (by rw [List.length_append]; omega) cmpV;unfold cmpV at hrot;clear hc hC1 q1 q2 q3 q4 hS
     as_aux_lemma =>
     go_wp2_with fail
     refine hrot.mono ?_;rintro e w2 ⟨rfl, dk2, hdk, hS2⟩;have HDK := Bx.mk hdk;have HS2 := Bx.mk hS2;clear hrot hdk hS2
     as_aux_lemma =>
     go_wp2_with fail
     go_meet;refine ⟨rfl, dk2, ⟨?_, by rw [HDK.out]; simp⟩, HS2⟩;rw [HN.out, <- Array.length_toList, <- Array.length_toList, HDK.out, HD.out, HU.out.1, HU.out.2.1];simp only [List.length_append]; omega
   case rest =>
   obtain ⟨rfl, dk1, HD1, HS1⟩ := hcut;obtain ⟨WA, hWA⟩ : ∃ WA, WA = wc := ⟨_, rfl⟩
   subst hWA;clear hS hC1;obtain ⟨C2, hC2⟩ : ∃ c : Bool, c = decide (a < s /\ s < mid) := ⟨_, rfl⟩
   go_upto_region 41 with fail
   go_cut [199] (fun c wx => c = .bool C2 /\ wx = WA)
   case first =>
    by_cases g1 : a < s
    ·have hc : C2 = decide (s < mid) := by rw [hC2]; simp [g1]
     clear hC2
     as_aux_lemma =>
      go_wp2_with fail
      all_goals go_meet
      all_goals exact ⟨by first | (rw [hc]; done) | (rw [hc]; simp [*]), rfl⟩
    ·have hc : C2 = false := by rw [hC2]; exact zF (fun h => g1 h.1)
     clear hC2
     as_aux_lemma =>
      go_wp2_with fail
      go_meet;exact ⟨by rw [hc], rfl⟩
   case rest =>
   obtain ⟨rfl, rfl⟩ := hcut;obtain ⟨WB, hWB⟩ : ∃ WB, WB = wc := ⟨_, rfl⟩
   subst hWB;go_upto_if 199 with fail
   go_cut [24] (fun ev wx => ev = .int .i64 (en : Nat) /\ ∃ (dk2 : Array Nt) (C : List Nt), Bx (dk2.size = n /\ dk2.toList = P ++ (C ++ ((U2 ++ V2) ++ Q)) /\ Srt ltN C /\ Stab ltN (U1 ++ V1) C) /\ Bx (SWK encN 4 w0 blk off dk2 wx))
   case first =>
    cases C2
    ·have hx : U1 = [] \/ V1 = [] := by
      have hc := of_decide_eq_false hC2.symm;have q1 := HLE.out;have q2 := HL1.out;have q3 := HQ.out;have q5 := HMD.out;by_cases hu : U1.length = 0
      ·exact Or.inl (List.eq_nil_of_length_eq_zero hu)
      ·exact Or.inr (List.eq_nil_of_length_eq_zero (by omega))
     have HX := Bx.mk hx;clear hx hC2
     as_aux_lemma =>
     go_wp2_with fail
     go_meet;refine ⟨rfl, dk1, U1 ++ V1, ⟨HD1.out.1, HD1.out.2, ?_, Stab.refl _⟩, HS1⟩;have s1 := HNN.out.2.1;have s2 := HNN.out.2.2;rw [HU.out.1] at s1;rw [HU.out.2.1] at s2;have s1' := (Srt.append.1 s1).1;have s2' := (Srt.append.1 s2).1;rcases HX.out with rfl | rfl
     ·simpa using s2'
     ·simpa using s1'
    ·have hc := of_decide_eq_true hC2.symm;have q1 := HLE.out;have q2 := HL1.out;have q3 := HQ.out;have q4 := HA.out;have q5 := HMD.out;have q6 := HNN.out.1;have q7 := HM.out;have s1 := HNN.out.2.1;have s2 := HNN.out.2.2;rw [HU.out.1] at s1;rw [HU.out.2.1] at s2;have q8 : L1.length = U1.length + U2.length := (by rw [HU.out.1]; simp);have q9 : L2.length = V1.length + V2.length := (by rw [HU.out.2.1]; simp);have hrec := HIH.out dk1 WB P U1 V1 ((U2 ++ V2) ++ Q) n a s mid (by omega) (by rw [HD1.out.1, HN.out]; exact HSD.out) HS1.out HD1.out.2 (by omega) (by omega) (Srt.append.1 s1).1 (Srt.append.1 s2).1 (by rw [HD1.out.1]; exact hnb) HD1.out.1.symm q4 (by omega) (by omega);unfold cmpV at hrec;clear hc hC2 q1 q2 q3 q4 q5 q6 q7 q8 q9 s1 s2
     as_aux_lemma =>
     go_wp2_with fail
     refine hrec.mono ?_;rintro e w2 ⟨rfl, dk2, C, hdk, hsc, hst, hS2⟩;have HDK := Bx.mk (And.intro hdk (And.intro hsc hst));have HS2 := Bx.mk hS2;clear hrec hdk hS2 hsc hst;go_wp2_with fail
     go_meet;obtain ⟨hdk, hsc, hst⟩ := HDK.out;refine ⟨rfl, dk2, C, ⟨?_, hdk, hsc, hst⟩, HS2⟩;have := hst.length ltN_ord;rw [<- HD1.out.1, <- Array.length_toList, <- Array.length_toList, hdk, HD1.out.2];simp only [List.length_append] at this |-; omega
   case rest =>
   obtain ⟨rfl, dk2, C, HD2, HS2⟩ := hcut;obtain ⟨WC, hWC⟩ : ∃ WC, WC = wc := ⟨_, rfl⟩
   subst hWC;clear HS1 hC2;obtain ⟨C3, hC3⟩ : ∃ c : Bool, c = decide (mid < en /\ en < b) := ⟨_, rfl⟩
   go_upto_region 43 with fail
   go_cut [213] (fun c wx => c = .bool C3 /\ wx = WC)
   case first =>
    by_cases g1 : mid < en
    ·have hc : C3 = decide (en < b) := by rw [hC3]; simp [g1]
     clear hC3
     as_aux_lemma =>
      go_wp2_with fail
      all_goals go_meet
      all_goals exact ⟨by first | (rw [hc]; done) | (rw [hc]; simp [*]), rfl⟩
    ·have hc : C3 = false := by rw [hC3]; exact zF (fun h => g1 h.1)
     clear hC3
     as_aux_lemma =>
      go_wp2_with fail
      go_meet;exact ⟨by rw [hc], rfl⟩
   case rest =>
   obtain ⟨rfl, rfl⟩ := hcut;have HF := Bx.mk (fun D h1 h2 => merge_rot ltN_ord (D := D) (by rw [<- HU.out.1]; exact HNN.out.2.1) (by rw [<- HU.out.2.1]; exact HNN.out.2.2) HU.out.2.2.1 HU.out.2.2.2 HD2.out.2.2.1 HD2.out.2.2.2 h1 h2)
   cases C3
   ·have hx : U2 = [] \/ V2 = [] := by
     have hc := of_decide_eq_false hC3.symm;have q1 := HLE.out;have q2 := HL1.out;have q3 := HQ.out;have q5 := HMD.out;by_cases hu : U2.length = 0
     ·exact Or.inl (List.eq_nil_of_length_eq_zero hu)
     ·exact Or.inr (List.eq_nil_of_length_eq_zero (by omega))
    have HX := Bx.mk hx;clear hx hC3;go_wp2_with fail
    go_end0
    have s1 := HNN.out.2.1;have s2 := HNN.out.2.2;rw [HU.out.1] at s1;rw [HU.out.2.1] at s2
    have hsd : Srt ltN (U2 ++ V2) := by
     have s1' := (Srt.append.1 s1).2.1;have s2' := (Srt.append.1 s2).2.1;rcases HX.out with rfl | rfl
     ·simpa using s2'
     ·simpa using s1'
    have hF := HF.out (U2 ++ V2) hsd (Stab.refl _);refine ⟨rfl, dk2, C ++ (U2 ++ V2), by rw [HD2.out.2.1]; simp, hF.1, ?_, HS2.out⟩;rw [HU.out.1, HU.out.2.1]; exact hF.2
   ·have hc := of_decide_eq_true hC3.symm;have q1 := HLE.out;have q2 := HL1.out;have q3 := HQ.out;have q4 := HA.out;have q5 := HMD.out;have q6 := HNN.out.1;have q7 := HM.out;have s1 := HNN.out.2.1;have s2 := HNN.out.2.2;have qc := HD2.out.2.2.2.length ltN_ord;rw [List.length_append] at qc;rw [HU.out.1] at s1;rw [HU.out.2.1] at s2;have q8 : L1.length = U1.length + U2.length := (by rw [HU.out.1]; simp);have q9 : L2.length = V1.length + V2.length := (by rw [HU.out.2.1]; simp);have hrec := HIH.out dk2 wc (P ++ C) U2 V2 Q n mid en b (by omega) (by rw [HD2.out.1, HN.out]; exact HSD.out) HS2.out (by rw [HD2.out.2.1]; simp) (by omega) (by omega) (Srt.append.1 s1).2.1 (Srt.append.1 s2).2.1 (by rw [HD2.out.1]; exact hnb) HD2.out.1.symm (by rw [List.length_append]; omega) (by omega) (by omega);unfold cmpV at hrec;clear hc hC3 q1 q2 q3 q4 q5 q6 q7 q8 q9 s1 s2 qc;go_wp2_with fail
    refine hrec.mono ?_;rintro e w2 ⟨rfl, dk3, D, hdk, hsd, hst, hS3⟩;have HDK := Bx.mk (And.intro hdk (And.intro hsd hst));have HS3 := Bx.mk hS3;clear hrec hdk hS3 hsd hst;go_wp2_with fail
    go_end0
    obtain ⟨hdk, hsd, hst⟩ := HDK.out;have hF := HF.out D hsd hst;refine ⟨rfl, dk3, C ++ D, by rw [hdk]; simp, hF.1, ?_, HS3.out⟩;rw [HU.out.1, HU.out.2.1]; exact hF.2
end Go.Proofs.YtmagjdocondmhaaGreat.Tr
namespace Go.Proofs.YtmagjdocondmhaaGreat.St
section
variable {α : Type} {lt : α -> α -> Bool}
theorem Ch.nil (bs : Nat) : Ch lt bs [] := fun i => by simp [Srt]
theorem Ch.head {bs : Nat} {A B : List α} (h : Ch lt bs (A ++ B)) (hA : A.length = bs) : Srt lt A := by
 have := h 0;rw [Nat.zero_mul, List.drop_zero, <- hA, List.take_left] at this;exact this
theorem Ch.tail {bs : Nat} {A B : List α} (h : Ch lt bs (A ++ B)) (hA : A.length = bs) : Ch lt bs B := fun i => by
 have := h (i + 1);rw [show (i + 1) * bs = A.length + i * bs by rw [hA, Nat.succ_mul]; omega, List.drop_append, List.drop_eq_nil_of_le (by omega), List.nil_append, Nat.add_sub_cancel_left] at this;exact this
theorem Ch.snoc {bs k : Nat} {A C : List α} (h : Ch lt bs A) (hA : A.length = k * bs) (hc : Srt lt C) (hl : C.length <= bs) : Ch lt bs (A ++ C) := fun i => by
 rcases Nat.lt_trichotomy i k with hi | hi | hi
 ·have h1 : i * bs + bs <= A.length := by rw [hA, <- Nat.succ_mul]; exact Nat.mul_le_mul_right _ hi
  rw [List.drop_append_of_le_length (by omega), List.take_append_of_le_length (by rw [List.length_drop]; omega)];exact h i
 ·rw [hi, <- hA, List.drop_left, List.take_of_length_le hl];exact hc
 ·have h1 : k * bs + bs <= i * bs := by rw [<- Nat.succ_mul]; exact Nat.mul_le_mul_right _ hi
  rw [List.drop_eq_nil_of_le (by rw [List.length_append]; omega)];simp [Srt]
end
end Go.Proofs.YtmagjdocondmhaaGreat.St
namespace Go.Proofs.YtmagjdocondmhaaGreat.Tr
open Go Go.RowKit Go.Sort Slc St
attribute [local go_sem] Oper.semAt_some
theorem enters_before : ∀ args w, (callFunc 117 args).run Tryz.prog w = .ok (.enter 117 args) w := enters_of Tryz.func117 (by kernel_rfl) rfl
theorem lays_any (blk off size : Nat) (w : World) : CmpLays Tryz.prog 117 #[] encN 4 cfN blk off size w := fun _ _ _ _ x y => before_any x y _
theorem ins_any {w0 : World} {blk off cap : Nat} {d0 : Array Nt} (R : RowK encN 4 w0 blk off d0) (dk : Array Nt) (W : World) (hs : dk.size = d0.size) (S : SWK encN 4 w0 blk off dk W) (P L Q : List Nt) (hd : dk.toList = P ++ (L ++ Q)) (hsz : dk.size < 4611686018427387904)
  {n a b : Nat} (hn : n = dk.size) (ha : a = P.length) (hb : b = P.length + L.length) :
  Calls Tryz.prog 157 #[.slice (some ⟨blk, off, none⟩) n cap, .int .i64 (a : Nat), .int .i64 (b : Nat), cmpV] W fun e w' =>
   e = .returned (.tuple #[]) /\ ∃ (dk' : Array Nt) (S' : List Nt), dk'.toList = P ++ (S' ++ Q) /\ Srt ltN S' /\ Stab ltN L S' /\ SWK encN 4 w0 blk off dk' w' := by
 subst hn ha hb;have hlen : dk.size = P.length + L.length + Q.length := by rw [<- Array.length_toList, hd]; simp; omega
 have hH := S.holds R.hblk R.hH hs;have hblk : blk < W.heap.size := S.lt R.hblk;have hc := AnyQ.insertionSortCmpFunc Tryz.insK 4 Tryz.isAgg111 Tryz.sizeOf111 encN R.hk R.h1 cfN 117 #[] blk off cap P.length (P.length + L.length) dk W enters_before (lays_any _ _ _ _) hH hblk (by omega) (by omega) hsz
 change Calls Tryz.prog 157 _ _ _ at hc
 refine hc.mono ?_;rintro e w' ⟨rfl, m, os, rfl⟩;obtain ⟨S', h1, h2, h3⟩ := insSort_list ltN_ord P L Q dk hd;refine ⟨rfl, _, S', h1, h2, h3, ?_⟩;refine S.on R.hblk m _ os ?_;have h4 := h3.length ltN_ord;rw [<- Array.length_toList, h1];simp only [List.length_append]
 omega
theorem stable_any {w0 : World} {blk off cap : Nat} {d0 : Array Nt} (R : RowK encN 4 w0 blk off d0) (hsz : d0.size < 1000000000) (S : SWK encN 4 w0 blk off d0 w0) {n : Nat} (hn : n = d0.size) :
  Calls Tryz.prog 131 #[.slice (some ⟨blk, off, none⟩) n cap, .int .i64 (n : Nat), cmpV] w0 fun e w' =>
   e = .returned (.tuple #[]) /\ ∃ (dk' : Array Nt), Srt ltN dk'.toList /\ Stab ltN d0.toList dk'.toList /\ SWK encN 4 w0 blk off dk' w' := by
 have HS := Bx.mk S;have HN := Bx.mk hn;have hnb : n < 1000000000 := by omega
 clear S hn hsz;unfold cmpV;go_enter Tryz.func131, Tryz.ntmps131;go_wp2_with fail
 go_loopw [7, 8] (fun av bv wr => ∃ (k a : Nat) (dk : Array Nt) (S' T : List Nt), av = .int .i64 (a : Nat) /\ bv = .int .i64 ((a + 20 : Nat) : Int) /\ a <= n /\ Bx (a = k * 20 /\ S'.length = a /\ dk.size = n /\ dk.toList = S' ++ T /\ Stab ltN d0.toList (S' ++ T) /\ Ch ltN 20 S') /\ Bx (SWK encN 4 w0 blk off dk wr)) (fun av bv _ => 2000000000 - (intOf bv).toNat)
 case atStart => exact ⟨0, 0, d0, [], d0.toList, rfl, rfl, by omega, ⟨by omega, rfl, HN.out.symm, rfl, Stab.refl _, Ch.nil _⟩, HS⟩
 case round =>
  obtain ⟨k, a, dk, S', T, rfl, rfl, han, hB, hS⟩ := hrel;by_cases hlt : a + 20 <= n
  ·have hT : dk.size = S'.length + T.length := by rw [<- Array.length_toList, hB.out.2.2.2.1]; simp
   obtain ⟨A, T', hTT, hA⟩ := split_len (l := T) (n := 20) (by have := hB.out; omega);have hins := ins_any R dk wr (by have := hB.out; have := HN.out; omega) hS.out (cap := cap) S' A T' (by rw [hB.out.2.2.2.1, hTT]) (by have := hB.out; omega) (n := n) (a := a) (b := a + 20) hB.out.2.2.1.symm hB.out.2.1.symm (by have := hB.out; omega);have HT := Bx.mk (And.intro hTT hA);have hltz : ((a + 20 : Nat) : Int) <= (n : Int) := by omega
   have wa : IntKind.i64.wrap (((a + 20 : Nat) : Int) + 20) = ((a + 20 + 20 : Nat) : Int) := by rw [IntWalk.i64_in _ (by omega)]; omega
   unfold cmpV at hins;clear hTT hA hT hS;go_wp2_with fail
   refine hins.mono ?_;rintro e w2 ⟨rfl, dk2, C, hdk, hsc, hst, hS2⟩;have HDK := Bx.mk (And.intro hdk (And.intro hsc hst));have HS2 := Bx.mk hS2;clear hins hdk hS2 hsc hst;go_wp2_with fail
   go_roundw
   case rel =>
    obtain ⟨q1, q2, q3, q4, q5, q6⟩ := hB.out;obtain ⟨t1, t2⟩ := HT.out;obtain ⟨d1, d2, d3⟩ := HDK.out;have dl := d3.length ltN_ord
    have e1 : Stab ltN (S' ++ T) ((S' ++ C) ++ T') := by
     rw [t1, <- List.append_assoc]; exact (d3.mid S' T')
    refine ⟨k + 1, a + 20, dk2, S' ++ C, T', rfl, by first | rfl | go_num, hlt, ⟨by omega, by rw [List.length_append]; omega, ?_, by rw [d1]; simp, q5.trans e1, q6.snoc (k := k) (by omega) d2 (by omega)⟩, HS2⟩;rw [<- q3, <- Array.length_toList, <- Array.length_toList, d1, q4, t1];simp only [List.length_append]; omega
   case measure => simp [intOf]; omega
  ·have hT : dk.size = S'.length + T.length := by rw [<- Array.length_toList, hB.out.2.2.2.1]; simp
   have hins := ins_any R dk wr (by have := hB.out; have := HN.out; omega) hS.out (cap := cap) S' T [] (by rw [hB.out.2.2.2.1]; simp) (by have := hB.out; omega) (n := n) (a := a) (b := n) hB.out.2.2.1.symm hB.out.2.1.symm (by have := hB.out; omega);have HT := Bx.mk hT;have hltz : ¬ ((a + 20 : Nat) : Int) <= (n : Int) := by omega
   unfold cmpV at hins;clear hT hS;go_wp2_with fail
   refine hins.mono ?_;rintro e w2 ⟨rfl, dk2, C, hdk, hsc, hst, hS2⟩
   have HD2 := Bx.mk (show dk2.size = n /\ Stab ltN d0.toList dk2.toList /\ Ch ltN 20 dk2.toList by
    obtain ⟨q1, q2, q3, q4, q5, q6⟩ := hB.out;have dl := hst.length ltN_ord;have ht := HT.out;have e0 : dk2.toList = S' ++ C := (by rw [hdk]; simp);have e1 : Stab ltN (S' ++ T) (S' ++ C) := (Stab.refl S').append hst;refine ⟨?_, by rw [e0]; exact q5.trans e1, by rw [e0]; exact q6.snoc (k := k) (by omega) hsc (by omega)⟩
    rw [<- Array.length_toList, e0, List.length_append]; have := HT.out; omega)
   have HS2 := Bx.mk hS2;clear hins hdk hS2 hsc hst hB HT;go_wp2_with fail
   go_loopw [6, 7, 8, 9] (fun sv av bv mv wr => ∃ (bs : Nat) (dk : Array Nt), sv = .int .i64 (bs : Nat) /\ 0 < bs /\ bs <= 2000000000 /\ Bx (dk.size = n /\ Stab ltN d0.toList dk.toList /\ Ch ltN bs dk.toList) /\ Bx (SWK encN 4 w0 blk off dk wr)) (fun sv _ _ _ _ => 3000000000 - (intOf sv).toNat)
   case atStart => exact ⟨20, dk2, rfl, by omega, by omega, HD2, HS2⟩
   case round =>
    clear HD2 HS2 hltz;obtain ⟨bs, dk, rfl, hb0, hbb, hB, hS⟩ := hrel;by_cases hlt : bs < n
    ·obtain ⟨d, hd⟩ : ∃ d, d = bs + bs := ⟨_, rfl⟩
     have w1 : IntKind.i64.wrap (2 * (bs : Int)) = (d : Int) := (by rw [IntWalk.i64_in _ (by omega)]; omega);have w1' : IntKind.i64.wrap ((bs : Int) * 2) = (d : Int) := (by rw [IntWalk.i64_in _ (by omega)]; omega);have hbd : bs < d := (by omega);have hdb : d <= 2000000000 := (by omega);have HDD := Bx.mk hd;clear hd;go_wp2_with fail
     go_loopw [7, 8] (fun av bv wr => ∃ (k a b : Nat) (dj : Array Nt) (S' T : List Nt), av = .int .i64 (a : Nat) /\ bv = .int .i64 (b : Nat) /\ a + bs < b /\ b <= n + d /\ Bx (b = a + d /\ a = k * d /\ S'.length = a /\ dj.size = n /\ dj.toList = S' ++ T /\ Stab ltN d0.toList (S' ++ T) /\ Ch ltN d S' /\ Ch ltN bs T) /\ Bx (SWK encN 4 w0 blk off dj wr)) (fun av bv _ => 6000000000 - (intOf bv).toNat)
     case atStart => exact ⟨0, 0, d, dk, [], dk.toList, rfl, rfl, by omega, by omega, ⟨by omega, by omega, rfl, hB.out.1, rfl, hB.out.2.1, Ch.nil _, hB.out.2.2⟩, hS⟩
     case round =>
      obtain ⟨k, a, b, dj, S', T, rfl, rfl, hab, hbnd, hB2, hS2⟩ := hrel
      have hT : n = a + T.length := by
       have h1 : dj.size = S'.length + T.length := (by rw [<- Array.length_toList, hB2.out.2.2.2.2.1]; simp);have := hB2.out; omega
      obtain ⟨m, hm⟩ : ∃ m, m = a + bs := ⟨_, rfl⟩
      have wm : IntKind.i64.wrap ((a : Int) + (bs : Int)) = (m : Int) := (by rw [IntWalk.i64_in _ (by omega)]; omega);have wb : IntKind.i64.wrap ((b : Int) + (d : Int)) = ((b + d : Nat) : Int) := (by rw [IntWalk.i64_in _ (by omega)]; omega);by_cases hbn : b <= n
      ·obtain ⟨A1, T1, e1, l1⟩ := split_len (l := T) (n := bs) (by omega)
       obtain ⟨A2, T2, e2, l2⟩ := split_len (l := T1) (n := bs) (by
        have := congrArg List.length e1; rw [List.length_append] at this
        have := hB2.out; have := HDD.out; omega)
       have ch := hB2.out.2.2.2.2.2.2.2;rw [e1] at ch;have s1 := ch.head l1;have ch2 := ch.tail l1;rw [e2] at ch2;have s2 := ch2.head l2;have hmg := sym_any R (A1.length + A2.length) dj wr S' A1 A2 T2 n a m b (zR _) (by have := HN.out; have := hB2.out; omega) hS2.out (by rw [hB2.out.2.2.2.2.1, e1, e2]; simp) (by omega) (by omega) s1 s2 (by have := hB2.out; omega) hB2.out.2.2.2.1.symm hB2.out.2.2.1.symm (by omega) (by have := hB2.out; have := HDD.out; omega) (cap := cap);have HT := Bx.mk (show T = (A1 ++ A2) ++ T2 /\ A1.length = bs /\ A2.length = bs /\ Ch ltN bs T2 /\ m = a + bs by exact ⟨by rw [e1, e2]; simp, l1, l2, ch2.tail l2, hm⟩);unfold cmpV at hmg;clear e1 e2 l1 l2 ch s1 ch2 s2 hS2 hm hT;go_wp2_with fail
       refine hmg.mono ?_;rintro e w2 ⟨rfl, dk2, C, hdk, hsc, hst, hS3⟩;have HDK := Bx.mk (And.intro hdk (And.intro hsc hst));have HS3 := Bx.mk hS3;clear hmg hdk hS3 hsc hst;go_wp2_with fail
       go_roundw
       case rel =>
        obtain ⟨q1, q2, q3, q4, q5, q6, q7, q8⟩ := hB2.out;obtain ⟨t1, t2, t3, t4, t5⟩ := HT.out;obtain ⟨d1, d2, d3⟩ := HDK.out;have dl := d3.length ltN_ord;rw [List.length_append] at dl;have hd := HDD.out
        have e1 : Stab ltN (S' ++ T) ((S' ++ C) ++ T2) := by
         rw [t1, <- List.append_assoc]; exact (d3.mid S' T2)
        refine ⟨k + 1, b, b + d, dk2, S' ++ C, T2, rfl, by first | rfl | go_num, by omega, by omega, ⟨rfl, by rw [Nat.succ_mul]; omega, by rw [List.length_append]; omega, ?_, by rw [d1]; simp, q6.trans e1, q7.snoc (k := k) (by omega) d2 (by omega), t4⟩, HS3⟩;rw [<- q4, <- Array.length_toList, <- Array.length_toList, d1, q5, t1];simp only [List.length_append]; omega
       case measure => simp [intOf]; omega
      ·by_cases hmn : m < n
       ·obtain ⟨A1, A2, e1, l1⟩ := split_len (l := T) (n := bs) (by omega);have ch := hB2.out.2.2.2.2.2.2.2;rw [e1] at ch;have s1 := ch.head l1;have l2 : A1.length + A2.length = T.length := (by rw [e1, List.length_append]);have s2 := (ch.tail l1).all (by have := hB2.out; have := HDD.out; omega);have hmg := sym_any R (A1.length + A2.length) dj wr S' A1 A2 [] n a m n (zR _) (by have := HN.out; have := hB2.out; omega) hS2.out (by rw [hB2.out.2.2.2.2.1, e1]; simp) (by omega) (by omega) s1 s2 (by have := hB2.out; omega) hB2.out.2.2.2.1.symm hB2.out.2.2.1.symm (by omega) (by omega) (cap := cap);have HT := Bx.mk (show T = A1 ++ A2 /\ A1.length + A2.length <= d /\ n = a + T.length by exact ⟨e1, by have := hB2.out; omega, hT⟩);unfold cmpV at hmg;clear e1 l1 l2 ch s1 s2 hS2 hm hT;go_wp2_with fail
        refine hmg.mono ?_;rintro e w2 ⟨rfl, dk2, C, hdk, hsc, hst, hS3⟩;have HDK := Bx.mk (And.intro hdk (And.intro hsc hst));have HS3 := Bx.mk hS3;clear hmg hdk hS3 hsc hst;go_wp2_with fail
        go_roundw
        case rel =>
         obtain ⟨q1, q2, q3, q4, q5, q6, q7, q8⟩ := hB2.out;obtain ⟨t1, t2, t3⟩ := HT.out;obtain ⟨d1, d2, d3⟩ := HDK.out;have dl := d3.length ltN_ord;rw [List.length_append] at dl;have hd := HDD.out;rw [List.append_nil] at d1;have e1 : Stab ltN (S' ++ T) (S' ++ C) := (by rw [t1]; exact (Stab.refl S').append d3);refine ⟨d, dk2, rfl, by omega, hdb, ⟨?_, by rw [d1]; exact q6.trans e1, by rw [d1]; exact q7.snoc (k := k) (by omega) d2 (by omega)⟩, HS3⟩;rw [<- Array.length_toList, d1, List.length_append];rw [t1, List.length_append] at t3; omega
        case measure => simp [intOf]; omega
       ·have HT := Bx.mk (show T.length <= bs by omega);clear hT hm;go_wp2_with fail
        go_roundw
        case rel =>
         obtain ⟨q1, q2, q3, q4, q5, q6, q7, q8⟩ := hB2.out;have ht := HT.out;refine ⟨d, dj, rfl, by omega, hdb, ⟨q4, by rw [q5]; exact q6, by rw [q5]; exact q7.snoc (k := k) (by omega) (q8.all ht) (by omega)⟩, hS2⟩
        case measure => simp [intOf]; omega
    ·go_wp2_with fail
     go_end0
     obtain ⟨q1, q2, q3⟩ := hB.out;exact ⟨rfl, dk, q3.all (by rw [Array.length_toList]; omega), q2, hS.out⟩
end Go.Proofs.YtmagjdocondmhaaGreat.Tr
namespace Go.Proofs.YtmagjdocondmhaaGreat.Tr
open Go Go.RowKit Go.Sort Slc St
attribute [local go_sem] Oper.semAt_some
theorem srt_nds {l : List Nt} (h : Srt ltN l) : Srt ltT (nds l) := by
 unfold Srt nds;rw [List.pairwise_map];exact h
theorem stab_nds {l l' : List Nt} (h : Stab ltN l l') : Stab ltT (nds l) (nds l') := fun x => by
 have := congrArg nds (h ⟨x, ⟨none, 0, 0⟩⟩);unfold nds at this |-;rw [List.filter_map, List.filter_map];exact this
theorem enc_one4 : ∀ x, ∀ v ∈ encN x, v.oneCell' = true := encN_ok.one
theorem TO.sorted {w W : World} {B g n cap : Nat} {l : List Nt} {dk : Array Nt} (h : TO w B (.slice (some ⟨g, 0, none⟩) n cap) l) (hs : dk.size = l.length) (hS : SWK encN 4 w g 0 dk W) (h2 : Stab ltN l dk.toList) :
  TO W B (.slice (some ⟨g, 0, none⟩) n cap) dk.toList /\ w.grownBy W (some g) := by
 obtain ⟨ho, hg⟩ := own_sorted encN_ok h.own hs hS;refine ⟨⟨ho, fun x hx => ?_⟩, hg⟩;exact (h.nm x (h2.symm.mem ltN_ord hx)).keep hg.size fun k hk hlt => hg.block k hlt fun e => hk e.symm
theorem ins_none (p : Option Addr) (cap : Nat) (fv : Value) (w : World) :
  Calls Tryz.prog 157 #[.slice p 0 cap, .int .i64 0, .int .i64 0, fv] w fun e w' => e = .returned (.tuple #[]) /\ w = w' := by
 go_enter Tryz.func157, Tryz.ntmps157;go_wp2
 go_loopw [8] (fun i wr => i = .int .i64 1 /\ w = wr) (fun i _ => 1 - (intOf i).toNat)
 case atStart => exact ⟨rfl, rfl⟩
 case round =>
  obtain ⟨rfl, rfl⟩ := hrel;go_wp2
  go_end0
  exact ⟨rfl, rfl⟩
theorem stable_nil (w : World) (ad : Option Addr) (c : Nat) : Calls Tryz.prog 131 #[.slice ad 0 c, .int .i64 0, cmpV] w fun e w' => e = .returned (.tuple #[]) /\ w = w' := by
 have hc := fun W => ins_none ad c cmpV W
 unfold cmpV at hc |-;go_enter Tryz.func131, Tryz.ntmps131;go_wp2
 go_loopw [7, 8] (fun a b wr => a = .int .i64 0 /\ b = .int .i64 20 /\ w = wr) (fun _ b _ => 40 - (intOf b).toNat)
 case atStart => exact ⟨rfl, rfl, rfl⟩
 case round =>
  obtain ⟨rfl, rfl, rfl⟩ := hrel;go_wp2_with (go_at_call 157; refine (hc _).mono ?_; rintro e w' ⟨rfl, rfl⟩)
  go_loopw [6] (fun a wr => a = .int .i64 20 /\ w = wr) (fun b _ => 40 - (intOf b).toNat)
  case atStart => exact ⟨rfl, rfl⟩
  case round =>
   obtain ⟨rfl, rfl⟩ := hrel;go_wp2
   go_end0
   exact ⟨rfl, rfl⟩
theorem stable_to (w : World) (B : Nat) (v : Value) (l : List Nt) (h : TO w B v l) (hn : l.length < 1000000000) :
  Calls Tryz.prog 131 #[v, .int .i64 (l.length : Nat), cmpV] w fun e w' => e = .returned (.tuple #[]) /\ ∃ l', TO w' B v l' /\ Srt ltT (nds l') /\ Stab ltT (nds l) (nds l') /\ w.grownBy w' v.ownBlock := by
 obtain ⟨ad, c, rfl, -⟩ := h.own.rd.form;rcases Nat.eq_zero_or_pos l.length with h0 | hp
 ·obtain rfl : l = [] := List.eq_nil_of_length_eq_zero h0;refine (stable_nil w ad c).mono ?_;rintro e w' ⟨rfl, rfl⟩;exact ⟨rfl, [], h, List.Pairwise.nil, Stab.refl _, rfl, rfl, rfl, zR _, fun _ _ _ => rfl⟩
 ·rcases h.own.2 with ⟨_, hn0⟩ | ⟨g, cap, cur, hv, hB, hb, hc, hm, hcs, ht⟩
  ·omega
  simp only [Value.slice.injEq] at hv
  obtain ⟨rfl, -, rfl⟩ := hv;have R : RowK encN 4 w g 0 l.toArray := ⟨encN_ok.len, enc_one4, holds_own encN_ok h.own, lt_of_block hb⟩;refine (stable_any (cap := c) R (by simpa using hn) (SWK.start R.hH) (n := l.length) (by simp)).mono ?_;rintro e w1 ⟨rfl, dk, h2, h3, h4⟩;have hl := h3.length ltN_ord;obtain ⟨k1, k2⟩ := h.sorted (by rw [<- Array.length_toList, <- hl]) h4 h3;exact ⟨rfl, dk.toList, k1, srt_nds h2, stab_nds h3, k2⟩
theorem sort_any (w : World) (B : Nat) (v : Value) (l : List Nt) (h : TO w B v l) (hn : l.length < 1000000000) :
  Calls Tryz.prog 116 #[v, cmpV] w fun e w' => e = .returned (.tuple #[]) /\ ∃ l', TO w' B v l' /\ Srt ltT (nds l') /\ Stab ltT (nds l) (nds l') /\ w.grownBy w' v.ownBlock := by
 have hc := stable_to w B v l h hn;obtain ⟨ad, c, rfl, -⟩ := h.own.rd.form;clear h;unfold cmpV at hc |-;go_enter Tryz.func116, Tryz.ntmps116;go_wp2_with (go_at_call 131; refine hc.mono ?_; rintro e w' ⟨rfl, hr⟩)
 have HR := Bx.mk hr;clear hr hc;go_end0
 exact ⟨rfl, HR.out⟩
end Go.Proofs.YtmagjdocondmhaaGreat.Tr
