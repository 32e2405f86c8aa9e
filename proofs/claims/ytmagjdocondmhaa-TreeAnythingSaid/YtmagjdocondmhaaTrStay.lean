/-
  Trees in plain Lean: what is returned is valid.
-/
/-
  Trees in plain Lean: what Enter, Map and Restrict return is valid; how many nodes there are.
-/
/-
  Trees in plain Lean: mappings of two policies to two policies double the deepest nodes.
-/
import Derived.Test.YtmagjdocondmhaaTrPlain
namespace Go.Proofs.Ytmagjdocondmhaa.Tr
open Go Go.RowKit Go.Proofs.Ytmagjdocondmhaa.St
set_option linter.unusedVariables false
set_option linter.unusedSimpArgs false

abbrev Stc (l : List Nd) : Prop := l.Pairwise fun a b => ltT a b = true
theorem Stc.srt {l : List Nd} (h : Stc l) : Srt ltT l := List.Pairwise.imp (fun {a b} h => ltT_ord.asym h) h
theorem stc_at {l : List Nd} : Stc l ↔ ∀ i j, i < j → j < l.length → ltT l[i]! l[j]! = true := by
  unfold Stc
  rw [List.pairwise_iff_getElem]
  constructor
  · intro h i j hij hj
    rw [getElem!_pos l i (by omega), getElem!_pos l j hj]
    exact h i j (by omega) hj hij
  · intro h i j hi hj hij
    have := h i j hij hj
    rwa [getElem!_pos l i hi, getElem!_pos l j hj] at this
/-- a tree whose leaves may lie anywhere -/
structure VS (t : List Nd) (D : Int) : Prop where
  root : 0 < t.length → t[0]!.d = 0 ∧ t[0]!.p = -1 ∧ t[0]!.pol = anyP ∧ t[0]!.ex = [anyP]
  par : ∀ i, 0 < i → i < t.length → 0 ≤ t[i]!.p ∧ t[i]!.p < i
  dd : ∀ i, 0 < i → i < t.length → t[i]!.d = (pn t t[i]!).d + 1
  le : ∀ i, i < t.length → t[i]!.d ≤ D
  lt : Stc t
  asc : ∀ i, i < t.length → ascB t[i]!.ex = true
  sp : ∀ i, 0 < i → i < t.length → t[i]!.pol = anyP → (pn t t[i]!).pol = anyP ∧ t[i]!.ex = [anyP]
  ns : ∀ i, i < t.length → t[i]!.pol ≠ anyP → anyP ∉ t[i]!.ex
theorem VT.vs {t : List Nd} {D : Int} (V : VT t D) : VS t D := ⟨V.root, V.par, V.dd, V.le, stc_at.2 fun i j h hj => V.lt' j i h hj, V.asc, V.sp, V.ns⟩
theorem VS.vt {t : List Nd} {D : Int} (V : VS t D) (hD : 0 ≤ D) (hl : t.length ≤ 2048) (hf : ∀ i, i < t.length → t[i]!.d < D → ∃ n ∈ t, n.p = (i : Int)) : VT t D :=
  ⟨hD, hl, V.root, V.par, V.dd, V.le, fun i hi => stc_at.1 V.lt i (i + 1) (by omega) hi, V.asc, V.sp, V.ns, hf⟩
theorem VS.mono {t : List Nd} {D E : Int} (V : VS t D) (h : D ≤ E) : VS t E := ⟨V.root, V.par, V.dd, fun i hi => by have := V.le i hi; omega, V.lt, V.asc, V.sp, V.ns⟩
section
variable {t : List Nd} {D : Int}
theorem VS.root0 (V : VS t D) {i : Nat} (hi : i < t.length) : t[i]!.p < 0 ↔ i = 0 := by
  constructor
  · intro h
    rcases Nat.eq_zero_or_pos i with q | q
    · exact q
    · have := V.par i q hi; omega
  · rintro rfl; have := V.root hi; omega
/-- marks are closed under parents -/
def Cls (t : List Nd) (m : List Bool) : Prop := ∀ i, i < t.length → m[i]! = true → 0 ≤ t[i]!.p → m[t[i]!.p.toNat]! = true
theorem VS.keep (V : VS t D) {m : List Bool} (hc : Cls t m) : VS (keepP t m) D := by
  have hp0 : ∀ i, i < t.length → m[i]! = true → 0 < rk m i → 0 < i := fun i _ _ h => by
    rcases Nat.eq_zero_or_pos i with q | q
    · subst q; rw [rk_zero] at h; omega
    · exact q
  have hpar : ∀ i, 0 < i → i < t.length → m[i]! = true → t[i]!.p.toNat < i ∧ m[t[i]!.p.toNat]! = true ∧ (kpN m t[i]!).p = (rk m t[i]!.p.toNat : Nat) ∧ pn (keepP t m) (kpN m t[i]!) = kpN m (pn t t[i]!) := by
    intro i h0 hi hm
    have h1 := V.par i h0 hi
    have h2 := hc i hi hm h1.1
    have h3 : (kpN m t[i]!).p = (rk m t[i]!.p.toNat : Nat) := by
      unfold kpN; simp only; rw [if_neg (by omega), if_pos h2]
    refine ⟨by omega, h2, h3, ?_⟩
    unfold pn
    rw [h3, Int.toNat_natCast]
    exact keepP_at t m (by omega) h2
  have hz : ∀ i, i < t.length → m[i]! = true → rk m i = 0 → i = 0 := by
    intro i hi hm h
    rcases Nat.eq_zero_or_pos i with q | q
    · exact q
    · obtain ⟨h1, h2, -⟩ := hpar i q hi hm
      have := rk_lt m h1 h2; omega
  refine ⟨fun h => ?_, fun j h0 hj => ?_, fun j h0 hj => ?_, fun j hj => ?_, stc_at.2 fun j1 j2 h12 h2 => ?_, fun j hj => ?_, fun j h0 hj => ?_, fun j hj => ?_⟩
  · obtain ⟨i, h1, h2, h3, h4⟩ := keepP_from t m h
    obtain rfl := hz i h1 h2 h3
    obtain ⟨r1, r2, r3, r4⟩ := V.root h1
    rw [h4]; unfold kpN; simp only
    exact ⟨r1, by rw [if_pos (by omega)]; exact r2, r3, r4⟩
  · obtain ⟨i, h1, h2, h3, h4⟩ := keepP_from t m hj
    obtain ⟨q1, q2, q3, q4⟩ := hpar i (hp0 i h1 h2 (by omega)) h1 h2
    rw [h4, q3]
    have := rk_lt m q1 q2
    omega
  · obtain ⟨i, h1, h2, h3, h4⟩ := keepP_from t m hj
    have hi0 := hp0 i h1 h2 (by omega)
    obtain ⟨q1, q2, q3, q4⟩ := hpar i hi0 h1 h2
    rw [h4, q4]
    exact V.dd i hi0 h1
  · obtain ⟨i, h1, h2, h3, h4⟩ := keepP_from t m hj
    rw [h4]; exact V.le i h1
  · have h1 : j1 < (keepP t m).length := by omega
    obtain ⟨i1, a1, a2, a3, a4⟩ := keepP_from t m h1
    obtain ⟨i2, b1, b2, b3, b4⟩ := keepP_from t m h2
    rw [a4, b4]
    have hlt : i1 < i2 := by
      rcases Nat.lt_or_ge i1 i2 with q | q
      · exact q
      · have := rk_mono m q; omega
    have h := (ltT_iff _ _).1 (stc_at.1 V.lt i1 i2 hlt b1)
    rw [ltT_iff]
    obtain ⟨q1, q2, q3, q4⟩ := hpar i2 (by omega) b1 b2
    have hpp : t[i1]!.p < t[i2]!.p → (kpN m t[i1]!).p < (kpN m t[i2]!).p := by
      intro hp
      rw [q3]
      rcases Nat.eq_zero_or_pos i1 with q | q
      · subst q
        have := V.root a1
        unfold kpN; simp only; rw [if_pos (by omega)]; omega
      · obtain ⟨p1, p2, p3, p4⟩ := hpar i1 q a1 a2
        have := V.par i1 q a1
        rw [p3]
        have := rk_lt m (show t[i1]!.p.toNat < t[i2]!.p.toNat by omega) p2
        omega
    rcases h with h | ⟨h, h' | ⟨h', h''⟩⟩
    · exact .inl h
    · exact .inr ⟨h, .inl (hpp h')⟩
    · refine .inr ⟨h, .inr ⟨?_, h''⟩⟩
      unfold kpN; simp only; rw [h']
  · obtain ⟨i, h1, h2, h3, h4⟩ := keepP_from t m hj
    rw [h4]; exact V.asc i h1
  · obtain ⟨i, h1, h2, h3, h4⟩ := keepP_from t m hj
    have hi0 := hp0 i h1 h2 (by omega)
    obtain ⟨q1, q2, q3, q4⟩ := hpar i hi0 h1 h2
    rw [h4, q4]
    exact V.sp i hi0 h1
  · obtain ⟨i, h1, h2, h3, h4⟩ := keepP_from t m hj
    rw [h4]; exact V.ns i h1
theorem set_at (m : List Bool) (i j : Nat) (b : Bool) (hi : i < m.length) : (m.set i b)[j]! = if j = i then b else m[j]! := by
  rw [List.getElem!_eq_getElem?_getD, List.getElem!_eq_getElem?_getD, List.getElem?_set]
  by_cases e : i = j
  · subst e; simp [hi]
  · rw [if_neg e, if_neg (fun q => e q.symm)]
/-- the marks of pruning -/
structure PM (t : List Nd) (D : Int) (j : Nat) (m : List Bool) : Prop where
  len : m.length = t.length
  cl : ∀ k, t.length - j ≤ k → k < t.length → m[k]! = true → 0 ≤ t[k]!.p → m[t[k]!.p.toNat]! = true
  at_ : ∀ i, t.length - j ≤ i → i < t.length → t[i]!.d = D → m[i]! = true
  why : ∀ i, i < t.length → m[i]! = true → t[i]!.d = D ∨ ∃ k, k < t.length ∧ m[k]! = true ∧ t[k]!.p = (i : Int)
theorem prune_marks (hp : ∀ i, i < t.length → -1 ≤ t[i]!.p ∧ t[i]!.p < i) : ∀ j, j ≤ t.length → PM t D j (pmB t D j) := by
  intro j
  induction j with
  | zero =>
    intro _
    refine ⟨pmB_length t D 0, fun k h1 h2 => by omega, fun i h1 h2 => by omega, fun i hi hm => ?_⟩
    unfold pmB at hm
    rw [getElem!_pos _ i (by simpa using hi)] at hm
    simp at hm
  | succ j ih =>
    intro hj
    have P := ih (by omega)
    rw [pmB]
    generalize pmB t D j = m at P
    obtain ⟨i, hi⟩ : ∃ i, i = t.length - 1 - j := ⟨_, rfl⟩
    rw [← hi]
    have hil : i < t.length := by omega
    have hpi := hp i hil
    have hml := P.len
    -- the first store
    obtain ⟨m1, hm1⟩ : ∃ m1, m1 = if t[i]!.d = D then m.set i true else m := ⟨_, rfl⟩
    have hl1 : m1.length = t.length := by rw [hm1]; split <;> simp [hml]
    have a1 : ∀ k, m1[k]! = if k = i ∧ t[i]!.d = D then true else m[k]! := by
      intro k
      rw [hm1]
      by_cases hd : t[i]!.d = D
      · rw [if_pos hd, set_at _ _ _ _ (by omega)]
        by_cases hk : k = i
        · rw [if_pos hk, if_pos ⟨hk, hd⟩]
        · rw [if_neg hk, if_neg fun q => hk q.1]
      · rw [if_neg hd, if_neg fun q => hd q.2]
    obtain ⟨m2, hm2⟩ : ∃ m2, m2 = if m1[i]! && decide (t[i]!.p ≥ 0) then m1.set t[i]!.p.toNat true else m1 := ⟨_, rfl⟩
    have e2 : stepM t D m i = m2 := by rw [hm2, hm1]; rfl
    rw [e2]
    have hl2 : m2.length = t.length := by rw [hm2]; split <;> simp [hl1]
    have a2 : ∀ k, m2[k]! = if m1[i]! = true ∧ 0 ≤ t[i]!.p ∧ k = t[i]!.p.toNat then true else m1[k]! := by
      intro k
      rw [hm2]
      by_cases hb : m1[i]! = true ∧ 0 ≤ t[i]!.p
      · rw [if_pos (by rw [hb.1, Bool.true_and, decide_eq_true_eq]; exact hb.2), set_at _ _ _ _ (by omega)]
        by_cases hk : k = t[i]!.p.toNat
        · rw [if_pos hk, if_pos ⟨hb.1, hb.2, hk⟩]
        · rw [if_neg hk, if_neg fun h => hk h.2.2]
      · rw [if_neg (by rw [Bool.and_eq_true, decide_eq_true_eq]; exact hb), if_neg fun h => hb ⟨h.1, h.2.1⟩]
    have up1 : ∀ k, m[k]! = true → m1[k]! = true := fun k h => by rw [a1, h]; simp
    have up2 : ∀ k, m1[k]! = true → m2[k]! = true := fun k h => by rw [a2, h]; simp
    have hi2 : m2[i]! = m1[i]! := by
      rw [a2, if_neg]
      rintro ⟨-, h1, h2⟩
      omega
    refine ⟨hl2, fun k h1 h2 h3 h4 => ?_, fun k h1 h2 h3 => ?_, fun k h1 h2 => ?_⟩
    · by_cases e : k = i
      · subst e
        rw [hi2] at h3
        rw [a2, if_pos ⟨h3, h4, rfl⟩]
      · have hk : i < k := by omega
        have e3 : m2[k]! = m[k]! := by
          rw [a2, if_neg (by rintro ⟨-, q1, q2⟩; omega), a1, if_neg fun q => e q.1]
        rw [e3] at h3
        exact up2 _ (up1 _ (P.cl k (by omega) h2 h3 h4))
    · by_cases e : k = i
      · subst e
        exact up2 _ (by rw [a1, if_pos ⟨rfl, h3⟩])
      · exact up2 _ (up1 _ (P.at_ k (by omega) h2 h3))
    · rw [a2] at h2
      by_cases q : m1[i]! = true ∧ 0 ≤ t[i]!.p ∧ k = t[i]!.p.toNat
      · exact .inr ⟨i, hil, by rw [hi2]; exact q.1, by omega⟩
      · rw [if_neg q, a1] at h2
        by_cases q2 : k = i ∧ t[i]!.d = D
        · rw [q2.1]; exact .inl q2.2
        · rw [if_neg q2] at h2
          rcases P.why k h1 h2 with h | ⟨k', h3, h4, h5⟩
          · exact .inl h
          · exact .inr ⟨k', h3, up2 _ (up1 _ h4), h5⟩
theorem VS.pge (V : VS t D) : ∀ i, i < t.length → -1 ≤ t[i]!.p ∧ t[i]!.p < i := by
  intro i hi
  rcases Nat.eq_zero_or_pos i with q | q
  · subst q; have := V.root hi; omega
  · have := V.par i q hi; omega
theorem VS.pm (V : VS t D) (E : Int) : PM t E t.length (pruneM t E) := prune_marks V.pge _ (Nat.le_refl _)
theorem VS.prune (V : VS t D) (hD : 0 ≤ D) (hl : t.length ≤ 2048) : VT (pruneP t D) D := by
  have P := V.pm D
  have hc : Cls t (pruneM t D) := fun i hi hm h => P.cl i (by omega) hi hm h
  unfold pruneP
  refine (V.keep hc).vt hD (by rw [keepP_length]; have := rk_le (pruneM t D) t.length; omega) fun j hj hd => ?_
  obtain ⟨i, h1, h2, h3, h4⟩ := keepP_from t _ hj
  rw [h4] at hd
  rcases P.why i h1 h2 with h | ⟨k, h5, h6, h7⟩
  · unfold kpN at hd; simp only at hd; omega
  · refine ⟨kpN (pruneM t D) t[k]!, keep_mem.2 ⟨k, h5, h6, rfl⟩, ?_⟩
    unfold kpN
    simp only
    rw [if_neg (by omega), if_pos (by rw [h7]; exact h2), h7, ← h3]; rfl
/-- a node at the depth D whose parent is one of A -/
structure Gd (A : List Nd) (D : Int) (n : Nd) : Prop where
  d : n.d = D
  p0 : 0 ≤ n.p
  p1 : n.p < A.length
  pd : A[n.p.toNat]!.d + 1 = D
  asc : ascB n.ex = true
  sp : n.pol = anyP → A[n.p.toNat]!.pol = anyP ∧ n.ex = [anyP]
  ns : n.pol ≠ anyP → anyP ∉ n.ex
theorem VS.join {A L : List Nd} (V : VS A D) (hA : ∀ n ∈ A, n.d < D) (hL : Stc L) (hg : ∀ n ∈ L, Gd A D n) : VS (A ++ L) D := by
  have lo : ∀ {i}, i < A.length → (A ++ L)[i]! = A[i]! := fun h => getElem!_append_left' h
  have hi : ∀ {i}, A.length ≤ i → i < (A ++ L).length → (A ++ L)[i]! ∈ L := fun {i} h h2 => by
    rw [getElem!_append_right' h, List.length_append] at *
    exact mem_at.2 ⟨i - A.length, by omega, rfl⟩
  have hA0 : ∀ {i}, A.length ≤ i → i < (A ++ L).length → Gd A D (A ++ L)[i]! := fun h h2 => hg _ (hi h h2)
  have hpos : ∀ {i}, i < (A ++ L).length → 0 < A.length := fun {i} h => by
    rcases Nat.lt_or_ge i A.length with q | q
    · omega
    · have G := hA0 q h
      have := G.p0; have := G.p1; omega
  have ppn : ∀ {i}, A.length ≤ i → i < (A ++ L).length → pn (A ++ L) (A ++ L)[i]! = A[(A ++ L)[i]!.p.toNat]! := fun h h2 => by
    have G := hA0 h h2
    unfold pn
    have := G.p0; have := G.p1
    exact lo (by omega)
  have ppl : ∀ {i}, 0 < i → i < A.length → pn (A ++ L) (A ++ L)[i]! = pn A A[i]! := fun {i} h0 h => by
    have := V.par i h0 h
    unfold pn
    rw [lo h]
    exact lo (by omega)
  refine ⟨fun h => by rw [lo (hpos h)]; exact V.root (hpos h), fun i h0 h => ?_, fun i h0 h => ?_, fun i h => ?_, ?_, fun i h => ?_, fun i h0 h => ?_, fun i h => ?_⟩
  · rcases Nat.lt_or_ge i A.length with q | q
    · rw [lo q]; exact V.par i h0 q
    · have G := hA0 q h; have := G.p0; have := G.p1; omega
  · rcases Nat.lt_or_ge i A.length with q | q
    · rw [ppl h0 q, lo q]; exact V.dd i h0 q
    · have G := hA0 q h
      rw [ppn q h, G.d, G.pd]
  · rcases Nat.lt_or_ge i A.length with q | q
    · rw [lo q]; exact V.le i q
    · have G := hA0 q h; rw [G.d]; exact Int.le_refl _
  · refine List.pairwise_append.2 ⟨V.lt, hL, fun a ha b hb => ?_⟩
    rw [ltT_iff]
    have := hA a ha
    have := (hg b hb).d
    exact .inl (by omega)
  · rcases Nat.lt_or_ge i A.length with q | q
    · rw [lo q]; exact V.asc i q
    · exact (hA0 q h).asc
  · rcases Nat.lt_or_ge i A.length with q | q
    · rw [ppl h0 q, lo q]; exact V.sp i h0 q
    · rw [ppn q h]; exact (hA0 q h).sp
  · rcases Nat.lt_or_ge i A.length with q | q
    · rw [lo q]; exact V.ns i q
    · exact (hA0 q h).ns
theorem VS.split (V : VS t D) (hD : 0 < D) : ∃ A L, t = A ++ L ∧ VS A D ∧ (∀ n ∈ A, n.d < D) ∧ Stc L ∧ ∀ n ∈ L, Gd A D n := by
  have hmono : ∀ i j, i ≤ j → j < t.length → t[i]!.d ≤ t[j]!.d := fun i j h hj => by
    by_cases e : i = j
    · subst e; exact Int.le_refl _
    · have := (ltT_iff _ _).1 (stc_at.1 V.lt i j (by omega) hj); omega
  obtain ⟨a, ha⟩ : ∃ a, a = t.findIdx fun n => !decide (n.d < D) := ⟨_, rfl⟩
  have hal : a ≤ t.length := by rw [ha]; exact List.findIdx_le_length
  have hlo : ∀ i, i < a → t[i]!.d < D := fun i hi => by
    have := List.not_of_lt_findIdx (show i < t.findIdx _ from ha ▸ hi)
    rw [getElem!_pos t i (by omega)]
    simpa using this
  have hhi : ∀ i, a ≤ i → i < t.length → t[i]!.d = D := fun i h1 h2 => by
    have hw : t.findIdx (fun n => !decide (n.d < D)) < t.length := by omega
    have := List.findIdx_getElem (w := hw)
    rw [← getElem!_pos t _ hw, ← ha] at this
    have h3 := hmono a i h1 h2
    have h4 := V.le i h2
    simp at this
    simp only [List.getElem!_eq_getElem?_getD] at *
    omega
  have hta : (t.take a).length = a := by rw [List.length_take]; omega
  have lo : ∀ i, i < a → (t.take a)[i]! = t[i]! := fun i hi => getElem!_take' hi
  have hpp : ∀ i, 0 < i → i < t.length → t[i]!.p.toNat < a := fun i h0 hi => by
    have h1 := V.par i h0 hi
    have h2 := V.dd i h0 hi
    have h3 := V.le i hi
    rcases Nat.lt_or_ge t[i]!.p.toNat a with q | q
    · exact q
    · have h4 := hhi _ q (by omega)
      unfold pn at h2
      omega
  have hpn : ∀ i, 0 < i → i < t.length → pn (t.take a) t[i]! = pn t t[i]! := fun i h0 hi => by
    unfold pn; exact lo _ (hpp i h0 hi)
  refine ⟨t.take a, t.drop a, (List.take_append_drop a t).symm, ⟨fun h => ?_, fun i h0 h => ?_, fun i h0 h => ?_, fun i h => ?_, ?_, fun i h => ?_, fun i h0 h => ?_, fun i h => ?_⟩, fun n hn => ?_, ?_, fun n hn => ?_⟩
  · rw [hta] at h; rw [lo 0 h]; exact V.root (by omega)
  · rw [hta] at h; rw [lo i h]; exact V.par i h0 (by omega)
  · rw [hta] at h; rw [lo i h, hpn i h0 (by omega)]; exact V.dd i h0 (by omega)
  · rw [hta] at h; rw [lo i h]; exact V.le i (by omega)
  · exact List.Pairwise.sublist (List.take_sublist _ _) V.lt
  · rw [hta] at h; rw [lo i h]; exact V.asc i (by omega)
  · rw [hta] at h; rw [lo i h, hpn i h0 (by omega)]; exact V.sp i h0 (by omega)
  · rw [hta] at h; rw [lo i h]; exact V.ns i (by omega)
  · obtain ⟨i, hi, rfl⟩ := mem_at.1 hn
    rw [hta] at hi; rw [lo i hi]; exact hlo i hi
  · exact List.Pairwise.sublist (List.drop_sublist _ _) V.lt
  · obtain ⟨i, hi, rfl⟩ := mem_at.1 hn
    rw [List.length_drop] at hi
    have e3 : (t.drop a)[i]! = t[a + i]! := by rw [List.getElem!_eq_getElem?_getD, List.getElem!_eq_getElem?_getD, List.getElem?_drop]
    rw [e3]
    have hj : a + i < t.length := by omega
    have hd := hhi (a + i) (by omega) hj
    have h0 : 0 < a + i := by
      rcases Nat.eq_zero_or_pos (a + i) with q | q
      · rw [q] at hd hj; have := V.root hj; omega
      · exact q
    have hp := V.par _ h0 hj
    have hpa := hpp _ h0 hj
    have hdd := V.dd _ h0 hj
    have hsp := V.sp _ h0 hj
    rw [← hpn _ h0 hj] at hdd hsp
    exact ⟨hd, hp.1, by rw [hta]; omega, by unfold pn at hdd; omega, V.asc _ hj, hsp, V.ns _ hj⟩
theorem insL_lo {A : List Nd} (hA : ∀ n ∈ A, n.d < D) : ∀ (xs L : List Nd), (∀ x ∈ xs, x.d = D) → insL (A ++ L) xs = A ++ insL L xs
  | [], L, _ => rfl
  | x :: xs, L, h => by
    show insL (St.ins (lt := ltT) x (A ++ L)) xs = A ++ insL (St.ins (lt := ltT) x L) xs
    rw [ins_lo A L fun n hn => by rw [ltT_false]; have := hA n hn; have := h x (by simp); exact .inl (by omega)]
    exact insL_lo hA xs _ fun y hy => h y (by simp [hy])
abbrev Cmp (a b : Nd) : Prop := ltT a b = true ∨ ltT b a = true
theorem insL_perm' : ∀ (xs L : List Nd), (insL L xs).Perm (L ++ xs)
  | [], L => by simp [insL]
  | x :: xs, L => by
    have h1 : (St.ins (lt := ltT) x L).Perm (x :: L) := by
      induction L with
      | nil => exact List.Perm.refl _
      | cons y L ih =>
        unfold St.ins
        split
        · exact List.Perm.refl _
        · exact (ih.cons y).trans (List.Perm.swap x y L)
    refine (insL_perm' xs (St.ins (lt := ltT) x L)).trans ((h1.append_right xs).trans ?_)
    exact List.perm_middle.symm
theorem stc_ins {L xs : List Nd} (hs : Srt ltT L) (hc : (L ++ xs).Pairwise Cmp) : Stc (insL L xs) := by
  have h1 : (insL L xs).Pairwise Cmp := ((insL_perm' xs L).pairwise_iff (fun {a b} h => h.symm)).2 hc
  have h2 := insL_srt hs xs
  unfold Srt at h2
  have := List.Pairwise.and h1 h2
  refine this.imp ?_
  rintro a b ⟨h | h, h'⟩
  · exact h
  · rw [h] at h'; cases h'
theorem VS.sort {A L xs : List Nd} (V : VS A D) (hA : ∀ n ∈ A, n.d < D) (hL : Srt ltT L) (hg : ∀ n ∈ L, Gd A D n) (hx : ∀ n ∈ xs, Gd A D n) (hc : (L ++ xs).Pairwise Cmp) : VS (sortT (A ++ L ++ xs)) D := by
  have hsrt : Srt ltT (A ++ L) := by
    unfold Srt
    refine List.pairwise_append.2 ⟨V.lt.srt, hL, fun a ha b hb => ?_⟩
    have := hA a ha
    have := (hg b hb).d
    rw [ltT_false]; exact .inl (by omega)
  rw [sort_ins hsrt, insL_lo hA xs L fun x h => (hx x h).d]
  refine V.join hA (stc_ins hL hc) fun n hn => ?_
  rcases insL_mem.1 hn with h | h
  · exact hg n h
  · exact hx n h
theorem Stc.cmp {l : List Nd} (h : Stc l) : l.Pairwise Cmp := List.Pairwise.imp (fun {a b} h => .inl h) h
theorem asc_one (p : B) : ascB [p] = true := by unfold ascB; rfl
end
end Go.Proofs.Ytmagjdocondmhaa.Tr

namespace Go.Proofs.Ytmagjdocondmhaa.Tr
open Go Go.RowKit Go.Proofs.Ytmagjdocondmhaa.St
set_option linter.unusedVariables false
set_option linter.unusedSimpArgs false

section
variable {t : List Nd} {D : Int}
abbrev allE (ps : List B) (cnt : Bool) : Bool := cnt && decide (anyP ∈ setB ps)
abbrev moreE (t : List Nd) (D : Int) (ps : List B) (cnt : Bool) : List Nd := moreK t D (setB ps) (allE ps cnt) t.length
theorem ascB_any {l : List B} (h : ascB l = true) (hn : anyP ∈ l) (hs : l = [anyP]) : l = [anyP] := hs
theorem enter_gd (V : VT t (D - 1)) (ps : List B) (cnt : Bool) : ∀ n ∈ moreE t D ps cnt, Gd t D n := by
  intro n hn
  obtain ⟨i, hi, hd, p, hp, rfl⟩ := moreK_mem.1 hn
  have hle := V.le i hi
  have hdi : t[i]!.d + 1 = D := by omega
  have hany : p = anyP → t[i]!.pol = anyP := by
    rintro rfl
    rcases childP_mem.1 hp with ⟨-, h⟩ | ⟨-, h⟩
    · exact absurd rfl (wantP_iff.1 h).1
    · exact Classical.byContradiction fun q => V.ns i hi q h
  refine ⟨rfl, by show (0 : Int) ≤ (i : Int); omega, by show (i : Int) < _; omega, by unfold newN; simp only [Int.toNat_natCast]; exact hdi, asc_one p, fun h => ?_, fun h h2 => ?_⟩
  · have h' : p = anyP := h
    refine ⟨by unfold newN; simp only [Int.toNat_natCast]; exact hany h', by show [p] = _; rw [h']⟩
  · have h2' : anyP ∈ [p] := h2
    rw [List.mem_singleton] at h2'
    exact h h2'.symm
theorem enter_stay (V : VT t (D - 1)) (hD : 1 ≤ D) (ps : List B) (cnt : Bool) (hl : t.length + (moreE t D ps cnt).length ≤ 2048) :
    enterP t D ps cnt = (pruneP (sortT (t ++ moreE t D ps cnt)) D, 0) ∧ VT (pruneP (sortT (t ++ moreE t D ps cnt)) D) D ∧ VS (sortT (t ++ moreE t D ps cnt)) D := by
  have hv := (valid_iff t (D - 1)).2 V
  have hA : ∀ n ∈ t, n.d < D := fun n hn => by
    obtain ⟨i, hi, rfl⟩ := mem_at.1 hn
    have := V.le i hi; omega
  have hc : ([] ++ moreE t D ps cnt).Pairwise Cmp := by
    rw [List.nil_append]
    exact new_pair (moreK_nodup _ _ _ _ _) fun n hn => by
      obtain ⟨i, -, -, p, -, rfl⟩ := moreK_mem.1 hn
      exact ⟨_, _, rfl⟩
  have h := VS.sort (A := t) (L := []) (xs := moreE t D ps cnt) (V.vs.mono (by omega)) hA (List.Pairwise.nil) (fun n hn => by cases hn) (enter_gd V ps cnt) hc
  rw [List.append_nil] at h
  refine ⟨?_, h.prune (by omega) ?_, h⟩
  · unfold enterP
    rw [decide_eq_false (by omega), hv]
    simp only [Bool.not_true, Bool.or_self, Bool.false_eq_true, if_false]
    rw [if_neg (by unfold moreE allE at hl; omega)]
  · rw [show (sortT (t ++ moreE t D ps cnt)).length = (t ++ moreE t D ps cnt).length from by rw [sort_ins V.srt, insL_length, List.length_append], List.length_append]; exact hl
theorem srcL_any (l : List (B × B)) : anyP ∉ srcL l := by
  unfold srcL
  rw [setB_mem, List.mem_map]
  rintro ⟨m, hm, he⟩
  rw [List.mem_filter] at hm
  have := hm.2
  unfold okM at this
  simp [he] at this
theorem subL_any (l : List (B × B)) (x : B) : anyP ∉ subL l x := by
  unfold subL
  rw [setB_mem, List.mem_map]
  rintro ⟨m, hm, he⟩
  rw [List.mem_filter] at hm
  have := hm.2
  unfold okM at this
  simp [he] at this
theorem ascB_iff {l : List B} : ascB l = true ↔ Asc l ∧ l ≠ [] := by
  unfold ascB
  rw [Bool.and_eq_true, decide_eq_true_eq, Bool.not_eq_true', List.isEmpty_eq_false_iff]
theorem subL_asc {l : List (B × B)} {x : B} (h : x ∈ srcL l) : ascB (subL l x) = true := by
  refine ascB_iff.2 ⟨setB_asc _, fun e => ?_⟩
  unfold srcL at h
  rw [setB_mem, List.mem_map] at h
  obtain ⟨m, hm, rfl⟩ := h
  rw [List.mem_filter] at hm
  have : m.2 ∈ subL l m.1 := by
    unfold subL
    rw [setB_mem, List.mem_map]
    exact ⟨m, List.mem_filter.2 ⟨hm.1, by simp [hm.2]⟩, rfl⟩
  rw [e] at this; cases this
theorem now_d (l : List (B × B)) (D : Int) (n : Nd) : (nowN l D n).d = n.d ∧ (nowN l D n).p = n.p ∧ (nowN l D n).pol = n.pol := by
  unfold nowN
  split
  · exact ⟨rfl, rfl, rfl⟩
  · split <;> exact ⟨rfl, rfl, rfl⟩
theorem lt_now (l : List (B × B)) (D : Int) (a b : Nd) : ltT (nowN l D a) (nowN l D b) = ltT a b := by
  obtain ⟨a1, a2, a3⟩ := now_d l D a
  obtain ⟨b1, b2, b3⟩ := now_d l D b
  rw [Bool.eq_iff_iff, ltT_iff, ltT_iff, a1, a2, a3, b1, b2, b3]
theorem map_stay_no (V : VT t D) (hD : 1 ≤ D) (l : List (B × B)) : mapP t D l false = (pruneP (keepP t (mapM t D l)) D, 0) ∧ VT (pruneP (keepP t (mapM t D l)) D) D ∧ VS (keepP t (mapM t D l)) D := by
  have hv := (valid_iff t D).2 V
  have hm : ∀ i, i < t.length → (mapM t D l)[i]! = (decide (t[i]!.d < D) || !decide (t[i]!.pol ∈ srcL l)) := fun i hi => mapP_at _ hi
  have hc : Cls t (mapM t D l) := fun i hi _ h0 => by
    obtain ⟨h1, h2⟩ := V.pard hi h0
    have := V.le i hi
    rw [hm _ (by omega), decide_eq_true (by omega)]; rfl
  have h := V.vs.keep hc
  refine ⟨?_, h.prune (by omega) ?_, h⟩
  · unfold mapP
    rw [decide_eq_false (by omega), hv]
    simp
  · rw [keepP_length]; have := rk_le (mapM t D l) t.length; have := V.len; omega
theorem map_gd (V : VT t D) (hD : 1 ≤ D) (l : List (B × B)) : ∃ A L, t = A ++ L ∧ t.map (nowN l D) = A ++ L.map (nowN l D) ∧ VS A D ∧ (∀ n ∈ A, n.d < D) ∧ Stc L ∧ (∀ n ∈ L.map (nowN l D), Gd A D n) ∧ ∀ n ∈ mapMore t D l, Gd A D n := by
  obtain ⟨A, L, hAL, VA, hA, hL, hg⟩ := V.vs.split (D := D) (by omega)
  have hgn : ∀ n ∈ L.map (nowN l D), Gd A D n := by
    intro n hn
    obtain ⟨m, hm, rfl⟩ := List.mem_map.1 hn
    have G := hg m hm
    unfold nowN
    rw [decide_eq_false (by have := G.d; omega)]
    simp only [Bool.false_eq_true, if_false]
    by_cases q : m.pol ∈ srcL l
    · rw [decide_eq_true q, if_pos rfl]
      exact ⟨G.d, G.p0, G.p1, G.pd, subL_asc q, fun h => absurd (h ▸ q) (srcL_any l), fun _ => subL_any _ _⟩
    · rw [decide_eq_false q]; exact G
  refine ⟨A, L, hAL, ?_, VA, hA, hL, hgn, fun n hn => ?_⟩
  · rw [hAL, List.map_append]
    congr 1
    conv => rhs; rw [← List.map_id A]
    apply List.map_congr_left
    intro n hn
    unfold nowN
    rw [decide_eq_true (hA n hn)]; rfl
  · unfold mapMore at hn
    obtain ⟨q, hq, rfl⟩ := List.mem_map.1 hn
    rw [List.mem_filter] at hq
    obtain ⟨hq1, hq2⟩ := hq
    simp only [Bool.and_eq_true, decide_eq_true_eq] at hq2
    have hls := lastS_eq V t.length (Nat.le_refl _)
    rw [hls] at hq2 ⊢
    by_cases hs : 0 ≤ spAt t D ∧ spAt t D < (t.length : Nat)
    · rw [if_pos hs] at hq2 ⊢
      have hi : (spAt t D).toNat < t.length := by omega
      have h2 := (V.spAt_iff (i := (spAt t D).toNat) hi).1 (by omega)
      generalize (spAt t D).toNat = i at *
      have hmem : t[i]! ∈ A ++ L := hAL ▸ mem_at.2 ⟨i, hi, rfl⟩
      have G : Gd A D t[i]! := by
        rcases List.mem_append.1 hmem with h | h
        · have := hA _ h; omega
        · exact hg _ h
      exact ⟨rfl, G.p0, G.p1, G.pd, subL_asc hq1, fun h => absurd (h ▸ hq1) (srcL_any l), fun _ => subL_any _ _⟩
    · rw [if_neg hs] at hq2
      omega
theorem map_stay (V : VT t D) (hD : 1 ≤ D) (l : List (B × B)) (hl : t.length + (mapMore t D l).length ≤ 2048) :
    mapP t D l true = (pruneP (sortT (t.map (nowN l D) ++ mapMore t D l)) D, 0) ∧ VT (pruneP (sortT (t.map (nowN l D) ++ mapMore t D l)) D) D ∧ VS (sortT (t.map (nowN l D) ++ mapMore t D l)) D := by
  have hv := (valid_iff t D).2 V
  obtain ⟨A, L, hAL, hAL2, VA, hA, hL, hg, hx⟩ := map_gd V hD l
  have hL2 : Stc (L.map (nowN l D)) := by
    unfold Stc
    rw [List.pairwise_map]
    exact hL.imp fun {a b} h => by rw [lt_now]; exact h
  have hc : (L.map (nowN l D) ++ mapMore t D l).Pairwise Cmp := by
    refine List.pairwise_append.2 ⟨hL2.cmp, ?_, fun a ha b hb => ?_⟩
    · unfold mapMore
      rw [List.pairwise_map]
      refine (List.Pairwise.filter _ (setB_asc _)).imp fun {a b} h => ?_
      exact .inl ((ltT_iff _ _).2 (.inr ⟨rfl, .inr ⟨rfl, h⟩⟩))
    · obtain ⟨m, hm, rfl⟩ := List.mem_map.1 ha
      unfold mapMore at hb
      obtain ⟨q, hq, rfl⟩ := List.mem_map.1 hb
      rw [List.mem_filter] at hq
      have hq2 := hq.2
      simp only [Bool.and_eq_true, Bool.not_eq_true', decide_eq_true_eq] at hq2
      have hne : m.pol ≠ q := by
        intro e
        have h1 := (hg _ ha).d
        have h2 := hq2.2
        unfold foundP at h2
        rw [List.any_eq_false] at h2
        refine h2 m (hAL ▸ List.mem_append.2 (.inr hm)) ?_
        rw [(now_d l D m).1] at h1
        rw [decide_eq_false (by omega), decide_eq_true e]; rfl
      obtain ⟨n1, n2, n3⟩ := now_d l D m
      have hd := (hg _ ha).d
      generalize lastS t D t.length = P at *
      unfold Cmp
      rw [ltT_iff, ltT_iff, n2, n3, hd]
      simp only [Int.lt_irrefl, false_or, true_and]
      by_cases p1 : m.p < P
      · exact .inl (.inl p1)
      · by_cases p2 : P < m.p
        · exact .inr (.inl p2)
        · have p3 : m.p = P := by omega
          by_cases p4 : m.pol < q
          · exact .inl (.inr ⟨p3, p4⟩)
          · exact .inr (.inr ⟨p3.symm, ltB_or p4 hne⟩)
  have h := VS.sort (xs := mapMore t D l) VA hA hL2.srt hg hx hc
  rw [← hAL2] at h
  have hsl : (sortT (t.map (nowN l D) ++ mapMore t D l)).length = t.length + (mapMore t D l).length := by
    have := fold_length (lt := ltT) (t.map (nowN l D) ++ mapMore t D l) []
    unfold sortT srtL
    rw [this]; simp
  refine ⟨?_, h.prune (by omega) (by rw [hsl]; exact hl), h⟩
  unfold mapP
  rw [decide_eq_false (by omega), hv]
  simp only [Bool.not_true, Bool.or_self, Bool.false_eq_true, if_false]
  rw [if_neg (by omega)]
end
end Go.Proofs.Ytmagjdocondmhaa.Tr

namespace Go.Proofs.Ytmagjdocondmhaa.Tr
open Go Go.RowKit Go.Proofs.Ytmagjdocondmhaa.St
set_option linter.unusedVariables false
set_option linter.unusedSimpArgs false

theorem prune_all {t : List Nd} {D : Int} (V : VT t D) : pruneP t D = t := by
  have P := V.vs.pm D
  unfold pruneP
  refine keep_all (fun i hi => V.pge hi) fun i hi => ?_
  have key : ∀ m i, t.length - i = m → i < t.length → (pruneM t D)[i]! = true := by
    intro m
    induction m using Nat.strongRecOn with
    | _ m ih =>
      intro i hm hi
      by_cases hd : t[i]!.d = D
      · exact P.at_ i (by omega) hi hd
      · have hle := V.le i hi
        obtain ⟨n, hn, hp⟩ := V.leaf i hi (by omega)
        obtain ⟨j, hj, rfl⟩ := mem_at.1 hn
        have hpj := (V.pge hj).2
        have := ih (t.length - j) (by omega) j rfl hj
        have h2 := P.cl j (by omega) hj this (by omega)
        rw [hp] at h2
        exact h2
  exact key _ i rfl hi
def lA : B := [49, 46, 50, 46, 49]
def lB : B := [49, 46, 50, 46, 50]
def lM : List (B × B) := [(lA, lA), (lA, lB), (lB, lA), (lB, lB)]
theorem lset : setB [lA, lB] = [lA, lB] := by kernel_rfl
theorem lsrc : srcL lM = [lA, lB] := by kernel_rfl
theorem lsubA : subL lM lA = [lA, lB] := by kernel_rfl
theorem lsubB : subL lM lB = [lA, lB] := by kernel_rfl
theorem lAany : lA ≠ anyP := by decide
theorem lBany : lB ≠ anyP := by decide
structure Lim (t : List Nd) (k : Nat) : Prop where
  V : VT t (k : Int)
  cnt : t.countP (fun n => decide (n.d = (k : Int))) = 2 ^ k
  len : t.length + 1 = 2 ^ (k + 1)
  top : ∀ n ∈ t, n.d = (k : Int) → if k = 0 then n.pol = anyP ∧ n.ex = [anyP] else n.pol ≠ anyP ∧ n.ex = [lA, lB]
theorem lim_root : Lim [⟨0, -1, anyP, [anyP]⟩] 0 := by
  refine ⟨(valid_iff _ _).1 (by kernel_rfl), by kernel_rfl, by rfl, fun n hn _ => ?_⟩
  rw [List.mem_singleton] at hn
  subst hn
  rw [if_pos rfl]; exact ⟨rfl, rfl⟩
section
variable {t : List Nd} {k : Nat}
theorem lim_all : allE [lA, lB] true = false := by
  unfold allE
  rw [lset]; decide
theorem lim_child (h : Lim t k) {n : Nd} (hn : n ∈ t) (hd : n.d = (k : Int)) : childP t ((k + 1 : Nat) : Int) n [lA, lB] false = [lA, lB] := by
  have hw : ∀ p ∈ [lA, lB], wantP t ((k + 1 : Nat) : Int) n p = true := by
    intro p hp
    have hpa : p ≠ anyP := by
      rcases List.mem_cons.1 hp with rfl | hp
      · exact lAany
      · rw [List.mem_singleton] at hp; subst hp; exact lBany
    rw [wantP_iff]
    refine ⟨hpa, ?_⟩
    have ht := h.top n hn hd
    by_cases h0 : k = 0
    · rw [if_pos h0] at ht
      refine .inr ⟨?_, ht.1⟩
      cases he : expdP t ((k + 1 : Nat) : Int) p with
      | false => rfl
      | true =>
        obtain ⟨i, hi, h1, h2⟩ := expdP_iff.1 he
        have h3 := h.top t[i]! (mem_at.2 ⟨i, hi, rfl⟩) (by omega)
        rw [if_pos h0] at h3
        rw [h3.2, List.mem_singleton] at h2
        exact absurd h2 hpa
    · rw [if_neg h0] at ht
      left; rw [ht.2]; exact hp
  unfold childP
  rw [List.filter_eq_self.2 hw]
  simp only [Bool.false_eq_true, if_false, List.append_nil]
  exact lset
theorem lim_more (h : Lim t k) : (moreE t ((k + 1 : Nat) : Int) [lA, lB] true).length = 2 * 2 ^ k := by
  unfold moreE
  rw [lset, lim_all, ← h.cnt]
  have key : ∀ j, j ≤ t.length → (moreK t ((k + 1 : Nat) : Int) [lA, lB] false j).length = 2 * (t.take j).countP (fun n => decide (n.d = (k : Int))) := by
    intro j
    induction j with
    | zero => intro _; simp [moreK]
    | succ j ih =>
      intro hj
      have hjl : j < t.length := by omega
      rw [moreK_succ, List.length_append, ih (by omega), List.take_succ_eq_append_getElem hjl, List.countP_append]
      have hle := h.V.le j hjl
      have hm : t[j]! ∈ t := mem_at.2 ⟨j, hjl, rfl⟩
      by_cases hd : t[j]!.d < ((k + 1 : Nat) : Int) - 1
      · rw [if_pos hd]
        rw [getElem!_pos t j hjl] at hd
        have : decide ((t[j]).d = (k : Int)) = false := decide_eq_false (by omega)
        simp [this]
      · rw [if_neg hd, List.length_map, lim_child h hm (by omega)]
        rw [getElem!_pos t j hjl] at hd hle
        have : decide ((t[j]).d = (k : Int)) = true := decide_eq_true (by omega)
        simp [this]; omega
  have := key t.length (Nat.le_refl _)
  rwa [List.take_length] at this
theorem lim_step (h : Lim t k) :
    (2 ^ (k + 2) > 2049 → enterP t ((k + 1 : Nat) : Int) [lA, lB] true = ([], 2)) ∧
    (2 ^ (k + 2) ≤ 2049 → ∃ r, enterP t ((k + 1 : Nat) : Int) [lA, lB] true = (r, 0) ∧ r.length + 1 = 2 ^ (k + 2) ∧ ∃ t', mapP r ((k + 1 : Nat) : Int) lM true = (t', 0) ∧ Lim t' (k + 1)) := by
  have hm := lim_more h
  have hl := h.len
  have e1 : (2 : Nat) ^ (k + 1) = 2 * 2 ^ k := by rw [Nat.pow_succ]; omega
  have e2 : (2 : Nat) ^ (k + 2) = 2 * 2 ^ (k + 1) := by rw [Nat.pow_succ]; omega
  have V' : VT t (((k + 1 : Nat) : Int) - 1) := by
    rw [show ((k + 1 : Nat) : Int) - 1 = (k : Int) by omega]; exact h.V
  have hD : 1 ≤ ((k + 1 : Nat) : Int) := by omega
  obtain ⟨D, hDe⟩ : ∃ D : Int, D = ((k + 1 : Nat) : Int) := ⟨_, rfl⟩
  have hch := fun {n : Nd} (hn : n ∈ t) (hd : n.d = (k : Int)) => lim_child h hn hd
  rw [← hDe] at hm V' hD hch ⊢
  have hDk : D - 1 = (k : Int) := by omega
  constructor
  · intro hb
    unfold enterP
    rw [decide_eq_false (by omega), (valid_iff t (D - 1)).2 V']
    simp only [Bool.not_true, Bool.or_self, Bool.false_eq_true, if_false]
    unfold moreE allE at hm
    rw [if_pos (by omega)]
  · intro hb
    obtain ⟨s1, s2, s3⟩ := enter_stay V' hD [lA, lB] true (by omega)
    have hmem : ∀ n ∈ moreE t D [lA, lB] true, n.d = D ∧ n.pol ≠ anyP ∧ (n.pol = lA ∨ n.pol = lB) := by
      intro n hn
      unfold moreE at hn
      rw [lset, lim_all] at hn
      obtain ⟨i, hi, hd, p, hp, rfl⟩ := moreK_mem.1 hn
      have hle := h.V.le i hi
      rw [hch (mem_at.2 ⟨i, hi, rfl⟩) (by omega)] at hp
      rcases List.mem_cons.1 hp with rfl | hp
      · exact ⟨rfl, lAany, .inl rfl⟩
      · rw [List.mem_singleton] at hp; subst hp; exact ⟨rfl, lBany, .inr rfl⟩
    have hkid : ∀ i, i < t.length → t[i]!.d = (k : Int) → newN D (i : Nat) lA ∈ moreE t D [lA, lB] true := by
      intro i hi hd
      unfold moreE
      rw [lset, lim_all]
      exact moreK_mem.2 ⟨i, hi, by omega, lA, by rw [hch (mem_at.2 ⟨i, hi, rfl⟩) hd]; simp, rfl⟩
    have hA : ∀ n ∈ t, n.d < D := fun n hn => by
      obtain ⟨i, hi, rfl⟩ := mem_at.1 hn
      have := h.V.le i hi; omega
    obtain ⟨X, hX⟩ : ∃ X, X = sortT (t ++ moreE t D [lA, lB] true) := ⟨_, rfl⟩
    have hform : X = t ++ insL [] (moreE t D [lA, lB] true) := by
      have := insL_lo hA (moreE t D [lA, lB] true) [] fun x hx => (hmem x hx).1
      rw [List.append_nil] at this
      rw [hX, sort_ins h.V.srt, this]
    have hXm : ∀ n, n ∈ X ↔ n ∈ t ∨ n ∈ moreE t D [lA, lB] true := fun n => by rw [hX, sort_ins h.V.srt, insL_mem]
    have hXl : X.length + 1 = 2 ^ (k + 2) := by rw [hX, sort_ins h.V.srt, insL_length]; omega
    rw [← hX] at s1 s2 s3
    have VX : VT X D := s3.vt (by omega) (by omega) fun i hi hd => by
      have hit : i < t.length := by
        rcases Nat.lt_or_ge i t.length with q | q
        · exact q
        · have : X[i]! ∈ insL [] (moreE t D [lA, lB] true) := by
            rw [hform, getElem!_append_right' q]
            rw [hform, List.length_append] at hi
            exact mem_at.2 ⟨i - t.length, by omega, rfl⟩
          rcases insL_mem.1 this with q2 | q2
          · cases q2
          · have := (hmem _ q2).1; omega
      have hti : X[i]! = t[i]! := by rw [hform, getElem!_append_left' hit]
      rw [hti] at hd
      by_cases q : t[i]!.d = (k : Int)
      · exact ⟨_, (hXm _).2 (.inr (hkid i hit q)), rfl⟩
      · have := h.V.le i hit
        obtain ⟨n, hn, hp⟩ := h.V.leaf i hit (by omega)
        exact ⟨n, (hXm _).2 (.inl hn), hp⟩
    rw [prune_all VX] at s1
    have htop : ∀ n ∈ X, n.d = D → n.pol ≠ anyP ∧ (n.pol = lA ∨ n.pol = lB) := fun n hn hd => by
      rcases (hXm n).1 hn with q | q
      · have := hA n q; omega
      · exact (hmem n q).2
    have hcnt : X.countP (fun n => decide (n.d = D)) = 2 ^ (k + 1) := by
      rw [hform, List.countP_append]
      have c1 : t.countP (fun n => decide (n.d = D)) = 0 := by
        rw [List.countP_eq_zero]
        intro n hn
        have := hA n hn
        simp; omega
      have c2 : (insL [] (moreE t D [lA, lB] true)).countP (fun n => decide (n.d = D)) = (moreE t D [lA, lB] true).length := by
        rw [(insL_perm' (moreE t D [lA, lB] true) []).countP_eq, List.nil_append, List.countP_eq_length]
        intro n hn
        rw [decide_eq_true_eq]; exact (hmem n hn).1
      rw [c1, c2, hm]; omega
    -- Map
    have hls : lastS X D X.length = -1 := by
      rw [lastS_eq VX _ (Nat.le_refl _)]
      by_cases hs : 0 ≤ spAt X D ∧ spAt X D < (X.length : Nat)
      · exfalso
        have hi : (spAt X D).toNat < X.length := by omega
        have h2 := (VX.spAt_iff (i := (spAt X D).toNat) hi).1 (by omega)
        exact (htop _ (mem_at.2 ⟨_, hi, rfl⟩) h2.1).1 h2.2
      · rw [if_neg hs]
    have hmm : mapMore X D lM = [] := by
      unfold mapMore
      rw [hls]
      have : ((srcL lM).filter fun q => decide ((-1 : Int) ≥ 0) && !foundP X D q) = [] := by
        rw [List.filter_eq_nil_iff]; intro q _; simp
      rw [this]; rfl
    obtain ⟨m1, m2, m3⟩ := map_stay VX hD lM (by rw [hmm]; simp; omega)
    rw [hmm, List.append_nil] at m1 m2 m3
    have hsrt : Srt ltT (X.map (nowN lM D)) := by
      unfold Srt
      rw [List.pairwise_map]
      exact List.Pairwise.imp (fun {a b} hh => by rw [lt_now]; exact hh) VX.srt
    rw [show sortT (X.map (nowN lM D)) = X.map (nowN lM D) from srtL_self ltT_ord hsrt] at m1 m3
    obtain ⟨Y, hY⟩ : ∃ Y, Y = X.map (nowN lM D) := ⟨_, rfl⟩
    rw [← hY] at m1 m3
    have hYl : Y.length = X.length := by rw [hY, List.length_map]
    have hYat : ∀ i, i < X.length → Y[i]! = nowN lM D X[i]! := fun i hi => by rw [hY]; exact mapP_at _ hi
    have VY : VT Y D := m3.vt (by omega) (by omega) fun i hi hd => by
      rw [hYl] at hi
      rw [hYat i hi, (now_d lM D _).1] at hd
      obtain ⟨n, hn, hp⟩ := VX.leaf i hi hd
      refine ⟨nowN lM D n, by rw [hY]; exact List.mem_map.2 ⟨n, hn, rfl⟩, ?_⟩
      rw [(now_d lM D n).2.1]; exact hp
    rw [prune_all VY] at m1
    refine ⟨X, s1, hXl, Y, m1, by rw [← hDe]; exact VY, ?_, by rw [hYl]; exact hXl, fun n hn hd => ?_⟩
    · rw [← hDe, hY, List.countP_map, ← hcnt]
      apply List.countP_congr
      intro n _
      simp only [Function.comp, (now_d lM D n).1]
    · rw [← hDe] at hd
      rw [if_neg (by omega)]
      rw [hY] at hn
      obtain ⟨m, hm', rfl⟩ := List.mem_map.1 hn
      rw [(now_d lM D m).1] at hd
      obtain ⟨q1, q2⟩ := htop m hm' hd
      rw [(now_d lM D m).2.2]
      refine ⟨q1, ?_⟩
      unfold nowN
      rw [decide_eq_false (by omega), lsrc]
      simp only [Bool.false_eq_true, if_false]
      rcases q2 with q | q
      · rw [q, if_pos (by decide)]; exact lsubA
      · rw [q, if_pos (by decide)]; exact lsubB
end
end Go.Proofs.Ytmagjdocondmhaa.Tr
