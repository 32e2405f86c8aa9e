/-
  Two pairs of disks that the call itself made.
-/
import Derived.Test.YtbfgkcgnhgfkmaaDkPair
namespace Go.Proofs.Ytbfgkcgnhgfkmaa.Dk
open Go Go.Maps Go.RowKit Go.Proofs.Ytbfgkcgnhgfkmaa.Slc
set_option linter.unusedVariables false
set_option linter.unusedSimpArgs false

/-- a pair and another one, and neither writes to what the other has -/
def Quad (B : Nat) (w w' : World) (d r : Nat) (s : St) (c e : Nat) (t : St) : Prop :=
  ∃ F R G Q F2 R2 G2 Q2, RepP w' d s F R ∧ RepR w' r s G Q ∧ Apart F R G Q ∧ RepP w' c t F2 R2 ∧ RepR w' e t G2 Q2 ∧ Apart F2 R2 G2 Q2 ∧
    (∀ k, F k ∨ G k → ¬ (F2 k ∨ R2 k) ∧ ¬ (G2 k ∨ Q2 k)) ∧ (∀ k, F2 k ∨ G2 k → ¬ (F k ∨ R k) ∧ ¬ (G k ∨ Q k)) ∧
    (∀ k, F k ∨ R k → B ≤ k) ∧ (∀ k, G k ∨ Q k → B ≤ k) ∧ (∀ k, F2 k ∨ R2 k → B ≤ k) ∧ (∀ k, G2 k ∨ Q2 k → B ≤ k) ∧ Below B w w' ∧ B ≤ w'.heap.size
theorem Quad.swap {B : Nat} {w w' : World} {d r c e : Nat} {s t : St} (h : Quad B w w' d r s c e t) : Quad B w w' c e t d r s := by
  obtain ⟨F, R, G, Q, F2, R2, G2, Q2, a1, a2, a3, a4, a5, a6, a7, a8, a9, a10, a11, a12, a13, a14⟩ := h
  exact ⟨F2, R2, G2, Q2, F, R, G, Q, a4, a5, a6, a1, a2, a3, a8, a7, a11, a12, a9, a10, a13, a14⟩
theorem Quad.bel {B : Nat} {w w' : World} {d r c e : Nat} {s t : St} (h : Quad B w w' d r s c e t) : Below B w w' := by
  obtain ⟨F, R, G, Q, F2, R2, G2, Q2, a1, a2, a3, a4, a5, a6, a7, a8, a9, a10, a11, a12, a13, a14⟩ := h
  exact a13
theorem Quad.below {B : Nat} {w w' w2 : World} {d r c e : Nat} {s t : St} (h : Quad B w w' d r s c e t) (hb : Below w'.heap.size w' w2) : Quad B w w2 d r s c e t := by
  obtain ⟨F, R, G, Q, F2, R2, G2, Q2, a1, a2, a3, a4, a5, a6, a7, a8, a9, a10, a11, a12, a13, a14⟩ := h
  exact ⟨F, R, G, Q, F2, R2, G2, Q2, a1.below hb, a2.below hb, a3, a4.below hb, a5.below hb, a6, a7, a8, a9, a10, a11, a12, a13.trans (hb.mono a14), Nat.le_trans a14 hb.size⟩
theorem Quad.do {B : Nat} {w w' : World} {d r c e : Nat} {s t : St} (h : Quad B w w' d r s c e t) (x : Cl) (hx : x.Fit) (hs : s.Fit) :
    Calls Try.prog 28 #[ptr d, ptr r, .agg x.cells.toArray] w' fun y w2 => y = .returned (.bool true) ∧ Quad B w w2 d r (s.call x).1 c e t := by
  obtain ⟨F, R, G, Q, F2, R2, G2, Q2, a1, a2, a3, a4, a5, a6, a7, a8, a9, a10, a11, a12, a13, a14⟩ := h
  refine (do_any w' d r s s F R G Q x a1 a2 a3 hx hs hs).mono fun y w2 ⟨he, hn⟩ => ⟨by rw [he, beq_self_eq_true], ?_⟩
  obtain ⟨F', R', G', Q', k1, k2, k3, k4, k5, k6, k7, k8⟩ := hn
  have hF : ∀ k, F k ∨ G k → B ≤ k := fun k q => q.elim (fun z => a9 k (.inl z)) (fun z => a10 k (.inl z))
  have l1 := a4.Flt
  have l2 := a4.Rlt
  have l3 := a5.Flt
  have l4 := a5.Rlt
  refine ⟨F', R', G', Q', F2, R2, G2, Q2, k1, k2, k7, a4.frame k8 fun k q z => (a7 k z).1 q, a5.frame k8 fun k q z => (a7 k z).2 q, a6, ?_, ?_, ?_, ?_, a11, a12, a13.trans (k8.toBelow a14 hF), Nat.le_trans a14 k8.size⟩
  · intro k q
    have : (F k ∨ G k) ∨ w'.heap.size ≤ k := by
      rcases q with q | q
      · exact (k3 k q).imp .inl id
      · exact (k5 k q).imp .inr id
    rcases this with z | z
    · exact a7 k z
    · refine ⟨fun y => ?_, fun y => ?_⟩
      · have := y.elim (l1 k) (l2 k); omega
      · have := y.elim (l3 k) (l4 k); omega
  · intro k q
    have hlt : k < w'.heap.size := q.elim (l1 k) (l3 k)
    have := a8 k q
    refine ⟨fun y => ?_, fun y => ?_⟩
    · rcases y with y | y
      · rcases k3 k y with z | z
        · exact this.1 (.inl z)
        · omega
      · rcases k4 k y with z | z
        · exact this.1 (.inr z)
        · omega
    · rcases y with y | y
      · rcases k5 k y with z | z
        · exact this.2 (.inl z)
        · omega
      · rcases k6 k y with z | z
        · exact this.2 (.inr z)
        · omega
  · intro k q
    rcases q with q | q
    · exact (k3 k q).elim (fun z => a9 k (.inl z)) fun z => Nat.le_trans a14 z
    · exact (k4 k q).elim (fun z => a9 k (.inr z)) fun z => Nat.le_trans a14 z
  · intro k q
    rcases q with q | q
    · exact (k5 k q).elim (fun z => a10 k (.inl z)) fun z => Nat.le_trans a14 z
    · exact (k6 k q).elim (fun z => a10 k (.inr z)) fun z => Nat.le_trans a14 z
theorem Quad.agree {B : Nat} {w w' : World} {d r c e : Nat} {s t : St} (h : Quad B w w' d r s c e t) (hs : s.Fit) :
    Calls Try.prog 29 #[ptr d, ptr r] w' fun y w2 => y = .returned (.bool true) ∧ Quad B w w2 d r s c e t := by
  have h' := h
  obtain ⟨F, R, G, Q, F2, R2, G2, Q2, a1, a2, a3, a4, a5, a6, a7, a8, a9, a10, a11, a12, a13, a14⟩ := h
  exact (agree_any w' d r s F R G Q a1 a2 hs).mono fun y w2 ⟨he, hn⟩ => ⟨he, h'.below hn⟩
theorem Quad.cross {B : Nat} {w w' : World} {d r c e : Nat} {s : St} (h : Quad B w w' d r s c e s) (hs : s.Fit) :
    Calls Try.prog 29 #[ptr c, ptr r] w' fun y w2 => y = .returned (.bool true) ∧ Quad B w w2 d r s c e s := by
  have h' := h
  obtain ⟨F, R, G, Q, F2, R2, G2, Q2, a1, a2, a3, a4, a5, a6, a7, a8, a9, a10, a11, a12, a13, a14⟩ := h
  exact (agree_any w' c r s F2 R2 G Q a4 a2 hs).mono fun y w2 ⟨he, hn⟩ => ⟨he, h'.below hn⟩
/-- the program's copy of a pair's first -/
theorem NewB.copy {B : Nat} {w w' : World} {d r : Nat} {s t : St} (h : NewB B w w' d r s t) (ho : s.ops.length ≤ 10000) :
    Calls Try.prog 37 #[ptr d] w' fun y w2 => y = .returned (ptr w'.heap.size) ∧ Below w'.heap.size w' w2 ∧ ∃ F R G Q F2 R2, RepP w2 d s F R ∧ RepR w2 r t G Q ∧ Apart F R G Q ∧ (∀ k, F k ∨ R k → B ≤ k) ∧ (∀ k, G k ∨ Q k → B ≤ k) ∧ RepP w2 w'.heap.size s F2 R2 ∧ (∀ k, F2 k → w'.heap.size ≤ k) ∧ (∀ k, R2 k → R k ∨ w'.heap.size ≤ k) ∧ (∀ k, F k ∨ R k → k < w'.heap.size) ∧ (∀ k, G k ∨ Q k → k < w'.heap.size) ∧ Below B w w2 ∧ B ≤ w'.heap.size := by
  obtain ⟨F, R, G, Q, h1, h2, h3, h4, h5, h6, h7, h8, h9⟩ := h
  refine (copy_any w' d s F R h1 ho).mono fun y w2 ⟨he, hn⟩ => ?_
  obtain ⟨F', R', k1, k2, k3, k4⟩ := hn
  have hb : Below w'.heap.size w' w2 := k4.toBelow (Nat.le_refl _) fun k q => q.elim
  exact ⟨he, hb, F, R, G, Q, F', R', h1.below hb, h2.below hb, h3, fun k q => q.elim (h4 k) (h5 k), fun k q => q.elim (h6 k) (h7 k), k1, fun k q => (k2 k q).elim (fun z => z.elim) id, k3, fun k q => q.elim (h1.Flt k) (h1.Rlt k), fun k q => q.elim (h2.Flt k) (h2.Rlt k), h8.trans (hb.mono h9), h9⟩
theorem rcopy_of {B n : Nat} {w w2 : World} {d r g : Nat} {s t : St} (h : ∃ F R G Q F2 R2, RepP w2 d s F R ∧ RepR w2 r t G Q ∧ Apart F R G Q ∧ (∀ k, F k ∨ R k → B ≤ k) ∧ (∀ k, G k ∨ Q k → B ≤ k) ∧ RepP w2 g s F2 R2 ∧ (∀ k, F2 k → n ≤ k) ∧ (∀ k, R2 k → R k ∨ n ≤ k) ∧ (∀ k, F k ∨ R k → k < n) ∧ (∀ k, G k ∨ Q k → k < n) ∧ Below B w w2 ∧ B ≤ n) (ho : t.ops.length ≤ 10000) :
    Calls Try.prog 38 #[ptr r] w2 fun e w' => ∃ c, e = .returned (ptr c) ∧ NextR w2 w' c t (fun _ => False) (fun _ => False) ∧ Below w2.heap.size w2 w' := by
  obtain ⟨F, R, G, Q, F2, R2, a1, a2, -⟩ := h
  exact rcopy_any w2 r t G Q a2 ho
/-- and the reference's copy of its second -/
theorem Quad.made {B : Nat} {w w' w2 w3 : World} {d r e : Nat} {s : St} (hb : Below w'.heap.size w' w2) (h : ∃ F R G Q F2 R2, RepP w2 d s F R ∧ RepR w2 r s G Q ∧ Apart F R G Q ∧ (∀ k, F k ∨ R k → B ≤ k) ∧ (∀ k, G k ∨ Q k → B ≤ k) ∧ RepP w2 w'.heap.size s F2 R2 ∧ (∀ k, F2 k → w'.heap.size ≤ k) ∧ (∀ k, R2 k → R k ∨ w'.heap.size ≤ k) ∧ (∀ k, F k ∨ R k → k < w'.heap.size) ∧ (∀ k, G k ∨ Q k → k < w'.heap.size) ∧ Below B w w2 ∧ B ≤ w'.heap.size)
    (hr : NextR w2 w3 e s (fun _ => False) (fun _ => False)) : Quad B w w3 d r s w'.heap.size e s := by
  obtain ⟨F, R, G, Q, F2, R2, a1, a2, a3, a4, a5, a6, a7, a8, a9, a10, a11, a12⟩ := h
  obtain ⟨G2, Q2, k1, k2, k3, k4⟩ := hr
  have hs := hb.size
  have hb3 : Below w2.heap.size w2 w3 := k4.toBelow (Nat.le_refl _) fun k q => q.elim
  have hs3 := hb3.size
  have g2 : ∀ k, G2 k → w2.heap.size ≤ k := fun k q => (k2 k q).elim (fun z => z.elim) id
  have q2 : ∀ k, Q2 k → w2.heap.size ≤ k := fun k q => (k3 k q).elim (fun z => z.elim) id
  have f2 : ∀ k, F2 k → k < w2.heap.size := a6.Flt
  have r2 : ∀ k, R2 k → k < w2.heap.size := a6.Rlt
  refine ⟨F, R, G, Q, F2, R2, G2, Q2, a1.below hb3, a2.below hb3, a3, a6.below hb3, k1, ?_, ?_, ?_, a4, a5, ?_, ?_, a11.trans (hb3.mono (by omega)), by omega⟩
  · intro k
    refine ⟨fun q => ⟨fun z => ?_, fun z => ?_⟩, fun q z => ?_⟩
    · have := f2 k q; have := g2 k z; omega
    · have := f2 k q; have := q2 k z; omega
    · have := r2 k z; have := g2 k q; omega
  · intro k q
    have hk : k < w'.heap.size := q.elim (fun z => a9 k (.inl z)) fun z => a10 k (.inl z)
    refine ⟨fun y => ?_, fun y => ?_⟩
    · rcases y with y | y
      · have := a7 k y; omega
      · rcases a8 k y with z | z
        · rcases q with q | q
          · exact a1.dis k q z
          · exact (a3 k).2 q z
        · omega
    · rcases y with y | y
      · have := g2 k y; omega
      · have := q2 k y; omega
  · intro k q
    have hk : w'.heap.size ≤ k := q.elim (a7 k) fun z => by have := g2 k z; omega
    refine ⟨fun y => ?_, fun y => ?_⟩
    · have := a9 k y; omega
    · have := a10 k y; omega
  · intro k q
    rcases q with q | q
    · have := a7 k q; omega
    · rcases a8 k q with z | z
      · exact a4 k (.inr z)
      · omega
  · intro k q
    rcases q with q | q
    · have := g2 k q; omega
    · have := q2 k q; omega

end Go.Proofs.Ytbfgkcgnhgfkmaa.Dk
