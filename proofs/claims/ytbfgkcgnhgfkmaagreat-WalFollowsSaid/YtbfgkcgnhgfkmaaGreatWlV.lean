/-
  Two disks that the call itself made, beside blocks that are known; the law's open.
-/
import Derived.Test.YtbfgkcgnhgfkmaaGreatWlU
import Derived.Test.YtbfgkcgnhgfkmaaGreatDkPair
namespace Go.Proofs.YtbfgkcgnhgfkmaaGreat.Wl
open Go Go.RowKit Go.Proofs.YtbfgkcgnhgfkmaaGreat.Slc Go.Proofs.YtbfgkcgnhgfkmaaGreat.Hs
open Go.Proofs.YtbfgkcgnhgfkmaaGreat.Dk (Fr ptr bstr bstr_size bstr_list RepP NextP RepR NextR St Apart keepR NewB i64ok same_any)
set_option linter.unusedVariables false
set_option linter.unusedSimpArgs false

def Held (B : Nat) (w : World) (F R G Q : Nat → Prop) (x : Nat × Obj) : Prop := w.heap[x.1]? = some x.2 ∧ B ≤ x.1 ∧ ¬ F x.1 ∧ ¬ R x.1 ∧ ¬ G x.1 ∧ ¬ Q x.1
def PrS (B : Nat) (w w' : World) (d r : Nat) (s t : St) (H : List (Nat × Obj)) (F R G Q : Nat → Prop) : Prop :=
  RepP w' d s F R ∧ RepR w' r t G Q ∧ Apart F R G Q ∧ ((∀ k, F k → B ≤ k) ∧ (∀ k, R k → B ≤ k) ∧ (∀ k, G k → B ≤ k) ∧ (∀ k, Q k → B ≤ k)) ∧ Below B w w' ∧ B ≤ w'.heap.size ∧ (∀ x ∈ H, Held B w' F R G Q x) ∧ (H.map (·.1)).Nodup
def Pr (B : Nat) (w w' : World) (d r : Nat) (s t : St) (H : List (Nat × Obj)) : Prop :=
  ∃ F R G Q, RepP w' d s F R ∧ RepR w' r t G Q ∧ Apart F R G Q ∧ ((∀ k, F k → B ≤ k) ∧ (∀ k, R k → B ≤ k) ∧ (∀ k, G k → B ≤ k) ∧ (∀ k, Q k → B ≤ k)) ∧ Below B w w' ∧ B ≤ w'.heap.size ∧ (∀ x ∈ H, Held B w' F R G Q x) ∧ (H.map (·.1)).Nodup
theorem Pr.bel {B : Nat} {w w' : World} {d r : Nat} {s t : St} {H : List (Nat × Obj)} (h : Pr B w w' d r s t H) : Below B w w' := by obtain ⟨F, R, G, Q, h1, h2, h3, h4, h5, _⟩ := h; exact h5
theorem Pr.size {B : Nat} {w w' : World} {d r : Nat} {s t : St} {H : List (Nat × Obj)} (h : Pr B w w' d r s t H) : B ≤ w'.heap.size := by obtain ⟨F, R, G, Q, h1, h2, h3, h4, h5, h6, _⟩ := h; exact h6
theorem Pr.blk {B : Nat} {w w' : World} {d r : Nat} {s t : St} {H : List (Nat × Obj)} (h : Pr B w w' d r s t H) : ∀ x ∈ H, w'.heap[x.1]? = some x.2 := by obtain ⟨F, R, G, Q, h1, h2, h3, h4, h5, h6, h7, _⟩ := h; exact fun x hx => (h7 x hx).1
theorem Pr.below {B : Nat} {w w' w2 : World} {d r : Nat} {s t : St} {H : List (Nat × Obj)} (h : Pr B w w' d r s t H) (hb : Below w'.heap.size w' w2) : Pr B w w2 d r s t H := by
  obtain ⟨F, R, G, Q, h1, h2, h3, h4, h5, h6, h7, h8⟩ := h
  exact ⟨F, R, G, Q, h1.below hb, h2.below hb, h3, h4, h5.trans (hb.mono h6), Nat.le_trans h6 hb.size, fun x hx => ⟨(hb.block _ (lt_of_block (h7 x hx).1)).trans (h7 x hx).1, (h7 x hx).2⟩, h8⟩
/-- a call on the program's disk -/
theorem Pr.stepP' {B : Nat} {w w' w2 : World} {d r : Nat} {s t s' : St} {H : List (Nat × Obj)} {F R G Q : Nat → Prop} (h1 : RepP w' d s F R) (h2 : RepR w' r t G Q) (h3 : Apart F R G Q) (h4 : (∀ k, F k → B ≤ k) ∧ (∀ k, R k → B ≤ k) ∧ (∀ k, G k → B ≤ k) ∧ (∀ k, Q k → B ≤ k)) (h5 : Below B w w') (h6 : B ≤ w'.heap.size) (h7 : ∀ x ∈ H, Held B w' F R G Q x) (h8 : (H.map (·.1)).Nodup)
    (hn : NextP w' w2 d s' F R) : ∃ F' R', PrS B w w2 d r s' t H F' R' G Q := by
  have hR := keepR h2 h3 hn
  obtain ⟨F', R', k1, k2, k3, k4⟩ := hn
  refine ⟨F', R', k1, hR, fun k => ⟨fun q => ⟨fun z => ?_, fun z => ?_⟩, fun q z => ?_⟩, ⟨fun k q => (k2 k q).elim (h4.1 k) fun z => Nat.le_trans h6 z, fun k q => (k3 k q).elim (h4.2.1 k) fun z => Nat.le_trans h6 z, h4.2.2⟩, h5.trans (k4.toBelow h6 h4.1), Nat.le_trans h6 k4.size, fun x hx => ?_, h8⟩
  · rcases k2 k q with y | y
    · exact ((h3 k).1 y).1 z
    · have := h2.Flt k z; omega
  · rcases k2 k q with y | y
    · exact ((h3 k).1 y).2 z
    · have := h2.Rlt k z; omega
  · rcases k3 k z with y | y
    · exact (h3 k).2 q y
    · have := h2.Flt k q; omega
  · obtain ⟨b1, b2, b3, b4, b5, b6⟩ := h7 x hx
    have hlt := lt_of_block b1
    exact ⟨(k4.block _ hlt b3).trans b1, b2, fun q => (k2 _ q).elim b3 fun z => by omega, fun q => (k3 _ q).elim b4 fun z => by omega, b5, b6⟩
theorem Pr.stepP {B : Nat} {w w' w2 : World} {d r : Nat} {s t s' : St} {H : List (Nat × Obj)} {F R G Q : Nat → Prop} (h1 : RepP w' d s F R) (h2 : RepR w' r t G Q) (h3 : Apart F R G Q) (h4 : (∀ k, F k → B ≤ k) ∧ (∀ k, R k → B ≤ k) ∧ (∀ k, G k → B ≤ k) ∧ (∀ k, Q k → B ≤ k)) (h5 : Below B w w') (h6 : B ≤ w'.heap.size) (h7 : ∀ x ∈ H, Held B w' F R G Q x) (h8 : (H.map (·.1)).Nodup)
    (hn : NextP w' w2 d s' F R) : Pr B w w2 d r s' t H := by
  obtain ⟨F', R', x⟩ := Pr.stepP' h1 h2 h3 h4 h5 h6 h7 h8 hn
  exact ⟨F', R', G, Q, x⟩
theorem Pr.onP {B : Nat} {w w' : World} {d r : Nat} {s t s' : St} {H : List (Nat × Obj)} {f : FuncId} {args : Array Value} {Post : Ending → Prop} (h : Pr B w w' d r s t H)
    (hc : ∀ F R, RepP w' d s F R → Calls Tryz.prog f args w' fun e w2 => Post e ∧ NextP w' w2 d s' F R) : Calls Tryz.prog f args w' fun e w2 => Post e ∧ Pr B w w2 d r s' t H := by
  obtain ⟨F, R, G, Q, h1, h2, h3, h4, h5, h6, h7, h8⟩ := h
  exact (hc F R h1).mono fun e w2 ⟨he, hn⟩ => ⟨he, .stepP h1 h2 h3 h4 h5 h6 h7 h8 hn⟩
/-- a call on the reference's disk -/
theorem Pr.stepR {B : Nat} {w w' w2 : World} {d r : Nat} {s t t' : St} {H : List (Nat × Obj)} {F R G Q : Nat → Prop} (h1 : RepP w' d s F R) (h2 : RepR w' r t G Q) (h3 : Apart F R G Q) (h4 : (∀ k, F k → B ≤ k) ∧ (∀ k, R k → B ≤ k) ∧ (∀ k, G k → B ≤ k) ∧ (∀ k, Q k → B ≤ k)) (h5 : Below B w w') (h6 : B ≤ w'.heap.size) (h7 : ∀ x ∈ H, Held B w' F R G Q x) (h8 : (H.map (·.1)).Nodup)
    (hn : NextR w' w2 r t' G Q) : Pr B w w2 d r s t' H := by
  obtain ⟨G', Q', k1, k2, k3, k4⟩ := hn
  have hP : RepP w2 d s F R := h1.frame k4 fun k q z => q.elim (fun y => ((h3 k).1 y).1 z) fun y => (h3 k).2 z y
  refine ⟨F, R, G', Q', hP, k1, fun k => ⟨fun q => ⟨fun z => ?_, fun z => ?_⟩, fun q z => ?_⟩, ⟨h4.1, h4.2.1, fun k q => (k2 k q).elim (h4.2.2.1 k) fun z => Nat.le_trans h6 z, fun k q => (k3 k q).elim (h4.2.2.2 k) fun z => Nat.le_trans h6 z⟩, h5.trans (k4.toBelow h6 h4.2.2.1), Nat.le_trans h6 k4.size, fun x hx => ?_, h8⟩
  · rcases k2 k z with y | y
    · exact ((h3 k).1 q).1 y
    · have := h1.Flt k q; omega
  · rcases k3 k z with y | y
    · exact ((h3 k).1 q).2 y
    · have := h1.Flt k q; omega
  · rcases k2 k q with y | y
    · exact (h3 k).2 y z
    · have := h1.Rlt k z; omega
  · obtain ⟨b1, b2, b3, b4, b5, b6⟩ := h7 x hx
    have hlt := lt_of_block b1
    exact ⟨(k4.block _ hlt b5).trans b1, b2, b3, b4, fun q => (k2 _ q).elim b5 fun z => by omega, fun q => (k3 _ q).elim b6 fun z => by omega⟩
theorem Pr.onR {B : Nat} {w w' : World} {d r : Nat} {s t t' : St} {H : List (Nat × Obj)} {f : FuncId} {args : Array Value} {Post : Ending → Prop} (h : Pr B w w' d r s t H)
    (hc : ∀ G Q, RepR w' r t G Q → Calls Tryz.prog f args w' fun e w2 => Post e ∧ NextR w' w2 r t' G Q) : Calls Tryz.prog f args w' fun e w2 => Post e ∧ Pr B w w2 d r s t' H := by
  obtain ⟨F, R, G, Q, h1, h2, h3, h4, h5, h6, h7, h8⟩ := h
  exact (hc G Q h2).mono fun e w2 ⟨he, hn⟩ => ⟨he, .stepR h1 h2 h3 h4 h5 h6 h7 h8 hn⟩
/-- a call on each -/
theorem Pr.stepPR {B : Nat} {w w' w2 w3 : World} {d r : Nat} {s t s' t' : St} {H : List (Nat × Obj)} {F R G Q : Nat → Prop} (h : PrS B w w' d r s t H F R G Q) (hn : NextP w' w2 d s' F R) (hm : NextR w2 w3 r t' G Q) : Pr B w w3 d r s' t' H := by
  obtain ⟨h1, h2, h3, h4, h5, h6, h7, h8⟩ := h
  obtain ⟨F', R', k1, k2, k3, k4, k5, k6, k7, k8⟩ := Pr.stepP' h1 h2 h3 h4 h5 h6 h7 h8 hn
  exact Pr.stepR k1 k2 k3 k4 k5 k6 k7 k8 hm
/-- a call on the reference's disk that only reads -/
theorem Pr.onRB {B : Nat} {w w' : World} {d r : Nat} {s t : St} {H : List (Nat × Obj)} {f : FuncId} {args : Array Value} {Post : Ending → Prop} (h : Pr B w w' d r s t H)
    (hc : ∀ G Q, RepR w' r t G Q → Calls Tryz.prog f args w' fun e w2 => Post e ∧ Below w'.heap.size w' w2) : Calls Tryz.prog f args w' fun e w2 => Post e ∧ Below w'.heap.size w' w2 := by
  obtain ⟨F, R, G, Q, h1, h2, h3, h4, h5, h6, h7, h8⟩ := h
  exact hc G Q h2
/-- a new block -/
theorem Pr.made {B : Nat} {w w' : World} {d r : Nat} {s t : St} {H : List (Nat × Obj)} (h : Pr B w w' d r s t H) (o : Obj) : Pr B w (w'.alloc o) d r s t ((w'.heap.size, o) :: H) := by
  have hb : Below w'.heap.size w' (w'.alloc o) := (Below.refl _ _).alloc (Nat.le_refl _) _
  obtain ⟨F, R, G, Q, h1, h2, h3, h4, h5, h6, h7, h8⟩ := h
  refine ⟨F, R, G, Q, h1.below hb, h2.below hb, h3, h4, h5.trans (hb.mono h6), Nat.le_trans h6 hb.size, fun x hx => ?_, ?_⟩
  · rcases List.mem_cons.1 hx with rfl | hx
    · exact ⟨heap_alloc_new _ _, h6, fun q => by have := h1.Flt _ q; simp only at this; omega, fun q => by have := h1.Rlt _ q; simp only at this; omega, fun q => by have := h2.Flt _ q; simp only at this; omega, fun q => by have := h2.Rlt _ q; simp only at this; omega⟩
    · exact ⟨(hb.block _ (lt_of_block (h7 x hx).1)).trans (h7 x hx).1, (h7 x hx).2⟩
  · rw [List.map_cons, List.nodup_cons]
    refine ⟨fun q => ?_, h8⟩
    rw [List.mem_map] at q
    obtain ⟨x, hx, e⟩ := q
    have := lt_of_block (h7 x hx).1
    omega
theorem Pr.of {B : Nat} {w w' : World} {d r : Nat} {s t : St} (h : NewB B w w' d r s t) : Pr B w w' d r s t [] := by
  obtain ⟨F, R, G, Q, h1, h2, h3, h4, h5, h6, h7, h8, h9⟩ := h
  exact ⟨F, R, G, Q, h1, h2, h3, ⟨h4, h5, h6, h7⟩, h8, h9, fun x hx => by simp at hx, by simp⟩

def pblk (d r : Nat) (lv mv : Value) : Obj := .cells #[ptr d, ptr r, lv, mv] 34 (0, 0)
theorem pblk_cells {w : World} {p d r : Nat} {lv mv : Value} (h : w.heap[p]? = some (pblk d r lv mv)) :
    w.cell? ⟨p, 0, none⟩ = some (ptr d) ∧ w.cell? ⟨p, 1, none⟩ = some (ptr r) ∧ w.cell? ⟨p, 2, none⟩ = some lv ∧ w.cell? ⟨p, 3, none⟩ = some mv ∧ ∀ k, w.frozen? ⟨p, k, none⟩ = false := by
  refine ⟨?_, ?_, ?_, ?_, fun k => frozen_of_row _ _ k _ _ h⟩
  · rw [cell_of_row _ _ 0 _ _ _ h]; rfl
  · rw [cell_of_row _ _ 1 _ _ _ h]; rfl
  · rw [cell_of_row _ _ 2 _ _ _ h]; rfl
  · rw [cell_of_row _ _ 3 _ _ _ h]; rfl
theorem pblk_set {w : World} {p d r : Nat} {lv mv : Value} (h : w.heap[p]? = some (pblk d r lv mv)) (a b : Value) : ((w.setCell ⟨p, 2, none⟩ a).setCell ⟨p, 3, none⟩ b).heap[p]? = some (pblk d r a b) := by
  unfold pblk at h
  rw [heap_setCell_same _ p 3 _ _ _ (heap_setCell_same w p 2 _ _ _ h)]; rfl
theorem OpPost.next {w w' : World} {d : Nat} {n : B} {rs : St × Int × Option (List B × Nat)} {F R : Nat → Prop} {e : Ending} (h : OpPost w d n rs F R e w') : NextP w w' d rs.1 F R := by
  unfold OpPost at h
  split at h
  · exact h.2
  · obtain ⟨v, F', R', -, -, -, h1, h2, h3, h4, -⟩ := h
    exact ⟨F', R', h1, fun k q => (h2 k q).imp id fun z => by omega, fun k q => (h3 k q).imp id fun z => by omega, h4⟩
theorem ROpPost.next {w w' : World} {d : Nat} {n : B} {rs : St × Int × Option (List B × Nat)} {F R : Nat → Prop} {e : Ending} (h : ROpPost w d n rs F R e w') : NextR w w' d rs.1 F R := by
  unfold ROpPost at h
  split at h
  · exact h.2
  · obtain ⟨v, l, F', R', -, -, -, -, h1, h2, h3, h4, -⟩ := h
    exact ⟨F', R', h1, h2, h3, h4⟩
/-- what the law's open leaves -/
def PoPost (B : Nat) (w w2 : World) (d r p : Nat) (lv mv : Value) (H : List (Nat × Obj)) (n : Hs.B) (rs : St × Int × Option (List Hs.B × Nat)) : Prop :=
  match rs.2.2 with
  | none => Pr B w w2 d r rs.1 rs.1 ((p, pblk d r lv mv) :: H)
  | some q => ∃ l m, Pr B w w2 d r rs.1 rs.1 [(p, pblk d r (ptr l) (ptr m)), (l, lblk ⟨n, q.1.length, q.2, false⟩ d), (m, rlblk ⟨n, q.1.length, q.2, false⟩ r)]
theorem openP_some {s : St} {n : Hs.B} {q : List Hs.B × Nat} (h : (openP s n).2.2 = some q) : scanB (s.read n).1 = some q := by
  have hT : ∀ (st : St) (b : Hs.B) (size : Nat) (recs : List Hs.B), (openT st n b size recs).2.2 = some q → (recs, size) = q := fun st b size recs h => by
    unfold openT at h
    generalize (if size < b.length then replace st n (b.take size) else st.sync) = y at h
    simp only at h
    split at h
    · exact Option.some.inj h
    · cases h
  unfold openP at h
  split at h
  · cases h
  · split at h
    · cases h
    · unfold openS at h
      split at h
      · cases h
      · rename_i recs size hs
        rw [hs]
        unfold openR at h
        split at h
        · split at h
          · rw [hT _ _ _ _ h]
          · cases h
        · rw [hT _ _ _ _ h]
theorem fr_pair (w : World) (p : Nat) (a b : Value) : Fr (fun k => k = p) w ((w.setCell ⟨p, 2, none⟩ a).setCell ⟨p, 3, none⟩ b) := fr_two w p 2 3 a b
/-- both logs are open -/
theorem po_some {B : Nat} {w w' w2 w3 w4 w5 : World} {d r p l m : Nat} {s S' : St} {lv mv : Value} {F R G Q F' R' G' Q' : Nat → Prop} {g : Lg} (h1 : RepP w' d s F R) (h2 : RepR w' r s G Q) (h3 : Apart F R G Q) (h4 : (∀ k, F k → B ≤ k) ∧ (∀ k, R k → B ≤ k) ∧ (∀ k, G k → B ≤ k) ∧ (∀ k, Q k → B ≤ k)) (h5 : Below B w w') (h6 : B ≤ w'.heap.size) (h7 : Held B w' F R G Q (p, pblk d r lv mv))
    (a1 : RepP w2 d S' F' R') (a2 : ∀ k, F' k → F k ∨ w'.heap.size < k) (a3 : ∀ k, R' k → R k ∨ w'.heap.size < k) (a4 : Fr F w' w2) (a5 : w2.heap[w'.heap.size]? = some (lblk g d)) (hle : l = w'.heap.size)
    (b1 : RepR w3 r S' G' Q') (b2 : ∀ k, G' k → G k ∨ w2.heap.size ≤ k) (b3 : ∀ k, Q' k → Q k ∨ w2.heap.size ≤ k) (b4 : Fr G w2 w3) (b5 : w3.heap[m]? = some (rlblk g r)) (b6 : w2.heap.size ≤ m) (b7 : ¬ G' m) (b8 : ¬ Q' m)
    (c1 : Below w3.heap.size w3 w4) (c2 : w5 = (w4.setCell ⟨p, 2, none⟩ (ptr l)).setCell ⟨p, 3, none⟩ (ptr m)) : Pr B w w5 d r S' S' [(p, pblk d r (ptr l) (ptr m)), (l, lblk g d), (m, rlblk g r)] := by
  subst hle
  obtain ⟨p1, p2, p3, p4, p5, p6⟩ := h7
  simp only at p1 p2 p3 p4 p5 p6
  have hpl := lt_of_block p1
  have z2 := a4.size
  have z3 := b4.size
  have z4 := c1.size
  have hll := lt_of_block a5
  have hml := lt_of_block b5
  have hfr : Fr (fun k => k = p) w4 w5 := by rw [c2]; exact fr_pair _ _ _ _
  have z5 := hfr.size
  have pF' : ¬ F' p := fun q => (a2 p q).elim p3 fun z => by omega
  have pR' : ¬ R' p := fun q => (a3 p q).elim p4 fun z => by omega
  have pG' : ¬ G' p := fun q => (b2 p q).elim p5 fun z => by omega
  have pQ' : ¬ Q' p := fun q => (b3 p q).elim p6 fun z => by omega
  have e3 : RepP w3 d S' F' R' := a1.frame b4 fun k q z => by
    have hk := h2.Flt k z
    rcases q with q | q
    · rcases a2 k q with y | y
      · exact ((h3 k).1 y).1 z
      · omega
    · rcases a3 k q with y | y
      · exact (h3 k).2 z y
      · omega
  have e5 : RepP w5 d S' F' R' := (e3.below c1).frame hfr fun k q z => by subst z; exact q.elim pF' pR'
  have f5 : RepR w5 r S' G' Q' := (b1.below c1).frame hfr fun k q z => by subst z; exact q.elim pG' pQ'
  have hp2 : w2.heap[p]? = some (pblk d r lv mv) := (a4.block p hpl p3).trans p1
  have hp4 : w4.heap[p]? = some (pblk d r lv mv) := (c1.block p (by omega)).trans ((b4.block p (by omega) p5).trans hp2)
  have hG0 : ¬ G w'.heap.size := fun q => by have := h2.Flt _ q; omega
  have hl4 : w4.heap[w'.heap.size]? = some (lblk g d) := (c1.block _ (by omega)).trans ((b4.block _ hll hG0).trans a5)
  have hm4 : w4.heap[m]? = some (rlblk g r) := (c1.block m hml).trans b5
  refine ⟨F', R', G', Q', e5, f5, fun k => ⟨fun q => ⟨fun z => ?_, fun z => ?_⟩, fun q z => ?_⟩, ⟨fun k q => ?_, fun k q => ?_, fun k q => ?_, fun k q => ?_⟩, ?_, by omega, fun x hx => ?_, ?_⟩
  · have h9 := a1.Flt k q
    rcases a2 k q with y | y
    · rcases b2 k z with u | u
      · exact ((h3 k).1 y).1 u
      · omega
    · rcases b2 k z with u | u
      · have := h2.Flt k u; omega
      · omega
  · have h9 := a1.Flt k q
    rcases a2 k q with y | y
    · rcases b3 k z with u | u
      · exact ((h3 k).1 y).2 u
      · omega
    · rcases b3 k z with u | u
      · have := h2.Rlt k u; omega
      · omega
  · have h9 := a1.Rlt k z
    rcases a3 k z with y | y
    · rcases b2 k q with u | u
      · exact (h3 k).2 u y
      · omega
    · rcases b2 k q with u | u
      · have := h2.Flt k u; omega
      · omega
  · rcases a2 k q with y | y
    · exact h4.1 k y
    · omega
  · rcases a3 k q with y | y
    · exact h4.2.1 k y
    · omega
  · rcases b2 k q with y | y
    · exact h4.2.2.1 k y
    · omega
  · rcases b3 k q with y | y
    · exact h4.2.2.2 k y
    · omega
  · exact ((h5.trans (a4.toBelow h6 h4.1)).trans ((b4.toBelow (by omega) h4.2.2.1).trans (c1.mono (by omega)))).trans (hfr.toBelow (by omega) fun k q => by omega)
  · simp only [List.mem_cons, List.not_mem_nil, or_false] at hx
    rcases hx with rfl | rfl | rfl
    · exact ⟨by rw [c2]; exact pblk_set hp4 _ _, p2, pF', pR', pG', pQ'⟩
    · refine ⟨(hfr.block _ (by simp only; omega) (by simp only; omega)).trans hl4, h6, fun q => (a2 _ q).elim (fun z => by have := h1.Flt _ z; simp only at this; omega) fun z => by simp only at z; omega, fun q => (a3 _ q).elim (fun z => by have := h1.Rlt _ z; simp only at this; omega) fun z => by simp only at z; omega, fun q => (b2 _ q).elim hG0 fun z => by simp only at z; omega, fun q => (b3 _ q).elim (fun z => by have := h2.Rlt _ z; simp only at this; omega) fun z => by simp only at z; omega⟩
    · refine ⟨(hfr.block _ (by simp only; omega) (by simp only; omega)).trans hm4, by simp only; omega, fun q => by have := a1.Flt _ q; simp only at this; omega, fun q => by have := a1.Rlt _ q; simp only at this; omega, b7, b8⟩
  · simp only [List.map_cons, List.map_nil, List.nodup_cons, List.mem_cons, List.not_mem_nil, or_false, not_false_eq_true, List.nodup_nil, and_true]
    omega

set_option maxRecDepth 10000 in
set_option maxHeartbeats 4000000 in
theorem popen_any {B : Nat} {w w' : World} {d r p : Nat} {s : St} {lv mv : Value} {H : List (Nat × Obj)} (n : Hs.B) (h : Pr B w w' d r s s ((p, pblk d r lv mv) :: H)) (hn : n.length ≤ 900) (ho : s.ops.length ≤ 900) (hwt : s.wt ≤ 100000) :
    Calls Tryz.prog 9 #[ptr p, .string (bstr n)] w' fun e w2 => e = .returned (.bool true) ∧ PoPost B w w2 d r p lv mv H n (openP s n) := by
  have HPR := Lib.hid h
  obtain ⟨F, R, G, Q, h1, h2, h3, h4, h5, h6, h7, h8⟩ := h
  have hp := h7 _ List.mem_cons_self
  obtain ⟨p1, p2, p3, p4, p5, p6⟩ := hp
  simp only at p1 p2 p3 p4 p5 p6
  obtain ⟨c0, c1, -, -, -⟩ := pblk_cells p1
  have hpl := lt_of_block p1
  have hrw := read_wt s n
  have hrl : ∀ q, (openP s n).2.2 = some q → q.1.length ≤ 100000 := fun q hq => by have := scanB_le _ _ (openP_some hq); omega
  have HPS : Hid (PrS B w w' d r s s ((p, pblk d r lv mv) :: H) F R G Q) := Lib.hid ⟨h1, h2, h3, h4, h5, h6, h7, h8⟩
  have HLD := Lib.hid (show Held B w' F R G Q (p, pblk d r lv mv) from ⟨p1, p2, p3, p4, p5, p6⟩)
  have hop := open_any w' d s F R n h1 hn ho (by omega)
  have hro := fun (W : World) (hN : NextP w' W d (openP s n).1 F R) => ropen_any W r s G Q n (keepR h2 h3 hN) hn ho (by omega)
  have HRO := Lib.hid hro
  have H1 := Lib.hid h1
  have H2 := Lib.hid h2
  have H3 := Lib.hid h3
  have H4 := Lib.hid h4
  have H5 := Lib.hid h5
  have H6 := Lib.hid h6
  have H7 := Lib.hid h7
  have H8 := Lib.hid h8
  have P1 := Lib.hid p1
  have P3 := Lib.hid p3
  have P5 := Lib.hid p5
  have HPL := Lib.hid hpl
  generalize hRS : openP s n = RS at *
  have HRS := Bx.mk hRS
  obtain ⟨S', E, O⟩ := RS
  have hwtp : (S' : St) = S' := rfl
  have HOP := Lib.hid hop
  generalize hNN : bstr n = N at *
  clear h1 h2 h3 h4 h5 h6 h7 h8 p1 p2 p3 p4 p5 p6 hop hro hRS hwtp hrw hpl hNN
  unfold ptr at *
  go_enter Tryz.func9, Tryz.ntmps9
  go_wp2_with fail
  go_at_call 19
  refine HOP.out.mono ?_
  intro e w2 hpost
  have hnx := hpost.next
  have hro := HRO.out w2 hnx
  have HNX := Lib.hid hnx
  have HR2 := Lib.hid hro
  have hpb : w2.heap[p]? = some (pblk d r lv mv) := by
    obtain ⟨_, _, _, _, _, k4⟩ := hnx
    exact (k4.block p HPL.out P3.out).trans P1.out
  obtain ⟨-, c1', -, -, -⟩ := pblk_cells hpb
  unfold ptr at c1'
  clear c0 c1 hro hnx
  cases O with
  | none =>
    obtain ⟨rfl, -⟩ := hpost
    clear hpb
    go_wp2_with fail
    go_at_call 22
    refine HR2.out.mono ?_
    rintro e w3 ⟨rfl, hn3⟩
    have hsm := same_any w3 (.slice none 0 0) (.slice none 0 0) [] [] (Rd.nil w3) (Rd.nil w3) (by simp) (by simp)
    rw [decide_eq_true rfl] at hsm
    have HSM := Lib.hid hsm
    have HN3 := Lib.hid hn3
    have t1 : (E != E) = false := by simp
    clear hn3 hsm
    go_wp2_with fail
    go_at_call 13
    refine HSM.out.mono ?_
    rintro e w4 ⟨rfl, hb4⟩
    have HB4 := Lib.hid hb4
    clear hb4
    go_wp2_with fail
    go_ret
    refine ⟨rfl, ?_⟩
    show Pr B w w4 d r S' S' ((p, pblk d r lv mv) :: H)
    exact (Pr.stepPR HPS.out HNX.out HN3.out).below HB4.out
  | some q =>
    obtain ⟨v, F', R', rfl, hv, hg, a1, a2, a3, a4, -⟩ := hpost
    obtain ⟨recs, size⟩ := q
    have hrlq := hrl _ rfl
    simp only at hv hg hrlq
    obtain ⟨av, cv, hfv, -⟩ := hv.rd.form
    subst hfv
    have HA1 := Lib.hid a1
    have HA2 := Lib.hid a2
    have HA3 := Lib.hid a3
    have HA4 := Lib.hid a4
    have HGL := Lib.hid hg
    have HV := Lib.hid hv
    generalize hl : w'.heap.size = l at *
    have HLL := Lib.hid hl
    have HPB := Lib.hid hpb
    clear hv hg a1 a2 a3 a4 hrl hl hpb
    unfold ptr
    go_wp2_with fail
    go_at_call 22
    refine HR2.out.mono ?_
    intro e w3 hpost3
    obtain ⟨v2, m, G', Q', rfl, hv2, hle, hgm, b1, b2, b3, b4, b7, b8⟩ := hpost3
    simp only at hv2 hgm
    have hv3 := HV.out.keep (w' := w3) fun k hk hlt => b4.block k hlt fun z => by have h1 := (World.ownsRow.lt HV.out k hk).1; have h2 := H2.out.Flt k z; have h3 := HLL.out; omega
    have hsm := same_any w3 _ v2 recs recs hv3.rd hv2.rd hrlq hrlq
    rw [decide_eq_true rfl] at hsm
    obtain ⟨a2', c2', hf2, -⟩ := hv2.rd.form
    subst hf2
    have HSM := Lib.hid hsm
    have t1 : (E != E) = false := by simp
    have HB := Lib.hid b4
    have HBS := Lib.hid (show RepR w3 r S' G' Q' ∧ (∀ k, G' k → G k ∨ w2.heap.size ≤ k) ∧ (∀ k, Q' k → Q k ∨ w2.heap.size ≤ k) ∧ w3.heap[m]? = some (rlblk ⟨n, recs.length, size, false⟩ r) ∧ w2.heap.size ≤ m ∧ ¬ G' m ∧ ¬ Q' m from ⟨b1, b2, b3, hgm, hle, b7, b8⟩)
    clear hv2 hle hgm b1 b2 b3 b4 b7 b8 hsm hv3
    unfold ptr
    go_wp2_with fail
    go_at_call 13
    refine HSM.out.mono ?_
    rintro e w4 ⟨rfl, hb4⟩
    have hpl2 := lt_of_block HPB.out
    have hpb4 : w4.heap[p]? = some (pblk d r lv mv) := (hb4.block p (Nat.lt_of_lt_of_le hpl2 HB.out.size)).trans ((HB.out.block p hpl2 P5.out).trans HPB.out)
    obtain ⟨-, -, c2, c3, cf⟩ := pblk_cells hpb4
    have f2 := cf 2
    have f3 := cf 3
    have hpl4 := lt_of_block hpb4
    have HB4 := Lib.hid hb4
    clear hb4 hpb4 cf
    go_wp2_with fail
    go_ret
    have e := HLL.out
    subst e
    exact ⟨rfl, _, m, po_some H1.out H2.out H3.out H4.out H5.out H6.out HLD.out HA1.out HA2.out HA3.out HA4.out HGL.out rfl HBS.out.1 HBS.out.2.1 HBS.out.2.2.1 HB.out HBS.out.2.2.2.1 HBS.out.2.2.2.2.1 HBS.out.2.2.2.2.2.1 HBS.out.2.2.2.2.2.2 HB4.out rfl⟩
end Go.Proofs.YtbfgkcgnhgfkmaaGreat.Wl
