/-
  short; two disks that the call itself made, side by side.
-/
import Derived.Test.YtbfgkcgnhgfkmaaGreatDkCalls
import Derived.Test.YtbfgkcgnhgfkmaaGreatDkAwake
namespace Go.Proofs.YtbfgkcgnhgfkmaaGreat.Dk
open Go Go.Maps Go.RowKit Go.Proofs.YtbfgkcgnhgfkmaaGreat.Slc
set_option linter.unusedVariables false
set_option linter.unusedSimpArgs false

def fitC (c : Cl) : Bool := decide (c.data.length ≤ 200) && decide (c.name.length ≤ 100)
def shortB (l : List Cl) : Bool := l.all fitC && decide (l.length ≤ 40)
theorem Cl.In.fit {c : Cl} (h : c.In) (hk : fitC c = true) : c.Fit := by
  simp only [fitC, Bool.and_eq_true, decide_eq_true_eq] at hk
  exact ⟨h.ok, hk.2, hk.1⟩
theorem short_len {l : List Cl} (h : shortB l = true) : l.length ≤ 40 := by
  simp only [shortB, Bool.and_eq_true, decide_eq_true_eq] at h; exact h.2
theorem short_fit {l : List Cl} (h : shortB l = true) (hi : ∀ c ∈ l, c.In) : ∀ c ∈ l, c.Fit := by
  simp only [shortB, Bool.and_eq_true, decide_eq_true_eq, List.all_eq_true] at h
  exact fun c hc => (hi c hc).fit (h.1 c hc)
/-- the name's and the data's cells of the k-th call -/
theorem Arg.two {W : World} {ad : Option Addr} {n c : Nat} {l : List Cl} (h : Arg W (.slice ad n c) l) (k : Nat) (hk : k < l.length) :
    ∃ b o, ad = some ⟨b, o, none⟩ ∧ W.cell? ⟨b, o + k * 8 + 5, none⟩ = some (.string (bstr l[k].name)) ∧ W.cell? ⟨b, o + k * 8 + 6, none⟩ = some (.string (bstr l[k].data)) := by
  obtain ⟨ad', c', hv, hx⟩ := h
  simp only [Value.slice.injEq] at hv
  obtain ⟨rfl, rfl, rfl⟩ := hv
  obtain ⟨b, o, h1, h2, h3⟩ := hx k hk
  exact ⟨b, o, h1, by rw [Nat.add_assoc]; exact h3 5 _ rfl, by rw [Nat.add_assoc]; exact h3 6 _ rfl⟩
theorem Arg.eight {W : World} {ad : Option Addr} {n c : Nat} {l : List Cl} (h : Arg W (.slice ad n c) l) (k : Nat) (hk : k < l.length) :
    ∃ b o, ad = some ⟨b, o, none⟩ ∧ b < W.heap.size ∧ W.cell? ⟨b, o + k * 8, none⟩ = some (.int .i64 l[k].kind) ∧ W.cell? ⟨b, o + k * 8 + 1, none⟩ = some (.int .i64 l[k].frm) ∧ W.cell? ⟨b, o + k * 8 + 2, none⟩ = some (.int .i64 l[k].tgt) ∧ W.cell? ⟨b, o + k * 8 + 3, none⟩ = some (.int .i64 l[k].n) ∧ W.cell? ⟨b, o + k * 8 + 4, none⟩ = some (.int .i64 l[k].m) ∧ W.cell? ⟨b, o + k * 8 + 5, none⟩ = some (.string (bstr l[k].name)) ∧ W.cell? ⟨b, o + k * 8 + 6, none⟩ = some (.string (bstr l[k].data)) ∧ W.cell? ⟨b, o + k * 8 + 7, none⟩ = some (.bool l[k].raw) := by
  obtain ⟨ad', c', hv, hx⟩ := h
  simp only [Value.slice.injEq] at hv
  obtain ⟨rfl, rfl, rfl⟩ := hv
  obtain ⟨b, o, h1, h2, h3⟩ := hx k hk
  refine ⟨b, o, h1, h2, ?_, ?_, ?_, ?_, ?_, ?_, ?_, ?_⟩
  · exact h3 0 _ rfl
  all_goals rw [Nat.add_assoc]
  · exact h3 1 _ rfl
  · exact h3 2 _ rfl
  · exact h3 3 _ rfl
  · exact h3 4 _ rfl
  · exact h3 5 _ rfl
  · exact h3 6 _ rfl
  · exact h3 7 _ rfl

/-- two disks that the call itself made -/
def NewB (B : Nat) (w w' : World) (d r : Nat) (s t : St) : Prop :=
  ∃ F R G Q, RepP w' d s F R ∧ RepR w' r t G Q ∧ Apart F R G Q ∧ (∀ k, F k → B ≤ k) ∧ (∀ k, R k → B ≤ k) ∧ (∀ k, G k → B ≤ k) ∧ (∀ k, Q k → B ≤ k) ∧ Below B w w' ∧ B ≤ w'.heap.size
theorem NewB.bel {B : Nat} {w w' : World} {d r : Nat} {s t : St} (h : NewB B w w' d r s t) : Below B w w' := by obtain ⟨F, R, G, Q, _, _, _, _, _, _, _, h, _⟩ := h; exact h
theorem NewB.left {B : Nat} {w w' : World} {d r : Nat} {s t : St} (h : NewB B w w' d r s t) : NewP B w w' d s := by
  obtain ⟨F, R, G, Q, h1, h2, h3, h4, h5, h6, h7, h8, h9⟩ := h
  exact ⟨F, R, h1, h4, h5, h8, h9⟩
theorem NewB.below {B : Nat} {w w' w2 : World} {d r : Nat} {s t : St} (h : NewB B w w' d r s t) (hb : Below w'.heap.size w' w2) : NewB B w w2 d r s t := by
  obtain ⟨F, R, G, Q, h1, h2, h3, h4, h5, h6, h7, h8, h9⟩ := h
  exact ⟨F, R, G, Q, h1.below hb, h2.below hb, h3, h4, h5, h6, h7, h8.trans (hb.mono h9), Nat.le_trans h9 hb.size⟩
theorem NewB.made {B : Nat} {w w1 w2 : World} {d : Nat} {s t : St} (h : NewP B w w1 d s) (hr : RepR w2 w1.heap.size t (fun k => k = w1.heap.size) (fun _ => False)) (hb : Below w1.heap.size w1 w2) : NewB B w w2 d w1.heap.size s t := by
  obtain ⟨F, R, h1, h2, h3, h4, h5⟩ := h
  refine ⟨F, R, _, _, h1.below hb, hr, fun k => ⟨fun q => ⟨fun e => ?_, fun e => e⟩, fun q e => ?_⟩, h2, h3, fun k q => by omega, fun k q => q.elim, h4.trans (hb.mono h5), Nat.le_trans h5 hb.size⟩
  · have := h1.Flt k q; omega
  · have := h1.Rlt k e; omega
theorem NewB.next {B : Nat} {w w' w2 : World} {d r : Nat} {s' t' : St} {F R G Q : Nat → Prop} (h4 : ∀ k, F k → B ≤ k) (h5 : ∀ k, R k → B ≤ k) (h6 : ∀ k, G k → B ≤ k) (h7 : ∀ k, Q k → B ≤ k) (h8 : Below B w w') (h9 : B ≤ w'.heap.size) (h : Both w' w2 d r s' t' F R G Q) : NewB B w w2 d r s' t' := by
  obtain ⟨F', R', G', Q', k1, k2, k3, k4, k5, k6, k7, k8⟩ := h
  exact ⟨F', R', G', Q', k1, k2, k7, fun k q => (k3 k q).elim (h4 k) fun z => Nat.le_trans h9 z, fun k q => (k4 k q).elim (h5 k) fun z => Nat.le_trans h9 z, fun k q => (k5 k q).elim (h6 k) fun z => Nat.le_trans h9 z, fun k q => (k6 k q).elim (h7 k) fun z => Nat.le_trans h9 z,
    h8.trans (k8.toBelow h9 fun k q => q.elim (h4 k) (h6 k)), Nat.le_trans h9 k8.size⟩
/-- a sequence of calls -/
def St.run (s : St) (l : List Cl) : St := l.foldl (fun s c => (s.call c).1) s
theorem run_fit : ∀ (l : List Cl) (s : St), (∀ c ∈ l, c.Fit) → (s.run l).wt ≤ s.wt + 200 * l.length ∧ (s.run l).ops.length ≤ s.ops.length + l.length
  | [], s, _ => by simp [St.run]
  | c :: l, s, h => by
    have h1 := run_fit l (s.call c).1 fun x hx => h x (List.mem_cons_of_mem _ hx)
    have h2 := call_wt s c
    have h3 := (h c (List.mem_cons_self)).data
    have e : s.run (c :: l) = (s.call c).1.run l := rfl
    rw [e]; simp only [List.length_cons]; omega
theorem run_snoc (s : St) (l : List Cl) (k : Nat) (hk : k < l.length) : s.run (l.take (k + 1)) = ((s.run (l.take k)).call l[k]).1 := by
  unfold St.run
  rw [List.take_succ_eq_append_getElem hk, List.foldl_append]; rfl
theorem run_Fit (s : St) (l : List Cl) (k : Nat) (h : ∀ c ∈ l, c.Fit) (hl : l.length ≤ 40) (h1 : s.wt ≤ 100000) (h2 : s.ops.length ≤ 1000) : (s.run (l.take k)).Fit := by
  have := run_fit (l.take k) s fun c hc => h c (List.mem_of_mem_take hc)
  have hk : (l.take k).length ≤ 40 := by simp; omega
  exact ⟨by omega, by omega⟩
theorem new_wt (cap : Int) : (St.new cap).wt = 0 := by rfl

end Go.Proofs.YtbfgkcgnhgfkmaaGreat.Dk
