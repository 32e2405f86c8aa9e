/-
  One disk of a pair alone; what Sync, Crash and the changing calls leave.
-/
import Derived.Test.YtbfgkcgnhgfkmaaGreatDkCont
namespace Go.Proofs.YtbfgkcgnhgfkmaaGreat.Dk
open Go Go.Maps Go.RowKit Go.Proofs.YtbfgkcgnhgfkmaaGreat.Slc
set_option linter.unusedVariables false
set_option linter.unusedSimpArgs false

/-- a call on the program's disk of a pair -/
theorem NewB.onP {B : Nat} {w w' : World} {d r : Nat} {s t s' : St} {f : FuncId} {args : Array Value} {Post : Ending → Prop} (h : NewB B w w' d r s t)
    (hc : ∀ F R, RepP w' d s F R → Calls Tryz.prog f args w' fun e w2 => Post e ∧ NextP w' w2 d s' F R) : Calls Tryz.prog f args w' fun e w2 => Post e ∧ NewB B w w2 d r s' t := by
  obtain ⟨F, R, G, Q, h1, h2, h3, h4, h5, h6, h7, h8, h9⟩ := h
  refine (hc F R h1).mono fun e w2 ⟨he, hn⟩ => ⟨he, ?_⟩
  have hR := keepR h2 h3 hn
  obtain ⟨F', R', k1, k2, k3, k4⟩ := hn
  refine ⟨F', R', G, Q, k1, hR, fun k => ⟨fun q => ⟨fun z => ?_, fun z => ?_⟩, fun q z => ?_⟩, fun k q => (k2 k q).elim (h4 k) fun z => Nat.le_trans h9 z, fun k q => (k3 k q).elim (h5 k) fun z => Nat.le_trans h9 z, h6, h7, h8.trans (k4.toBelow h9 h4), Nat.le_trans h9 k4.size⟩
  · rcases k2 k q with y | y
    · exact ((h3 k).1 y).1 z
    · have := h2.Flt k z; omega
  · rcases k2 k q with y | y
    · exact ((h3 k).1 y).2 z
    · have := h2.Rlt k z; omega
  · rcases k3 k z with y | y
    · exact (h3 k).2 q y
    · have := h2.Flt k q; omega
theorem NewB.sync {B : Nat} {w w' : World} {d r : Nat} {s t : St} (h : NewB B w w' d r s t) :
    Calls Tryz.prog 43 #[.pointer (some ⟨d, 0, none⟩)] w' fun e w2 => e = .returned (.int .i64 s.sync.2) ∧ NewB B w w2 d r s.sync.1 t :=
  h.onP (Post := fun e => e = .returned (.int .i64 s.sync.2)) fun F R hr => sync_any w' d s F R hr
theorem NewB.crash {B : Nat} {w w' : World} {d r : Nat} {s t : St} (h : NewB B w w' d r s t) (k b : Int) (ho : s.ops.length ≤ 10000) (hk : i64ok k) (hb : i64ok b) :
    Calls Tryz.prog 27 #[.pointer (some ⟨d, 0, none⟩), .int .i64 k, .int .i64 b] w' fun e w2 => e = .returned (.tuple #[]) ∧ NewB B w w2 d r (s.crash k b) t :=
  h.onP (Post := fun e => e = .returned (.tuple #[])) fun F R hr => crash_any w' d s F R k b hr ho hk.1 hk.2 hb.1 hb.2
theorem NewB.fuse {B : Nat} {w w' : World} {d r : Nat} {s t : St} (h : NewB B w w' d r s t) (n : Int) (hn : i64ok n) :
    Calls Tryz.prog 29 #[.pointer (some ⟨d, 0, none⟩), .int .i64 n] w' fun e w2 => e = .returned (.tuple #[]) ∧ NewB B w w2 d r (s.fuse n) t :=
  h.onP (Post := fun e => e = .returned (.tuple #[])) fun F R hr => fuse_any w' d s F R n hr hn.1 hn.2
/-- nothing is counted -/
theorem spend_id {s : St} (h : s.left = -1) : s.spend = s := by
  unfold St.spend; rw [h]; rfl
theorem add_dur {s : St} (h : s.left = -1) (c : Ch) : (s.add c).dur = s.dur ∧ (s.add c).left = -1 := by
  have e : s.add c = { s with ops := s.ops ++ [c] } := by unfold St.add; exact spend_id h
  rw [e]; exact ⟨rfl, h⟩
theorem call_keeps {s : St} (h : s.left = -1) (c : Cl) (hk : c.kind % 6 < 3) : (s.call c).1.dur = s.dur ∧ (s.call c).1.left = -1 := by
  have hk2 : ¬ (c.kind % 6 = 3) := by omega
  have hk3 : ¬ (c.kind % 6 = 4) := by omega
  have hk4 : c.kind % 6 = 0 ∨ c.kind % 6 = 1 ∨ c.kind % 6 = 2 := by omega
  unfold St.call
  rcases hk4 with q | q | q
  all_goals
    rw [q]
  · simp only [if_true]; unfold St.append; repeat' split
    all_goals first | exact ⟨rfl, h⟩ | exact add_dur h _
  · simp only [if_true, show ¬ ((1 : Int) = 0) by decide, if_false]; unfold St.rename; repeat' split
    all_goals first | exact ⟨rfl, h⟩ | exact add_dur h _
  · simp only [if_true, show ¬ ((2 : Int) = 0) by decide, show ¬ ((2 : Int) = 1) by decide, if_false]; unfold St.remove; repeat' split
    all_goals first | exact ⟨rfl, h⟩ | exact add_dur h _
theorem crash_zero (s : St) : (s.crash 0 0).dur = s.dur ∧ (s.crash 0 0).files = s.dur ∧ (s.crash 0 0).ops = [] ∧ (s.crash 0 0).left = -1 := by
  have hk : keepN s 0 = 0 := by unfold keepN; have := Int.natCast_nonneg s.ops.length; omega
  have ht : s.torn 0 0 = s.dur := by
    unfold St.torn
    split
    · rw [if_neg (by omega)]; rfl
    · rfl
  have e : s.crash 0 0 = ⟨s.cap, s.dur, [], -1⟩ := by unfold St.crash; rw [hk, ht]
  rw [e]; exact ⟨rfl, rfl, rfl, rfl⟩
theorem off_of {s : St} (h : s.left = -1) : s.off = false := by unfold St.off; rw [h]; rfl
theorem sync_of {s : St} (h : s.left = -1) : s.sync = (⟨s.cap, s.files, [], -1⟩, 0) := by
  obtain ⟨cap, dur, ops, left⟩ := s
  simp only at h
  subst h
  unfold St.sync
  rw [off_of rfl]
  simp only [Bool.false_eq_true, if_false]
  rw [spend_id rfl]
theorem fuse_off {s : St} (h : s.off = true) (n : Int) : s.fuse n = s := by unfold St.fuse; rw [h]; rfl
theorem fuse_on {s : St} (h : s.off = false) : (s.fuse (-1)).left = -1 := by unfold St.fuse; rw [h]; rfl
theorem sync_off {s : St} (h : s.off = true) : s.sync = (s, 25) := by unfold St.sync; rw [h]; rfl
theorem fuse_wt (s : St) (n : Int) : (s.fuse n).wt ≤ s.wt ∧ (s.fuse n).ops.length ≤ s.ops.length + 1 := by
  have := call_wt s ⟨4, 0, 0, n, 0, [], [], true⟩
  exact ⟨by have := this.1; simpa [St.call, Cl.fz] using this, by have := this.2; simpa [St.call, Cl.fz] using this⟩
theorem sync_wt (s : St) : s.sync.1.wt ≤ s.wt ∧ s.sync.1.ops.length ≤ s.ops.length + 1 := by
  have := call_wt s ⟨3, 0, 0, 0, 0, [], [], true⟩
  exact ⟨by have := this.1; simpa [St.call] using this, by have := this.2; simpa [St.call] using this⟩
theorem crash_wt (s : St) (k b : Int) : (s.crash k b).wt ≤ s.wt ∧ (s.crash k b).ops.length ≤ s.ops.length + 1 := by
  have := call_wt s ⟨5, 0, 0, k, b, [], [], true⟩
  exact ⟨by have := this.1; simpa [St.call, Cl.ck, Cl.cm] using this, by have := this.2; simpa [St.call, Cl.ck, Cl.cm] using this⟩

/-- a disk that has all its changes behind it -/
structure Calm (s : St) : Prop where
  ops : s.ops = []
  left : s.left = -1
theorem Calm.files {s : St} (h : Calm s) : s.files = s.dur := by unfold St.files; rw [h.ops]; rfl
theorem calm_sync {s : St} (h : s.left = -1) : Calm s.sync.1 := by rw [sync_of h]; exact ⟨rfl, rfl⟩
theorem cont_keeps {s u : St} (h : Calm s) (hd : u.dur = s.dur) : (u.crash 0 0).cont = s.cont := by
  obtain ⟨c1, c2, c3, c4⟩ := crash_zero u
  exact cont_eq (by rw [c2, h.files, hd]) (by rw [off_of c4, off_of h.left])

/-- a pair beside blocks that stay as they are in W -/
def NewK (K : Nat → Prop) (W : World) (B : Nat) (w w' : World) (d r : Nat) (s t : St) : Prop :=
  ∃ F R G Q, RepP w' d s F R ∧ RepR w' r t G Q ∧ Apart F R G Q ∧ (∀ k, F k → B ≤ k) ∧ (∀ k, R k → B ≤ k) ∧ (∀ k, G k → B ≤ k) ∧ (∀ k, Q k → B ≤ k) ∧ Below B w w' ∧ B ≤ w'.heap.size ∧ (∀ k, K k → ¬ F k ∧ ¬ G k) ∧ (∀ k, K k → k < w'.heap.size ∧ w'.heap[k]? = W.heap[k]?) ∧ W.heap.size ≤ w'.heap.size
theorem NewB.beside {B : Nat} {w wc W : World} {d r : Nat} {s t : St} (h : NewB B w wc d r s t) (hb : Below wc.heap.size wc W) : NewK (fun k => wc.heap.size ≤ k ∧ k < W.heap.size) W B w W d r s t := by
  obtain ⟨F, R, G, Q, h1, h2, h3, h4, h5, h6, h7, h8, h9⟩ := h
  exact ⟨F, R, G, Q, h1.below hb, h2.below hb, h3, h4, h5, h6, h7, h8.trans (hb.mono h9), Nat.le_trans h9 hb.size, fun k hk => ⟨fun q => by have := h1.Flt k q; omega, fun q => by have := h2.Flt k q; omega⟩, fun k hk => ⟨hk.2, rfl⟩, Nat.le_refl _⟩
theorem NewK.toB {K : Nat → Prop} {W : World} {B : Nat} {w w' : World} {d r : Nat} {s t : St} (h : NewK K W B w w' d r s t) : NewB B w w' d r s t := by
  obtain ⟨F, R, G, Q, h1, h2, h3, h4, h5, h6, h7, h8, h9, h10, h11, h12⟩ := h
  exact ⟨F, R, G, Q, h1, h2, h3, h4, h5, h6, h7, h8, h9⟩
theorem NewK.below {K : Nat → Prop} {W : World} {B : Nat} {w w' w2 : World} {d r : Nat} {s t : St} (h : NewK K W B w w' d r s t) (hb : Below w'.heap.size w' w2) : NewK K W B w w2 d r s t := by
  obtain ⟨F, R, G, Q, h1, h2, h3, h4, h5, h6, h7, h8, h9, h10, h11, h12⟩ := h
  exact ⟨F, R, G, Q, h1.below hb, h2.below hb, h3, h4, h5, h6, h7, h8.trans (hb.mono h9), Nat.le_trans h9 hb.size, h10, fun k hk => ⟨Nat.lt_of_lt_of_le (h11 k hk).1 hb.size, (hb.block k (h11 k hk).1).trans (h11 k hk).2⟩, Nat.le_trans h12 hb.size⟩
theorem NewK.rd {K : Nat → Prop} {W : World} {B : Nat} {w w' : World} {d r : Nat} {s t : St} {α : Type} {enc : α → List Value} {v : Value} {l : List α} (h : NewK K W B w w' d r s t) (hr : Rd W enc v l) (hk : ∀ k, v.ownBlock = some k → K k) : Rd w' enc v l := by
  obtain ⟨F, R, G, Q, h1, h2, h3, h4, h5, h6, h7, h8, h9, h10, h11, h12⟩ := h
  exact hr.keep h12 fun k q _ => (h11 k (hk k q)).2
theorem NewK.crash {K : Nat → Prop} {W : World} {B : Nat} {w w' : World} {d r : Nat} {s t : St} (h : NewK K W B w w' d r s t) (k b : Int) (ho : s.ops.length ≤ 10000) (hk : i64ok k) (hb : i64ok b) :
    Calls Tryz.prog 27 #[.pointer (some ⟨d, 0, none⟩), .int .i64 k, .int .i64 b] w' fun e w2 => e = .returned (.tuple #[]) ∧ NewK K W B w w2 d r (s.crash k b) t := by
  obtain ⟨F, R, G, Q, h1, h2, h3, h4, h5, h6, h7, h8, h9, h10, h11, h12⟩ := h
  refine (crash_any w' d s F R k b h1 ho hk.1 hk.2 hb.1 hb.2).mono fun e w2 ⟨he, hn⟩ => ⟨he, ?_⟩
  have hR := keepR h2 h3 hn
  obtain ⟨F', R', k1, k2, k3, k4⟩ := hn
  refine ⟨F', R', G, Q, k1, hR, fun k => ⟨fun q => ⟨fun z => ?_, fun z => ?_⟩, fun q z => ?_⟩, fun k q => (k2 k q).elim (h4 k) fun z => Nat.le_trans h9 z, fun k q => (k3 k q).elim (h5 k) fun z => Nat.le_trans h9 z, h6, h7, h8.trans (k4.toBelow h9 h4), Nat.le_trans h9 k4.size,
    fun k hk => ⟨fun q => ?_, (h10 k hk).2⟩, fun k hk => ⟨Nat.lt_of_lt_of_le (h11 k hk).1 k4.size, (k4.block k (h11 k hk).1 (h10 k hk).1).trans (h11 k hk).2⟩, Nat.le_trans h12 k4.size⟩
  · rcases k2 k q with y | y
    · exact ((h3 k).1 y).1 z
    · have := h2.Flt k z; omega
  · rcases k2 k q with y | y
    · exact ((h3 k).1 y).2 z
    · have := h2.Rlt k z; omega
  · rcases k3 k z with y | y
    · exact (h3 k).2 q y
    · have := h2.Flt k q; omega
  · rcases k2 k q with z | z
    · exact (h10 k hk).1 z
    · have := (h11 k hk).1; omega

end Go.Proofs.YtbfgkcgnhgfkmaaGreat.Dk
