/-
  The law's pair: calls on the logs; pair.do. (Written by wip/gen/gen_wly.py.)
-/
import Derived.Test.YtbfgkcgnhgfkmaaGreatWlX
namespace Go.Proofs.YtbfgkcgnhgfkmaaGreat.Wl
open Go Go.RowKit Go.Proofs.YtbfgkcgnhgfkmaaGreat.Slc Go.Proofs.YtbfgkcgnhgfkmaaGreat.Hs
open Go.Proofs.YtbfgkcgnhgfkmaaGreat.Dk (Fr ptr bstr bstr_size bstr_list RepP NextP RepR NextR St Apart i64ok small_any crash_any rcrash_any fuse_any rfuse_any)
set_option linter.unusedVariables false
set_option linter.unusedSimpArgs false

theorem Pr.sub {B : Nat} {w w' : World} {d r : Nat} {s t : St} {H H' : List (Nat × Obj)} (h : Pr B w w' d r s t H) (hs : ∀ x ∈ H', x ∈ H) (hn : (H'.map (·.1)).Nodup) : Pr B w w' d r s t H' := by
  obtain ⟨F, R, G, Q, h1, h2, h3, h4, h5, h6, h7, h8⟩ := h
  exact ⟨F, R, G, Q, h1, h2, h3, h4, h5, h6, fun x hx => h7 x (hs x hx), hn⟩
/-- the blocks beside the disks: the pair, both logs, and others -/
def Hl (p d r l m : Nat) (ga gb : Lg) (H : List (Nat × Obj)) : List (Nat × Obj) := (p, pblk d r (ptr l) (ptr m)) :: (l, lblk ga d) :: (m, rlblk gb r) :: H
theorem nodup_l {p d r l m : Nat} {ga gb ga' gb' : Lg} {H : List (Nat × Obj)} (h : ((Hl p d r l m ga gb H).map (·.1)).Nodup) : ((Hl p d r l m ga' gb' H).map (·.1)).Nodup := h
/-- a call on the program's log -/
theorem Pr.onL {B : Nat} {w w' : World} {d r p l m : Nat} {s t s' : St} {g g' gb : Lg} {H : List (Nat × Obj)} {f : FuncId} {args : Array Value} {Post : Ending → Prop} (h : Pr B w w' d r s t (Hl p d r l m g gb H))
    (hc : ∀ F R, RepP w' d s F R → w'.heap[l]? = some (lblk g d) → ¬ F l → ¬ R l → Calls Tryz.prog f args w' fun e w2 => Post e ∧ LNext w' w2 d l s' g' F R) : Calls Tryz.prog f args w' fun e w2 => Post e ∧ Pr B w w2 d r s' t (Hl p d r l m g' gb H) := by
  obtain ⟨F, R, G, Q, h1, h2, h3, h4, h5, h6, h7, h8⟩ := h
  have hL := h7 (l, lblk g d) (by simp [Hl])
  obtain ⟨l1, l2, l3, l4, l5, l6⟩ := hL
  simp only at l1 l2 l3 l4 l5 l6
  have hlt := lt_of_block l1
  refine (hc F R h1 l1 l3 l4).mono fun e w2 ⟨he, hn⟩ => ⟨he, ?_⟩
  obtain ⟨F', R', k1, k2, k3, k4, k5⟩ := hn
  have hR : RepR w2 r t G Q := h2.frame k4 fun k q z => by
    rcases z with z | z
    · exact q.elim ((h3 k).1 z).1 ((h3 k).1 z).2
    · subst z; exact q.elim l5 l6
  have hl' : ¬ F' l := fun q => (k2 l q).elim l3 fun z => by omega
  have hl'' : ¬ R' l := fun q => (k3 l q).elim l4 fun z => by omega
  refine ⟨F', R', G, Q, k1, hR, fun k => ⟨fun q => ⟨fun z => ?_, fun z => ?_⟩, fun q z => ?_⟩, ⟨fun k q => (k2 k q).elim (h4.1 k) fun z => Nat.le_trans h6 z, fun k q => (k3 k q).elim (h4.2.1 k) fun z => Nat.le_trans h6 z, h4.2.2⟩, h5.trans (k4.toBelow h6 fun k q => q.elim (h4.1 k) fun z => by omega), Nat.le_trans h6 k4.size, fun x hx => ?_, nodup_l h8⟩
  · rcases k2 k q with y | y
    · exact ((h3 k).1 y).1 z
    · have := h2.Flt k z; omega
  · rcases k2 k q with y | y
    · exact ((h3 k).1 y).2 z
    · have := h2.Rlt k z; omega
  · rcases k3 k z with y | y
    · exact (h3 k).2 q y
    · have := h2.Flt k q; omega
  · have key : ∀ y ∈ Hl p d r l m g gb H, y.1 ≠ l → Held B w2 F' R' G Q y := fun y hy hne => by
      obtain ⟨b1, b2, b3, b4, b5, b6⟩ := h7 y hy
      have hlt := lt_of_block b1
      exact ⟨(k4.block _ hlt fun q => q.elim b3 hne).trans b1, b2, fun q => (k2 _ q).elim b3 fun z => by omega, fun q => (k3 _ q).elim b4 fun z => by omega, b5, b6⟩
    have hnd : p ≠ l ∧ l ≠ m ∧ ∀ y ∈ H, l ≠ y.1 := by
      simp only [Hl, List.map_cons, List.nodup_cons, List.mem_cons, List.mem_map, not_or, not_exists, not_and] at h8
      exact ⟨h8.1.1, h8.2.1.1, fun y hy e => h8.2.1.2 y hy e.symm⟩
    simp only [Hl, List.mem_cons] at hx
    rcases hx with rfl | rfl | rfl | hx
    · exact key _ (by simp [Hl]) hnd.1
    · exact ⟨k5, l2, hl', hl'', l5, l6⟩
    · exact key _ (by simp [Hl]) (Ne.symm hnd.2.1)
    · exact key x (by simp [Hl, hx]) (Ne.symm (hnd.2.2 x hx))
/-- a call on the reference's log -/
theorem Pr.onM {B : Nat} {w w' : World} {d r p l m : Nat} {s t t' : St} {ga g g' : Lg} {H : List (Nat × Obj)} {f : FuncId} {args : Array Value} {Post : Ending → Prop} (h : Pr B w w' d r s t (Hl p d r l m ga g H))
    (hc : ∀ G Q, RepR w' r t G Q → w'.heap[m]? = some (rlblk g r) → ¬ G m → ¬ Q m → Calls Tryz.prog f args w' fun e w2 => Post e ∧ RNext w' w2 r m t' g' G Q) : Calls Tryz.prog f args w' fun e w2 => Post e ∧ Pr B w w2 d r s t' (Hl p d r l m ga g' H) := by
  obtain ⟨F, R, G, Q, h1, h2, h3, h4, h5, h6, h7, h8⟩ := h
  have hL := h7 (m, rlblk g r) (by simp [Hl])
  obtain ⟨l1, l2, l3, l4, l5, l6⟩ := hL
  simp only at l1 l2 l3 l4 l5 l6
  have hlt := lt_of_block l1
  refine (hc G Q h2 l1 l5 l6).mono fun e w2 ⟨he, hn⟩ => ⟨he, ?_⟩
  obtain ⟨G', Q', k1, k2, k3, k4, k5⟩ := hn
  have hP : RepP w2 d s F R := h1.frame k4 fun k q z => by
    rcases z with z | z
    · exact q.elim (fun y => ((h3 k).1 y).1 z) fun y => (h3 k).2 z y
    · subst z; exact q.elim l3 l4
  have hl' : ¬ G' m := fun q => (k2 m q).elim l5 fun z => by omega
  have hl'' : ¬ Q' m := fun q => (k3 m q).elim l6 fun z => by omega
  refine ⟨F, R, G', Q', hP, k1, fun k => ⟨fun q => ⟨fun z => ?_, fun z => ?_⟩, fun q z => ?_⟩, ⟨h4.1, h4.2.1, fun k q => (k2 k q).elim (h4.2.2.1 k) fun z => Nat.le_trans h6 z, fun k q => (k3 k q).elim (h4.2.2.2 k) fun z => Nat.le_trans h6 z⟩, h5.trans (k4.toBelow h6 fun k q => q.elim (h4.2.2.1 k) fun z => by omega), Nat.le_trans h6 k4.size, fun x hx => ?_, nodup_l h8⟩
  · rcases k2 k z with y | y
    · exact ((h3 k).1 q).1 y
    · have := h1.Flt k q; omega
  · rcases k3 k z with y | y
    · exact ((h3 k).1 q).2 y
    · have := h1.Flt k q; omega
  · rcases k2 k q with y | y
    · exact (h3 k).2 y z
    · have := h1.Rlt k z; omega
  · have key : ∀ y ∈ Hl p d r l m ga g H, y.1 ≠ m → Held B w2 F R G' Q' y := fun y hy hne => by
      obtain ⟨b1, b2, b3, b4, b5, b6⟩ := h7 y hy
      have hlt := lt_of_block b1
      exact ⟨(k4.block _ hlt fun q => q.elim b5 hne).trans b1, b2, b3, b4, fun q => (k2 _ q).elim b5 fun z => by omega, fun q => (k3 _ q).elim b6 fun z => by omega⟩
    have hnd : p ≠ m ∧ l ≠ m ∧ ∀ y ∈ H, m ≠ y.1 := by
      simp only [Hl, List.map_cons, List.nodup_cons, List.mem_cons, List.mem_map, not_or, not_exists, not_and] at h8
      exact ⟨h8.1.2.1, h8.2.1.1, fun y hy e => h8.2.2.1 y hy e.symm⟩
    simp only [Hl, List.mem_cons] at hx
    rcases hx with rfl | rfl | rfl | hx
    · exact key _ (by simp [Hl]) hnd.1
    · exact key _ (by simp [Hl]) hnd.2.1
    · exact ⟨k5, l2, l3, l4, hl', hl''⟩
    · exact key x (by simp [Hl, hx]) (Ne.symm (hnd.2.2 x hx))

/-- the law's calls -/
structure WC where
  kind : Int
  n : Int
  m : Int
  data : B
structure WC.Ok (c : WC) : Prop where
  kind : i64ok c.kind
  n : i64ok c.n
  m : i64ok c.m
  data : c.data.length ≤ 200
def WC.cells (c : WC) : List Value := [.int .i64 c.kind, .int .i64 c.n, .int .i64 c.m, .string (bstr c.data)]
def opn (s : St) (g : Lg) : St × Lg := match (openP s lg).2.2 with | none => ((openP s lg).1, g) | some q => ((openP s lg).1, ⟨lg, q.1.length, q.2, false⟩)
/-- what a call does to the state -/
def WC.run (c : WC) (s : St) (g : Lg) : St × Lg :=
  if c.kind % 7 = 0 ∨ c.kind % 7 = 1 then ((g.append s c.data).1, (g.append s c.data).2.1)
  else if c.kind % 7 = 2 then ((g.sync s).1, (g.sync s).2.1)
  else if c.kind % 7 = 3 then ((g.reset s c.data).1, (g.reset s c.data).2.1)
  else if c.kind % 7 = 4 then opn s g
  else if c.kind % 7 = 5 then opn (s.crash (c.n % 6) (c.m % 20)) g
  else (s.fuse (c.n % 12 - 1), g)
/-- what holds of the state between calls -/
structure WFit (s : St) (g : Lg) : Prop where
  ops : s.ops.length ≤ 500
  wt : s.wt ≤ 97000
  n : g.n ≤ 5000
  size : g.size ≤ 1000000
  name : g.name = lg
def cbx (c : WC) (D : ByteArray) : Obj := .cells #[.int .i64 c.kind, .int .i64 c.n, .int .i64 c.m, .string D] 38 (0, 0)
theorem cbx_cells {w : World} {b : Nat} {c : WC} {D : ByteArray} (h : w.heap[b]? = some (cbx c D)) :
    w.cell? ⟨b, 0, none⟩ = some (.int .i64 c.kind) ∧ w.cell? ⟨b, 1, none⟩ = some (.int .i64 c.n) ∧ w.cell? ⟨b, 2, none⟩ = some (.int .i64 c.m) ∧ w.cell? ⟨b, 3, none⟩ = some (.string D) := by
  refine ⟨?_, ?_, ?_, ?_⟩
  · rw [cell_of_row _ _ 0 _ _ _ h]; rfl
  · rw [cell_of_row _ _ 1 _ _ _ h]; rfl
  · rw [cell_of_row _ _ 2 _ _ _ h]; rfl
  · rw [cell_of_row _ _ 3 _ _ _ h]; rfl
/-- regions with two calls on the logs -/
def DoI (B : Nat) (w : World) (d r p l m : Nat) (s s' : St) (g g' : Lg) (H : List (Nat × Obj)) : Nat → World → Prop
  | 0, W => Pr B w W d r s s (Hl p d r l m g g H)
  | 1, W => Pr B w W d r s' s (Hl p d r l m g' g H)
  | 2, W => Pr B w W d r s' s' (Hl p d r l m g' g' H)
  | _, _ => False
theorem DoI.stable {B : Nat} {w : World} {d r p l m : Nat} {s s' : St} {g g' : Lg} {H : List (Nat × Obj)} (k : Nat) (w1 w2 : World) (h : DoI B w d r p l m s s' g g' H k w1) (hb : Below w1.heap.size w1 w2) : DoI B w d r p l m s s' g g' H k w2 := by
  match k with
  | 0 => exact Pr.below (show Pr B w w1 d r s s (Hl p d r l m g g H) from h) hb
  | 1 => exact Pr.below (show Pr B w w1 d r s' s (Hl p d r l m g' g H) from h) hb
  | 2 => exact Pr.below (show Pr B w w1 d r s' s' (Hl p d r l m g' g' H) from h) hb
  | _ + 3 => exact h
theorem DoI.blk {B : Nat} {w : World} {d r p l m : Nat} {s s' : St} {g g' : Lg} {H : List (Nat × Obj)} {k : Nat} {w1 : World} (h : DoI B w d r p l m s s' g g' H k w1) : w1.heap[p]? = some (pblk d r (ptr l) (ptr m)) ∧ ∀ x ∈ H, w1.heap[x.1]? = some x.2 := by
  match k with
  | 0 => exact ⟨Pr.blk (show Pr B w w1 d r s s (Hl p d r l m g g H) from h) _ List.mem_cons_self, fun x hx => Pr.blk (show Pr B w w1 d r s s (Hl p d r l m g g H) from h) x (by simp [Hl, hx])⟩
  | 1 => exact ⟨Pr.blk (show Pr B w w1 d r s' s (Hl p d r l m g' g H) from h) _ List.mem_cons_self, fun x hx => Pr.blk (show Pr B w w1 d r s' s (Hl p d r l m g' g H) from h) x (by simp [Hl, hx])⟩
  | 2 => exact ⟨Pr.blk (show Pr B w w1 d r s' s' (Hl p d r l m g' g' H) from h) _ List.mem_cons_self, fun x hx => Pr.blk (show Pr B w w1 d r s' s' (Hl p d r l m g' g' H) from h) x (by simp [Hl, hx])⟩
  | _ + 3 => exact h.elim
/-- what the operations of Append's and Reset's regions yield -/
def DvA (p l m b : Nat) (D : ByteArray) (e : Int) : Nat → Value
  | 0 => ptr p
  | 1 => ptr p
  | 2 => .pointer (some ⟨p, 2, none⟩)
  | 3 => ptr l
  | 4 => .pointer (some ⟨b, 3, none⟩)
  | 5 => .string D
  | 6 => .int .i64 e
  | 7 => ptr p
  | 8 => ptr p
  | 9 => .pointer (some ⟨p, 3, none⟩)
  | 10 => ptr m
  | 11 => .pointer (some ⟨b, 3, none⟩)
  | 12 => .string D
  | 13 => .int .i64 e
  | 14 => .bool true
  | _ => undef
/-- and Sync's -/
def DvS (p l m : Nat) (e : Int) : Nat → Value
  | 0 => ptr p
  | 1 => ptr p
  | 2 => .pointer (some ⟨p, 2, none⟩)
  | 3 => ptr l
  | 4 => .int .i64 e
  | 5 => ptr p
  | 6 => ptr p
  | 7 => .pointer (some ⟨p, 3, none⟩)
  | 8 => ptr m
  | 9 => .int .i64 e
  | 10 => .bool true
  | _ => undef
/-- what do leaves -/
def DoPost (B : Nat) (w w2 : World) (d r p : Nat) (x : St × Lg) : Prop := ∃ l m, Pr B w w2 d r x.1 x.1 (Hl p d r l m x.2 x.2 [])
theorem DoPost.of {B : Nat} {w w2 : World} {d r p l m : Nat} {s : St} {g : Lg} {H : List (Nat × Obj)} {x : St × Lg} (hx : x = (s, g)) (h : Pr B w w2 d r s s (Hl p d r l m g g H)) : DoPost B w w2 d r p x := by
  subst hx
  refine ⟨l, m, h.sub (fun y hy => ?_) ?_⟩
  · simp only [Hl, List.mem_cons, List.not_mem_nil, or_false] at hy ⊢
    rcases hy with h | h | h
    · exact .inl h
    · exact .inr (.inl h)
    · exact .inr (.inr (.inl h))
  · obtain ⟨_, _, _, _, _, _, _, _, _, _, _, h8⟩ := h
    simp only [Hl, List.map_cons, List.map_nil, List.nodup_cons, List.mem_cons, List.not_mem_nil, or_false, not_or, not_false_eq_true, List.nodup_nil, and_true] at h8 ⊢
    exact ⟨⟨h8.1.1, h8.1.2.1⟩, h8.2.1.1⟩

set_option maxRecDepth 10000 in
set_option maxHeartbeats 4000000 in
theorem wdo_0 (B : Nat) (w w' : World) (d r p l m : Nat) (s : St) (g : Lg) (c : WC) (h : Pr B w w' d r s s (Hl p d r l m g g [])) (hc : c.Ok) (hf : WFit s g) (hk : c.kind % 7 = 0) :
    Calls Tryz.prog 10 #[ptr p, .agg c.cells.toArray] w' fun e w2 => e = .returned (.bool true) ∧ DoPost B w w2 d r p (c.run s g) := by
  have hpm := h.made (cbx c (bstr c.data))
  have hpm' : Pr B w (w'.alloc (cbx c (bstr c.data))) d r s s (Hl p d r l m g g [(w'.heap.size, cbx c (bstr c.data))]) := hpm.sub (fun y hy => by
    simp only [Hl, List.mem_cons, List.not_mem_nil, or_false] at hy ⊢
    rcases hy with e | e | e | e
    · exact .inr (.inl e)
    · exact .inr (.inr (.inl e))
    · exact .inr (.inr (.inr e))
    · exact .inl e) (by
    obtain ⟨_, _, _, _, _, _, _, _, _, _, _, h8⟩ := hpm
    simp only [Hl, List.map_cons, List.map_nil, List.nodup_cons, List.mem_cons, List.not_mem_nil, or_false, not_or, not_false_eq_true, List.nodup_nil, and_true] at h8 ⊢
    exact ⟨⟨h8.2.1.1, h8.2.1.2, fun e => h8.1.1 e.symm⟩, ⟨h8.2.2, fun e => h8.1.2.1 e.symm⟩, fun e => h8.1.2.2 e.symm⟩)
  have HRUN := Bx.mk (show c.run s g = c.run s g from rfl)
  obtain ⟨RX, hRX⟩ : ∃ x, x = c.run s g := ⟨_, rfl⟩
  rw [← hRX]
  have hrun := hRX
  unfold WC.run at hrun
  have HSM := Lib.hid (fun W => small_any c.kind 7 W hc.kind.1 hc.kind.2 (by omega) (by omega))
  rw [hk] at HSM
  obtain ⟨c0, c1, c2, c3⟩ := cbx_cells (hpm'.blk (w'.heap.size, cbx c (bstr c.data)) (by simp [Hl]))
  have HP := Lib.hid hpm'
  have HC := Lib.hid hc
  have HF := Lib.hid hf
  have hcc : c.cells.toArray = #[.int .i64 c.kind, .int .i64 c.n, .int .i64 c.m, .string (bstr c.data)] := rfl
  have hb0 : cbx c (bstr c.data) = .cells #[.int .i64 c.kind, .int .i64 c.n, .int .i64 c.m, .string (bstr c.data)] 38 (0, 0) := rfl
  rw [hcc]
  have HK := Bx.mk hk
  rw [if_pos (.inl hk)] at hrun
  obtain ⟨X, hX⟩ : ∃ X, X = g.append s c.data := ⟨_, rfl⟩
  rw [← hX] at hrun
  have HX := Bx.mk (show RX = (X.1, X.2.1) from hrun)
  have HCL := Lib.hid (fun (W : World) (hP : Pr B w W d r s s (Hl p d r l m g g [(w'.heap.size, cbx c (bstr c.data))])) => Pr.onL (s' := X.1) (g' := X.2.1) (Post := fun e => e = .returned (.int .i64 X.2.2)) (f := 20) (args := #[ptr l, .string (bstr c.data)]) hP fun F R hr hb hl hl2 => by
    have := lappend_any W l d g s F R c.data hb hr hl hl2 (by rw [hf.name]; decide) (by have := hf.n; omega) (by have := hf.size; omega) (by have := hf.ops; omega) (by have := hc.data; omega)
    rw [hX]; exact this)
  have HCM := Lib.hid (fun (W : World) (hP : Pr B w W d r X.1 s (Hl p d r l m X.2.1 g [(w'.heap.size, cbx c (bstr c.data))])) => Pr.onM (t' := X.1) (g' := X.2.1) (Post := fun e => e = .returned (.int .i64 X.2.2)) (f := 23) (args := #[ptr m, .string (bstr c.data)]) hP fun F R hr hb hl hl2 => by
    have := rlappend_any W m r g s F R c.data hb hr hl hl2 (by rw [hf.name]; decide) (by have := hf.n; omega) (by have := hf.size; omega) (by have := hf.ops; omega) (by have := hf.wt; omega) (by have := hc.data; omega)
    rw [hX]; exact this)
  unfold ptr
  clear h hpm hpm' hc hf hk hcc HRUN hRX
  have hrr := hrun
  generalize hD : bstr c.data = D at *
  have HD := Bx.mk hD
  have e1 : ((X.2.2 : Int) == X.2.2) = true := beq_self_eq_true _
  unfold ptr at HCL HCM
  clear hX hrun hrr hD
  go_enter Tryz.func10, Tryz.ntmps10
  go_wp2_with fail
  go_at_call 6
  refine (HSM.out _).mono ?_
  rintro e w'' ⟨rfl, rfl⟩
  go_wp2_with fail
  refine wp_region_spine 15 [6, 13] (DvA p l m w'.heap.size D X.2.2) (DoI B w d r p l m s X.1 g X.2.1 [(w'.heap.size, cbx c D)]) (by kernel_rfl) (by kernel_rfl) (by rfl) (by kernel_rfl) (by decide) (by exact Pr.below HP.out ⟨rfl, rfl, rfl, Nat.le_refl _, fun _ _ => rfl⟩) DoI.stable ?_ ?_
  · intro i o hi ho y w2 hk hex hN
    have hcs : i = 0 ∨ i = 1 ∨ i = 2 ∨ i = 3 ∨ i = 4 ∨ i = 5 ∨ i = 6 ∨ i = 7 ∨ i = 8 ∨ i = 9 ∨ i = 10 ∨ i = 11 ∨ i = 12 ∨ i = 13 ∨ i = 14 := by omega
    obtain ⟨kx, hkx⟩ := hex
    obtain ⟨y0, y1⟩ := hkx.blk
    obtain ⟨-, -, p2, p3, -⟩ := pblk_cells y0
    obtain ⟨-, -, -, b3⟩ := cbx_cells (y1 (w'.heap.size, cbx c D) (by simp))
    have HKK := Lib.hid hk
    unfold ptr at p2 p3
    simp only [List.take_succ_cons, List.take_zero, putFrom, Act.put, List.setIfInBounds_toArray, List.set_cons_succ, List.set_cons_zero, Nat.zero_add, Nat.reduceAdd]
    clear hk hkx y0 y1
    rcases hcs with rfl | rfl | rfl | rfl | rfl | rfl | rfl | rfl | rfl | rfl | rfl | rfl | rfl | rfl | rfl
    all_goals
      simp only [List.getElem?_cons_succ, List.getElem?_cons_zero, Option.some.injEq] at ho
      subst ho
      simp [NeedsB, Region.binds, DvA, ptr] at hN
    all_goals clear hi
    · go_wp2_with fail
      exact ⟨rfl, rfl, rfl, Below.refl _ _⟩
    · go_wp2_with fail
      exact ⟨rfl, rfl, rfl, Below.refl _ _⟩
    · go_wp2_with fail
      exact ⟨rfl, rfl, rfl, Below.refl _ _⟩
    · go_wp2_with fail
      exact ⟨rfl, rfl, rfl, Below.refl _ _⟩
    · go_wp2_with fail
      exact ⟨rfl, rfl, rfl, Below.refl _ _⟩
    · go_wp2_with fail
      exact ⟨rfl, rfl, rfl, Below.refl _ _⟩
    · have hB := HKK.out 0 rfl
      have hcl := HCL.out w2 hB
      clear p2 p3 b3
      go_wp2_with fail
      go_at_call 20
      refine hcl.mono ?_
      rintro e w3 ⟨rfl, hn1⟩
      have HN := Lib.hid hn1
      have HBB := Lib.hid hB
      clear hn1 hB hcl
      go_wp2_with fail
      exact ⟨rfl, rfl, rfl, ⟨0, rfl, HBB.out, HN.out⟩⟩
    · go_wp2_with fail
      exact ⟨rfl, rfl, rfl, Below.refl _ _⟩
    · go_wp2_with fail
      exact ⟨rfl, rfl, rfl, Below.refl _ _⟩
    · go_wp2_with fail
      exact ⟨rfl, rfl, rfl, Below.refl _ _⟩
    · go_wp2_with fail
      exact ⟨rfl, rfl, rfl, Below.refl _ _⟩
    · go_wp2_with fail
      exact ⟨rfl, rfl, rfl, Below.refl _ _⟩
    · go_wp2_with fail
      exact ⟨rfl, rfl, rfl, Below.refl _ _⟩
    · have hB := HKK.out 1 rfl
      have hcl := HCM.out w2 hB
      clear p2 p3 b3
      go_wp2_with fail
      go_at_call 23
      refine hcl.mono ?_
      rintro e w3 ⟨rfl, hn1⟩
      have HN := Lib.hid hn1
      have HBB := Lib.hid hB
      clear hn1 hB hcl
      go_wp2_with fail
      exact ⟨rfl, rfl, rfl, ⟨1, rfl, HBB.out, HN.out⟩⟩
    · go_wp2_with fail
      exact ⟨rfl, rfl, rfl, Below.refl _ _⟩
  · intro y w2 hy hI
    have f12 := hy 14 (by omega)
    simp only [DvA] at f12
    simp only [List.take_succ_cons, List.take_zero, putFrom, Act.put, List.setIfInBounds_toArray, List.set_cons_succ, List.set_cons_zero, Nat.zero_add, Nat.reduceAdd, List.drop_succ_cons, List.drop_zero, f12]
    have HI : Hid (Pr B w w2 d r X.1 X.1 (Hl p d r l m X.2.1 X.2.1 [(w'.heap.size, cbx c D)])) := Lib.hid hI
    clear hy hI f12
    go_wp2_with fail
    go_ret
    exact ⟨rfl, DoPost.of HX.out HI.out⟩

set_option maxRecDepth 10000 in
set_option maxHeartbeats 4000000 in
theorem wdo_1 (B : Nat) (w w' : World) (d r p l m : Nat) (s : St) (g : Lg) (c : WC) (h : Pr B w w' d r s s (Hl p d r l m g g [])) (hc : c.Ok) (hf : WFit s g) (hk : c.kind % 7 = 1) :
    Calls Tryz.prog 10 #[ptr p, .agg c.cells.toArray] w' fun e w2 => e = .returned (.bool true) ∧ DoPost B w w2 d r p (c.run s g) := by
  have hpm := h.made (cbx c (bstr c.data))
  have hpm' : Pr B w (w'.alloc (cbx c (bstr c.data))) d r s s (Hl p d r l m g g [(w'.heap.size, cbx c (bstr c.data))]) := hpm.sub (fun y hy => by
    simp only [Hl, List.mem_cons, List.not_mem_nil, or_false] at hy ⊢
    rcases hy with e | e | e | e
    · exact .inr (.inl e)
    · exact .inr (.inr (.inl e))
    · exact .inr (.inr (.inr e))
    · exact .inl e) (by
    obtain ⟨_, _, _, _, _, _, _, _, _, _, _, h8⟩ := hpm
    simp only [Hl, List.map_cons, List.map_nil, List.nodup_cons, List.mem_cons, List.not_mem_nil, or_false, not_or, not_false_eq_true, List.nodup_nil, and_true] at h8 ⊢
    exact ⟨⟨h8.2.1.1, h8.2.1.2, fun e => h8.1.1 e.symm⟩, ⟨h8.2.2, fun e => h8.1.2.1 e.symm⟩, fun e => h8.1.2.2 e.symm⟩)
  have HRUN := Bx.mk (show c.run s g = c.run s g from rfl)
  obtain ⟨RX, hRX⟩ : ∃ x, x = c.run s g := ⟨_, rfl⟩
  rw [← hRX]
  have hrun := hRX
  unfold WC.run at hrun
  have HSM := Lib.hid (fun W => small_any c.kind 7 W hc.kind.1 hc.kind.2 (by omega) (by omega))
  rw [hk] at HSM
  obtain ⟨c0, c1, c2, c3⟩ := cbx_cells (hpm'.blk (w'.heap.size, cbx c (bstr c.data)) (by simp [Hl]))
  have HP := Lib.hid hpm'
  have HC := Lib.hid hc
  have HF := Lib.hid hf
  have hcc : c.cells.toArray = #[.int .i64 c.kind, .int .i64 c.n, .int .i64 c.m, .string (bstr c.data)] := rfl
  have hb0 : cbx c (bstr c.data) = .cells #[.int .i64 c.kind, .int .i64 c.n, .int .i64 c.m, .string (bstr c.data)] 38 (0, 0) := rfl
  rw [hcc]
  have HK := Bx.mk hk
  rw [if_pos (.inr hk)] at hrun
  obtain ⟨X, hX⟩ : ∃ X, X = g.append s c.data := ⟨_, rfl⟩
  rw [← hX] at hrun
  have HX := Bx.mk (show RX = (X.1, X.2.1) from hrun)
  have HCL := Lib.hid (fun (W : World) (hP : Pr B w W d r s s (Hl p d r l m g g [(w'.heap.size, cbx c (bstr c.data))])) => Pr.onL (s' := X.1) (g' := X.2.1) (Post := fun e => e = .returned (.int .i64 X.2.2)) (f := 20) (args := #[ptr l, .string (bstr c.data)]) hP fun F R hr hb hl hl2 => by
    have := lappend_any W l d g s F R c.data hb hr hl hl2 (by rw [hf.name]; decide) (by have := hf.n; omega) (by have := hf.size; omega) (by have := hf.ops; omega) (by have := hc.data; omega)
    rw [hX]; exact this)
  have HCM := Lib.hid (fun (W : World) (hP : Pr B w W d r X.1 s (Hl p d r l m X.2.1 g [(w'.heap.size, cbx c (bstr c.data))])) => Pr.onM (t' := X.1) (g' := X.2.1) (Post := fun e => e = .returned (.int .i64 X.2.2)) (f := 23) (args := #[ptr m, .string (bstr c.data)]) hP fun F R hr hb hl hl2 => by
    have := rlappend_any W m r g s F R c.data hb hr hl hl2 (by rw [hf.name]; decide) (by have := hf.n; omega) (by have := hf.size; omega) (by have := hf.ops; omega) (by have := hf.wt; omega) (by have := hc.data; omega)
    rw [hX]; exact this)
  unfold ptr
  clear h hpm hpm' hc hf hk hcc HRUN hRX
  have hrr := hrun
  generalize hD : bstr c.data = D at *
  have HD := Bx.mk hD
  have e1 : ((X.2.2 : Int) == X.2.2) = true := beq_self_eq_true _
  unfold ptr at HCL HCM
  clear hX hrun hrr hD
  go_enter Tryz.func10, Tryz.ntmps10
  go_wp2_with fail
  go_at_call 6
  refine (HSM.out _).mono ?_
  rintro e w'' ⟨rfl, rfl⟩
  go_wp2_with fail
  refine wp_region_spine 15 [6, 13] (DvA p l m w'.heap.size D X.2.2) (DoI B w d r p l m s X.1 g X.2.1 [(w'.heap.size, cbx c D)]) (by kernel_rfl) (by kernel_rfl) (by rfl) (by kernel_rfl) (by decide) (by exact Pr.below HP.out ⟨rfl, rfl, rfl, Nat.le_refl _, fun _ _ => rfl⟩) DoI.stable ?_ ?_
  · intro i o hi ho y w2 hk hex hN
    have hcs : i = 0 ∨ i = 1 ∨ i = 2 ∨ i = 3 ∨ i = 4 ∨ i = 5 ∨ i = 6 ∨ i = 7 ∨ i = 8 ∨ i = 9 ∨ i = 10 ∨ i = 11 ∨ i = 12 ∨ i = 13 ∨ i = 14 := by omega
    obtain ⟨kx, hkx⟩ := hex
    obtain ⟨y0, y1⟩ := hkx.blk
    obtain ⟨-, -, p2, p3, -⟩ := pblk_cells y0
    obtain ⟨-, -, -, b3⟩ := cbx_cells (y1 (w'.heap.size, cbx c D) (by simp))
    have HKK := Lib.hid hk
    unfold ptr at p2 p3
    simp only [List.take_succ_cons, List.take_zero, putFrom, Act.put, List.setIfInBounds_toArray, List.set_cons_succ, List.set_cons_zero, Nat.zero_add, Nat.reduceAdd]
    clear hk hkx y0 y1
    rcases hcs with rfl | rfl | rfl | rfl | rfl | rfl | rfl | rfl | rfl | rfl | rfl | rfl | rfl | rfl | rfl
    all_goals
      simp only [List.getElem?_cons_succ, List.getElem?_cons_zero, Option.some.injEq] at ho
      subst ho
      simp [NeedsB, Region.binds, DvA, ptr] at hN
    all_goals clear hi
    · go_wp2_with fail
      exact ⟨rfl, rfl, rfl, Below.refl _ _⟩
    · go_wp2_with fail
      exact ⟨rfl, rfl, rfl, Below.refl _ _⟩
    · go_wp2_with fail
      exact ⟨rfl, rfl, rfl, Below.refl _ _⟩
    · go_wp2_with fail
      exact ⟨rfl, rfl, rfl, Below.refl _ _⟩
    · go_wp2_with fail
      exact ⟨rfl, rfl, rfl, Below.refl _ _⟩
    · go_wp2_with fail
      exact ⟨rfl, rfl, rfl, Below.refl _ _⟩
    · have hB := HKK.out 0 rfl
      have hcl := HCL.out w2 hB
      clear p2 p3 b3
      go_wp2_with fail
      go_at_call 20
      refine hcl.mono ?_
      rintro e w3 ⟨rfl, hn1⟩
      have HN := Lib.hid hn1
      have HBB := Lib.hid hB
      clear hn1 hB hcl
      go_wp2_with fail
      exact ⟨rfl, rfl, rfl, ⟨0, rfl, HBB.out, HN.out⟩⟩
    · go_wp2_with fail
      exact ⟨rfl, rfl, rfl, Below.refl _ _⟩
    · go_wp2_with fail
      exact ⟨rfl, rfl, rfl, Below.refl _ _⟩
    · go_wp2_with fail
      exact ⟨rfl, rfl, rfl, Below.refl _ _⟩
    · go_wp2_with fail
      exact ⟨rfl, rfl, rfl, Below.refl _ _⟩
    · go_wp2_with fail
      exact ⟨rfl, rfl, rfl, Below.refl _ _⟩
    · go_wp2_with fail
      exact ⟨rfl, rfl, rfl, Below.refl _ _⟩
    · have hB := HKK.out 1 rfl
      have hcl := HCM.out w2 hB
      clear p2 p3 b3
      go_wp2_with fail
      go_at_call 23
      refine hcl.mono ?_
      rintro e w3 ⟨rfl, hn1⟩
      have HN := Lib.hid hn1
      have HBB := Lib.hid hB
      clear hn1 hB hcl
      go_wp2_with fail
      exact ⟨rfl, rfl, rfl, ⟨1, rfl, HBB.out, HN.out⟩⟩
    · go_wp2_with fail
      exact ⟨rfl, rfl, rfl, Below.refl _ _⟩
  · intro y w2 hy hI
    have f12 := hy 14 (by omega)
    simp only [DvA] at f12
    simp only [List.take_succ_cons, List.take_zero, putFrom, Act.put, List.setIfInBounds_toArray, List.set_cons_succ, List.set_cons_zero, Nat.zero_add, Nat.reduceAdd, List.drop_succ_cons, List.drop_zero, f12]
    have HI : Hid (Pr B w w2 d r X.1 X.1 (Hl p d r l m X.2.1 X.2.1 [(w'.heap.size, cbx c D)])) := Lib.hid hI
    clear hy hI f12
    go_wp2_with fail
    go_ret
    exact ⟨rfl, DoPost.of HX.out HI.out⟩

set_option maxRecDepth 10000 in
set_option maxHeartbeats 4000000 in
theorem wdo_2 (B : Nat) (w w' : World) (d r p l m : Nat) (s : St) (g : Lg) (c : WC) (h : Pr B w w' d r s s (Hl p d r l m g g [])) (hc : c.Ok) (hf : WFit s g) (hk : c.kind % 7 = 2) :
    Calls Tryz.prog 10 #[ptr p, .agg c.cells.toArray] w' fun e w2 => e = .returned (.bool true) ∧ DoPost B w w2 d r p (c.run s g) := by
  have hpm := h.made (cbx c (bstr c.data))
  have hpm' : Pr B w (w'.alloc (cbx c (bstr c.data))) d r s s (Hl p d r l m g g [(w'.heap.size, cbx c (bstr c.data))]) := hpm.sub (fun y hy => by
    simp only [Hl, List.mem_cons, List.not_mem_nil, or_false] at hy ⊢
    rcases hy with e | e | e | e
    · exact .inr (.inl e)
    · exact .inr (.inr (.inl e))
    · exact .inr (.inr (.inr e))
    · exact .inl e) (by
    obtain ⟨_, _, _, _, _, _, _, _, _, _, _, h8⟩ := hpm
    simp only [Hl, List.map_cons, List.map_nil, List.nodup_cons, List.mem_cons, List.not_mem_nil, or_false, not_or, not_false_eq_true, List.nodup_nil, and_true] at h8 ⊢
    exact ⟨⟨h8.2.1.1, h8.2.1.2, fun e => h8.1.1 e.symm⟩, ⟨h8.2.2, fun e => h8.1.2.1 e.symm⟩, fun e => h8.1.2.2 e.symm⟩)
  have HRUN := Bx.mk (show c.run s g = c.run s g from rfl)
  obtain ⟨RX, hRX⟩ : ∃ x, x = c.run s g := ⟨_, rfl⟩
  rw [← hRX]
  have hrun := hRX
  unfold WC.run at hrun
  have HSM := Lib.hid (fun W => small_any c.kind 7 W hc.kind.1 hc.kind.2 (by omega) (by omega))
  rw [hk] at HSM
  obtain ⟨c0, c1, c2, c3⟩ := cbx_cells (hpm'.blk (w'.heap.size, cbx c (bstr c.data)) (by simp [Hl]))
  have HP := Lib.hid hpm'
  have HC := Lib.hid hc
  have HF := Lib.hid hf
  have hcc : c.cells.toArray = #[.int .i64 c.kind, .int .i64 c.n, .int .i64 c.m, .string (bstr c.data)] := rfl
  have hb0 : cbx c (bstr c.data) = .cells #[.int .i64 c.kind, .int .i64 c.n, .int .i64 c.m, .string (bstr c.data)] 38 (0, 0) := rfl
  rw [hcc]
  have HK := Bx.mk hk
  rw [if_neg (by omega), if_pos hk] at hrun
  obtain ⟨X, hX⟩ : ∃ X, X = g.sync s := ⟨_, rfl⟩
  rw [← hX] at hrun
  have HX := Bx.mk (show RX = (X.1, X.2.1) from hrun)
  have HCL := Lib.hid (fun (W : World) (hP : Pr B w W d r s s (Hl p d r l m g g [(w'.heap.size, cbx c (bstr c.data))])) => Pr.onL (s' := X.1) (g' := X.2.1) (Post := fun e => e = .returned (.int .i64 X.2.2)) (f := 21) (args := #[ptr l]) hP fun F R hr hb hl hl2 => by
    have := lsync_any W l d g s F R hb hr hl hl2
    rw [hX]; exact this)
  have HCM := Lib.hid (fun (W : World) (hP : Pr B w W d r X.1 s (Hl p d r l m X.2.1 g [(w'.heap.size, cbx c (bstr c.data))])) => Pr.onM (t' := X.1) (g' := X.2.1) (Post := fun e => e = .returned (.int .i64 X.2.2)) (f := 24) (args := #[ptr m]) hP fun F R hr hb hl hl2 => by
    have := rlsync_any W m r g s F R hb hr hl hl2 (by have := hf.ops; omega) (by have := hf.wt; omega)
    rw [hX]; exact this)
  unfold ptr
  clear h hpm hpm' hc hf hk hcc HRUN hRX
  have hrr := hrun
  generalize hD : bstr c.data = D at *
  have HD := Bx.mk hD
  have e1 : ((X.2.2 : Int) == X.2.2) = true := beq_self_eq_true _
  unfold ptr at HCL HCM
  clear hX hrun hrr hD
  go_enter Tryz.func10, Tryz.ntmps10
  go_wp2_with fail
  go_at_call 6
  refine (HSM.out _).mono ?_
  rintro e w'' ⟨rfl, rfl⟩
  go_wp2_with fail
  refine wp_region_spine 11 [4, 9] (DvS p l m X.2.2) (DoI B w d r p l m s X.1 g X.2.1 [(w'.heap.size, cbx c D)]) (by kernel_rfl) (by kernel_rfl) (by rfl) (by kernel_rfl) (by decide) (by exact Pr.below HP.out ⟨rfl, rfl, rfl, Nat.le_refl _, fun _ _ => rfl⟩) DoI.stable ?_ ?_
  · intro i o hi ho y w2 hk hex hN
    have hcs : i = 0 ∨ i = 1 ∨ i = 2 ∨ i = 3 ∨ i = 4 ∨ i = 5 ∨ i = 6 ∨ i = 7 ∨ i = 8 ∨ i = 9 ∨ i = 10 := by omega
    obtain ⟨kx, hkx⟩ := hex
    obtain ⟨y0, y1⟩ := hkx.blk
    obtain ⟨-, -, p2, p3, -⟩ := pblk_cells y0
    obtain ⟨-, -, -, b3⟩ := cbx_cells (y1 (w'.heap.size, cbx c D) (by simp))
    have HKK := Lib.hid hk
    unfold ptr at p2 p3
    simp only [List.take_succ_cons, List.take_zero, putFrom, Act.put, List.setIfInBounds_toArray, List.set_cons_succ, List.set_cons_zero, Nat.zero_add, Nat.reduceAdd]
    clear hk hkx y0 y1
    rcases hcs with rfl | rfl | rfl | rfl | rfl | rfl | rfl | rfl | rfl | rfl | rfl
    all_goals
      simp only [List.getElem?_cons_succ, List.getElem?_cons_zero, Option.some.injEq] at ho
      subst ho
      simp [NeedsB, Region.binds, DvS, ptr] at hN
    all_goals clear hi
    · go_wp2_with fail
      exact ⟨rfl, rfl, rfl, Below.refl _ _⟩
    · go_wp2_with fail
      exact ⟨rfl, rfl, rfl, Below.refl _ _⟩
    · go_wp2_with fail
      exact ⟨rfl, rfl, rfl, Below.refl _ _⟩
    · go_wp2_with fail
      exact ⟨rfl, rfl, rfl, Below.refl _ _⟩
    · have hB := HKK.out 0 rfl
      have hcl := HCL.out w2 hB
      clear p2 p3 b3
      go_wp2_with fail
      go_at_call 21
      refine hcl.mono ?_
      rintro e w3 ⟨rfl, hn1⟩
      have HN := Lib.hid hn1
      have HBB := Lib.hid hB
      clear hn1 hB hcl
      go_wp2_with fail
      exact ⟨rfl, rfl, rfl, ⟨0, rfl, HBB.out, HN.out⟩⟩
    · go_wp2_with fail
      exact ⟨rfl, rfl, rfl, Below.refl _ _⟩
    · go_wp2_with fail
      exact ⟨rfl, rfl, rfl, Below.refl _ _⟩
    · go_wp2_with fail
      exact ⟨rfl, rfl, rfl, Below.refl _ _⟩
    · go_wp2_with fail
      exact ⟨rfl, rfl, rfl, Below.refl _ _⟩
    · have hB := HKK.out 1 rfl
      have hcl := HCM.out w2 hB
      clear p2 p3 b3
      go_wp2_with fail
      go_at_call 24
      refine hcl.mono ?_
      rintro e w3 ⟨rfl, hn1⟩
      have HN := Lib.hid hn1
      have HBB := Lib.hid hB
      clear hn1 hB hcl
      go_wp2_with fail
      exact ⟨rfl, rfl, rfl, ⟨1, rfl, HBB.out, HN.out⟩⟩
    · go_wp2_with fail
      exact ⟨rfl, rfl, rfl, Below.refl _ _⟩
  · intro y w2 hy hI
    have f12 := hy 10 (by omega)
    simp only [DvS] at f12
    simp only [List.take_succ_cons, List.take_zero, putFrom, Act.put, List.setIfInBounds_toArray, List.set_cons_succ, List.set_cons_zero, Nat.zero_add, Nat.reduceAdd, List.drop_succ_cons, List.drop_zero, f12]
    have HI : Hid (Pr B w w2 d r X.1 X.1 (Hl p d r l m X.2.1 X.2.1 [(w'.heap.size, cbx c D)])) := Lib.hid hI
    clear hy hI f12
    go_wp2_with fail
    go_ret
    exact ⟨rfl, DoPost.of HX.out HI.out⟩

set_option maxRecDepth 10000 in
set_option maxHeartbeats 4000000 in
theorem wdo_3 (B : Nat) (w w' : World) (d r p l m : Nat) (s : St) (g : Lg) (c : WC) (h : Pr B w w' d r s s (Hl p d r l m g g [])) (hc : c.Ok) (hf : WFit s g) (hk : c.kind % 7 = 3) :
    Calls Tryz.prog 10 #[ptr p, .agg c.cells.toArray] w' fun e w2 => e = .returned (.bool true) ∧ DoPost B w w2 d r p (c.run s g) := by
  have hpm := h.made (cbx c (bstr c.data))
  have hpm' : Pr B w (w'.alloc (cbx c (bstr c.data))) d r s s (Hl p d r l m g g [(w'.heap.size, cbx c (bstr c.data))]) := hpm.sub (fun y hy => by
    simp only [Hl, List.mem_cons, List.not_mem_nil, or_false] at hy ⊢
    rcases hy with e | e | e | e
    · exact .inr (.inl e)
    · exact .inr (.inr (.inl e))
    · exact .inr (.inr (.inr e))
    · exact .inl e) (by
    obtain ⟨_, _, _, _, _, _, _, _, _, _, _, h8⟩ := hpm
    simp only [Hl, List.map_cons, List.map_nil, List.nodup_cons, List.mem_cons, List.not_mem_nil, or_false, not_or, not_false_eq_true, List.nodup_nil, and_true] at h8 ⊢
    exact ⟨⟨h8.2.1.1, h8.2.1.2, fun e => h8.1.1 e.symm⟩, ⟨h8.2.2, fun e => h8.1.2.1 e.symm⟩, fun e => h8.1.2.2 e.symm⟩)
  have HRUN := Bx.mk (show c.run s g = c.run s g from rfl)
  obtain ⟨RX, hRX⟩ : ∃ x, x = c.run s g := ⟨_, rfl⟩
  rw [← hRX]
  have hrun := hRX
  unfold WC.run at hrun
  have HSM := Lib.hid (fun W => small_any c.kind 7 W hc.kind.1 hc.kind.2 (by omega) (by omega))
  rw [hk] at HSM
  obtain ⟨c0, c1, c2, c3⟩ := cbx_cells (hpm'.blk (w'.heap.size, cbx c (bstr c.data)) (by simp [Hl]))
  have HP := Lib.hid hpm'
  have HC := Lib.hid hc
  have HF := Lib.hid hf
  have hcc : c.cells.toArray = #[.int .i64 c.kind, .int .i64 c.n, .int .i64 c.m, .string (bstr c.data)] := rfl
  have hb0 : cbx c (bstr c.data) = .cells #[.int .i64 c.kind, .int .i64 c.n, .int .i64 c.m, .string (bstr c.data)] 38 (0, 0) := rfl
  rw [hcc]
  have HK := Bx.mk hk
  rw [if_neg (by omega), if_neg (by omega), if_pos hk] at hrun
  obtain ⟨X, hX⟩ : ∃ X, X = g.reset s c.data := ⟨_, rfl⟩
  rw [← hX] at hrun
  have HX := Bx.mk (show RX = (X.1, X.2.1) from hrun)
  have HCL := Lib.hid (fun (W : World) (hP : Pr B w W d r s s (Hl p d r l m g g [(w'.heap.size, cbx c (bstr c.data))])) => Pr.onL (s' := X.1) (g' := X.2.1) (Post := fun e => e = .returned (.int .i64 X.2.2)) (f := 25) (args := #[ptr l, .string (bstr c.data)]) hP fun F R hr hb hl hl2 => by
    have := lreset_any W l d g s F R c.data hb hr hl hl2 (by rw [hf.name]; decide) (by have := hf.ops; omega) (by have := hc.data; omega)
    rw [hX]; exact this)
  have HCM := Lib.hid (fun (W : World) (hP : Pr B w W d r X.1 s (Hl p d r l m X.2.1 g [(w'.heap.size, cbx c (bstr c.data))])) => Pr.onM (t' := X.1) (g' := X.2.1) (Post := fun e => e = .returned (.int .i64 X.2.2)) (f := 26) (args := #[ptr m, .string (bstr c.data)]) hP fun F R hr hb hl hl2 => by
    have := rlreset_any W m r g s F R c.data hb hr hl hl2 (by rw [hf.name]; decide) (by have := hf.ops; omega) (by have := hf.wt; omega) (by have := hc.data; omega)
    rw [hX]; exact this)
  unfold ptr
  clear h hpm hpm' hc hf hk hcc HRUN hRX
  have hrr := hrun
  generalize hD : bstr c.data = D at *
  have HD := Bx.mk hD
  have e1 : ((X.2.2 : Int) == X.2.2) = true := beq_self_eq_true _
  unfold ptr at HCL HCM
  clear hX hrun hrr hD
  go_enter Tryz.func10, Tryz.ntmps10
  go_wp2_with fail
  go_at_call 6
  refine (HSM.out _).mono ?_
  rintro e w'' ⟨rfl, rfl⟩
  go_wp2_with fail
  refine wp_region_spine 15 [6, 13] (DvA p l m w'.heap.size D X.2.2) (DoI B w d r p l m s X.1 g X.2.1 [(w'.heap.size, cbx c D)]) (by kernel_rfl) (by kernel_rfl) (by rfl) (by kernel_rfl) (by decide) (by exact Pr.below HP.out ⟨rfl, rfl, rfl, Nat.le_refl _, fun _ _ => rfl⟩) DoI.stable ?_ ?_
  · intro i o hi ho y w2 hk hex hN
    have hcs : i = 0 ∨ i = 1 ∨ i = 2 ∨ i = 3 ∨ i = 4 ∨ i = 5 ∨ i = 6 ∨ i = 7 ∨ i = 8 ∨ i = 9 ∨ i = 10 ∨ i = 11 ∨ i = 12 ∨ i = 13 ∨ i = 14 := by omega
    obtain ⟨kx, hkx⟩ := hex
    obtain ⟨y0, y1⟩ := hkx.blk
    obtain ⟨-, -, p2, p3, -⟩ := pblk_cells y0
    obtain ⟨-, -, -, b3⟩ := cbx_cells (y1 (w'.heap.size, cbx c D) (by simp))
    have HKK := Lib.hid hk
    unfold ptr at p2 p3
    simp only [List.take_succ_cons, List.take_zero, putFrom, Act.put, List.setIfInBounds_toArray, List.set_cons_succ, List.set_cons_zero, Nat.zero_add, Nat.reduceAdd]
    clear hk hkx y0 y1
    rcases hcs with rfl | rfl | rfl | rfl | rfl | rfl | rfl | rfl | rfl | rfl | rfl | rfl | rfl | rfl | rfl
    all_goals
      simp only [List.getElem?_cons_succ, List.getElem?_cons_zero, Option.some.injEq] at ho
      subst ho
      simp [NeedsB, Region.binds, DvA, ptr] at hN
    all_goals clear hi
    · go_wp2_with fail
      exact ⟨rfl, rfl, rfl, Below.refl _ _⟩
    · go_wp2_with fail
      exact ⟨rfl, rfl, rfl, Below.refl _ _⟩
    · go_wp2_with fail
      exact ⟨rfl, rfl, rfl, Below.refl _ _⟩
    · go_wp2_with fail
      exact ⟨rfl, rfl, rfl, Below.refl _ _⟩
    · go_wp2_with fail
      exact ⟨rfl, rfl, rfl, Below.refl _ _⟩
    · go_wp2_with fail
      exact ⟨rfl, rfl, rfl, Below.refl _ _⟩
    · have hB := HKK.out 0 rfl
      have hcl := HCL.out w2 hB
      clear p2 p3 b3
      go_wp2_with fail
      go_at_call 25
      refine hcl.mono ?_
      rintro e w3 ⟨rfl, hn1⟩
      have HN := Lib.hid hn1
      have HBB := Lib.hid hB
      clear hn1 hB hcl
      go_wp2_with fail
      exact ⟨rfl, rfl, rfl, ⟨0, rfl, HBB.out, HN.out⟩⟩
    · go_wp2_with fail
      exact ⟨rfl, rfl, rfl, Below.refl _ _⟩
    · go_wp2_with fail
      exact ⟨rfl, rfl, rfl, Below.refl _ _⟩
    · go_wp2_with fail
      exact ⟨rfl, rfl, rfl, Below.refl _ _⟩
    · go_wp2_with fail
      exact ⟨rfl, rfl, rfl, Below.refl _ _⟩
    · go_wp2_with fail
      exact ⟨rfl, rfl, rfl, Below.refl _ _⟩
    · go_wp2_with fail
      exact ⟨rfl, rfl, rfl, Below.refl _ _⟩
    · have hB := HKK.out 1 rfl
      have hcl := HCM.out w2 hB
      clear p2 p3 b3
      go_wp2_with fail
      go_at_call 26
      refine hcl.mono ?_
      rintro e w3 ⟨rfl, hn1⟩
      have HN := Lib.hid hn1
      have HBB := Lib.hid hB
      clear hn1 hB hcl
      go_wp2_with fail
      exact ⟨rfl, rfl, rfl, ⟨1, rfl, HBB.out, HN.out⟩⟩
    · go_wp2_with fail
      exact ⟨rfl, rfl, rfl, Below.refl _ _⟩
  · intro y w2 hy hI
    have f12 := hy 14 (by omega)
    simp only [DvA] at f12
    simp only [List.take_succ_cons, List.take_zero, putFrom, Act.put, List.setIfInBounds_toArray, List.set_cons_succ, List.set_cons_zero, Nat.zero_add, Nat.reduceAdd, List.drop_succ_cons, List.drop_zero, f12]
    have HI : Hid (Pr B w w2 d r X.1 X.1 (Hl p d r l m X.2.1 X.2.1 [(w'.heap.size, cbx c D)])) := Lib.hid hI
    clear hy hI f12
    go_wp2_with fail
    go_ret
    exact ⟨rfl, DoPost.of HX.out HI.out⟩
end Go.Proofs.YtbfgkcgnhgfkmaaGreat.Wl
