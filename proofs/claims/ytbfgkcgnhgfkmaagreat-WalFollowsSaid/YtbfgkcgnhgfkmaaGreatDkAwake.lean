/-
  Disks that the call itself made; awake, short.
-/
import Derived.Test.YtbfgkcgnhgfkmaaGreatDkAgree2
import Derived.Test.YtbfgkcgnhgfkmaaGreatDkCopy
import Derived.Test.YtbfgkcgnhgfkmaaGreatDkRCopy
namespace Go.Proofs.YtbfgkcgnhgfkmaaGreat.Dk
open Go Go.Maps Go.RowKit Go.Proofs.YtbfgkcgnhgfkmaaGreat.Slc
set_option linter.unusedVariables false
set_option linter.unusedSimpArgs false

/-- a disk that the call itself made -/
def NewP (B : Nat) (w w' : World) (d : Nat) (s : St) : Prop := ∃ F R, RepP w' d s F R ∧ (∀ k, F k → B ≤ k) ∧ (∀ k, R k → B ≤ k) ∧ Below B w w' ∧ B ≤ w'.heap.size
theorem NewP.ok {B : Nat} {w w' : World} {d : Nat} {s : St} (h : NewP B w w' d s) : s.Ok := by obtain ⟨F, R, h1, _⟩ := h; exact h1.ok
theorem NewP.bel {B : Nat} {w w' : World} {d : Nat} {s : St} (h : NewP B w w' d s) : Below B w w' := by obtain ⟨F, R, h1, _, _, h4, _⟩ := h; exact h4
theorem NewP.below {B : Nat} {w w' w2 : World} {d : Nat} {s : St} (h : NewP B w w' d s) (hb : Below w'.heap.size w' w2) : NewP B w w2 d s := by
  obtain ⟨F, R, h1, h2, h3, h4, h5⟩ := h
  exact ⟨F, R, h1.below hb, h2, h3, h4.trans (hb.mono h5), Nat.le_trans h5 hb.size⟩
theorem NewP.next {B : Nat} {w w' w2 : World} {d : Nat} {s' : St} {F R : Nat → Prop} (h2 : ∀ k, F k → B ≤ k) (h3 : ∀ k, R k → B ≤ k) (h4 : Below B w w') (h5 : B ≤ w'.heap.size) (h : NextP w' w2 d s' F R) : NewP B w w2 d s' := by
  obtain ⟨F', R', k1, k2, k3, k4⟩ := h
  exact ⟨F', R', k1, fun k q => (k2 k q).elim (h2 k) fun z => Nat.le_trans h5 z, fun k q => (k3 k q).elim (h3 k) fun z => Nat.le_trans h5 z, h4.trans (k4.toBelow h5 h2), Nat.le_trans h5 k4.size⟩
theorem new_rep (w : World) (cap : Int) (hc : cap ≤ 9223372036854775807) : NewP w.heap.size w (w.alloc (blk (max cap 0) (.map none) (.map none) (.slice none 0 0) false false 0)) w.heap.size (St.new cap) := by
  refine ⟨fun k => k = w.heap.size, fun _ => False, ⟨St.Ok.new cap hc, ⟨_, _, _, [], ⟨0, heap_alloc_new _ _, fun q => by simp [St.new] at q⟩, .inl ⟨rfl, rfl⟩, .inl ⟨rfl, rfl⟩, Own.nil _ _, trivial, (fun k q => by cases q)⟩, rfl, (fun k q => by subst q; simp), (fun k q => q.elim), (fun k _ q => q)⟩, (fun k q => by omega), (fun k q => q.elim), (Below.refl _ _).alloc (Nat.le_refl _) _, by simp⟩
theorem NewP.append {B : Nat} {w w' : World} {d : Nat} {s : St} (h : NewP B w w' d s) (n x : List UInt8) (hn : n.length ≤ 1000) (hx : x.length ≤ 1000000) (ho : s.ops.length ≤ 10000) :
    Calls Tryz.prog 46 #[.pointer (some ⟨d, 0, none⟩), .string (bstr n), .string (bstr x)] w' fun e w2 => e = .returned (.int .i64 (s.append n x).2) ∧ NewP B w w2 d (s.append n x).1 := by
  obtain ⟨F, R, h1, h2, h3, h4, h5⟩ := h
  exact (append_any w' d s F R n x h1 (by omega) (by omega) ho).mono fun e w2 ⟨he, hn⟩ => ⟨he, .next h2 h3 h4 h5 hn⟩
theorem NewP.rename {B : Nat} {w w' : World} {d : Nat} {s : St} (h : NewP B w w' d s) (n x : List UInt8) (hn : n.length ≤ 1000) (hx : x.length ≤ 1000) (ho : s.ops.length ≤ 10000) :
    Calls Tryz.prog 65 #[.pointer (some ⟨d, 0, none⟩), .string (bstr n), .string (bstr x)] w' fun e w2 => e = .returned (.int .i64 (s.rename n x).2) ∧ NewP B w w2 d (s.rename n x).1 := by
  obtain ⟨F, R, h1, h2, h3, h4, h5⟩ := h
  exact (rename_any w' d s F R n x h1 (by omega) hx ho).mono fun e w2 ⟨he, hn⟩ => ⟨he, .next h2 h3 h4 h5 hn⟩
theorem NewP.remove {B : Nat} {w w' : World} {d : Nat} {s : St} (h : NewP B w w' d s) (n : List UInt8) (hn : n.length ≤ 1000) (ho : s.ops.length ≤ 10000) :
    Calls Tryz.prog 41 #[.pointer (some ⟨d, 0, none⟩), .string (bstr n)] w' fun e w2 => e = .returned (.int .i64 (s.remove n).2) ∧ NewP B w w2 d (s.remove n).1 := by
  obtain ⟨F, R, h1, h2, h3, h4, h5⟩ := h
  exact (remove_any w' d s F R n h1 (by omega) ho).mono fun e w2 ⟨he, hn⟩ => ⟨he, .next h2 h3 h4 h5 hn⟩
theorem NewP.sync {B : Nat} {w w' : World} {d : Nat} {s : St} (h : NewP B w w' d s) :
    Calls Tryz.prog 43 #[.pointer (some ⟨d, 0, none⟩)] w' fun e w2 => e = .returned (.int .i64 s.sync.2) ∧ NewP B w w2 d s.sync.1 := by
  obtain ⟨F, R, h1, h2, h3, h4, h5⟩ := h
  exact (sync_any w' d s F R h1).mono fun e w2 ⟨he, hn⟩ => ⟨he, .next h2 h3 h4 h5 hn⟩
theorem NewP.crash {B : Nat} {w w' : World} {d : Nat} {s : St} (h : NewP B w w' d s) (k b : Int) (ho : s.ops.length ≤ 10000) (hk : i64ok k) (hb : i64ok b) :
    Calls Tryz.prog 27 #[.pointer (some ⟨d, 0, none⟩), .int .i64 k, .int .i64 b] w' fun e w2 => e = .returned (.tuple #[]) ∧ NewP B w w2 d (s.crash k b) := by
  obtain ⟨F, R, h1, h2, h3, h4, h5⟩ := h
  exact (crash_any w' d s F R k b h1 ho hk.1 hk.2 hb.1 hb.2).mono fun e w2 ⟨he, hn⟩ => ⟨he, .next h2 h3 h4 h5 hn⟩
theorem NewP.fuse {B : Nat} {w w' : World} {d : Nat} {s : St} (h : NewP B w w' d s) (n : Int) (hn : i64ok n) :
    Calls Tryz.prog 29 #[.pointer (some ⟨d, 0, none⟩), .int .i64 n] w' fun e w2 => e = .returned (.tuple #[]) ∧ NewP B w w2 d (s.fuse n) := by
  obtain ⟨F, R, h1, h2, h3, h4, h5⟩ := h
  exact (fuse_any w' d s F R n h1 hn.1 hn.2).mono fun e w2 ⟨he, hn⟩ => ⟨he, .next h2 h3 h4 h5 hn⟩
theorem NewP.read {B : Nat} {w w' : World} {d : Nat} {s : St} (h : NewP B w w' d s) (n : List UInt8) (hn : n.length ≤ 1000) :
    Calls Tryz.prog 17 #[.pointer (some ⟨d, 0, none⟩), .string (bstr n)] w' fun e w2 => e = .returned (rdV (s.read n)) ∧ w' = w2 := by
  obtain ⟨F, R, h1, h2, h3, h4, h5⟩ := h
  exact read_any w' d s F R n h1 hn
theorem NewP.names {B : Nat} {w w' : World} {d : Nat} {s : St} (h : NewP B w w' d s) :
    Calls Tryz.prog 14 #[.pointer (some ⟨d, 0, none⟩)] w' fun e w2 => ∃ v, e = .returned v ∧ Own w2 w'.heap.size 9 1 encS v s.nms ∧ Below w'.heap.size w' w2 := by
  obtain ⟨F, R, h1, h2, h3, h4, h5⟩ := h
  exact names_any w' d s F R h1
theorem NewP.pend {B : Nat} {w w' : World} {d : Nat} {s : St} (h : NewP B w w' d s) :
    Calls Tryz.prog 16 #[.pointer (some ⟨d, 0, none⟩)] w' fun e w2 => e = .returned (.int .i64 (s.ops.length : Int)) ∧ w' = w2 := by
  obtain ⟨F, R, h1, h2, h3, h4, h5⟩ := h
  obtain ⟨dv, fv, pv, cs, ⟨fuse, hblk, -⟩, -, -, hpv, hcs, -⟩ := h1.body
  obtain ⟨pa, pc, hpf, -⟩ := hpv.rd.form
  subst hpf
  have := pending_any d w' _ _ _ _ _ _ _ _ _ hblk
  rwa [Cvs.length hcs] at this

/-- the example's states -/
def aw0 : St := St.new 10
def aw1 : St := (aw0.append [97] [120, 121]).1
def aw2 : St := aw1.sync.1
def aw3 : St := (aw2.append [97] [122]).1
def aw4 : St := (aw3.append [98] [49, 50, 51, 52, 53]).1
def aw5 : St := aw4.crash 1 3
theorem aw_a : (aw0.append [97] [120, 121]).2 = 0 := by decide
theorem aw_s : aw1.sync.2 = 0 := by decide
theorem aw_n : aw4.ops.length = 2 := by decide
theorem aw_x : aw5.read [97] = ([120, 121, 122], 0) := by decide
theorem aw_y : aw5.read [98] = ([49, 50, 51], 0) := by decide
theorem aw_l : aw5.nms.length = 2 := by decide
theorem aw_o : aw0.ops.length ≤ 10000 ∧ aw2.ops.length ≤ 10000 ∧ aw3.ops.length ≤ 10000 ∧ aw4.ops.length ≤ 10000 := by decide
end Go.Proofs.YtbfgkcgnhgfkmaaGreat.Dk
