/-
  Two disks side by side; the laws' calls: Small, name.
-/
/-
  The laws' calls: a call's fields, name.
-/
/-
  The laws' calls in plain Lean. (Written by wip/gen/gen_do.py.)
-/
import Derived.Test.YtbfgkcgnhgfkmaaDkOpsB
import Derived.Test.YtbfgkcgnhgfkmaaDkCrash
import Derived.Test.YtbfgkcgnhgfkmaaDkROpsB
import Derived.Test.YtbfgkcgnhgfkmaaDkRCrash
import Derived.Test.YtbfgkcgnhgfkmaaDkRNames
namespace Go.Proofs.Ytbfgkcgnhgfkmaa.Dk
open Go Go.Maps Go.RowKit Go.Proofs.Ytbfgkcgnhgfkmaa.Slc
set_option linter.unusedVariables false
set_option linter.unusedSimpArgs false

/-- neither writes to what the other has -/
def Apart (F R G Q : Nat → Prop) : Prop := ∀ k, (F k → ¬ G k ∧ ¬ Q k) ∧ (G k → ¬ R k)
/-- what a call on both leaves -/
def Both (w w' : World) (d r : Nat) (s t : St) (F R G Q : Nat → Prop) : Prop :=
  ∃ F' R' G' Q', RepP w' d s F' R' ∧ RepR w' r t G' Q' ∧ (∀ k, F' k → F k ∨ w.heap.size ≤ k) ∧ (∀ k, R' k → R k ∨ w.heap.size ≤ k) ∧ (∀ k, G' k → G k ∨ w.heap.size ≤ k) ∧ (∀ k, Q' k → Q k ∨ w.heap.size ≤ k) ∧
    Apart F' R' G' Q' ∧ Fr (fun k => F k ∨ G k) w w'
theorem Both.same {w w' : World} {d r : Nat} {s t : St} {F R G Q : Nat → Prop} (hP : RepP w d s F R) (hR : RepR w r t G Q) (hA : Apart F R G Q) (hb : Below w.heap.size w w') : Both w w' d r s t F R G Q :=
  ⟨F, R, G, Q, hP.below hb, hR.below hb, fun k q => .inl q, fun k q => .inl q, fun k q => .inl q, fun k q => .inl q, hA, Fr.below hb⟩
theorem NextP.of_below {w w1 w' : World} {g : Nat} {s' : St} {F R : Nat → Prop} (hb : Below w.heap.size w w1) (h : NextP w1 w' g s' F R) : NextP w w' g s' F R := by
  obtain ⟨F', R', h1, h2, h3, h4⟩ := h
  have hs := hb.size
  exact ⟨F', R', h1, fun k q => (h2 k q).imp id fun z => by omega, fun k q => (h3 k q).imp id fun z => by omega, (Fr.below hb).trans h4 fun k q => .inl q⟩
theorem NextP.below {w w1 w' : World} {g : Nat} {s' : St} {F R : Nat → Prop} (h : NextP w w1 g s' F R) (hb : Below w1.heap.size w1 w') : NextP w w' g s' F R := by
  obtain ⟨F', R', h1, h2, h3, h4⟩ := h
  exact ⟨F', R', h1.below hb, h2, h3, h4.trans (Fr.below (F := F) hb) fun k q => .inl q⟩
theorem NextR.of_below {w w1 w' : World} {g : Nat} {s' : St} {F R : Nat → Prop} (hb : Below w.heap.size w w1) (h : NextR w1 w' g s' F R) : NextR w w' g s' F R := by
  obtain ⟨F', R', h1, h2, h3, h4⟩ := h
  have hs := hb.size
  exact ⟨F', R', h1, fun k q => (h2 k q).imp id fun z => by omega, fun k q => (h3 k q).imp id fun z => by omega, (Fr.below hb).trans h4 fun k q => .inl q⟩
theorem Both.below {w w1 w' : World} {d r : Nat} {s t : St} {F R G Q : Nat → Prop} (h : Both w w1 d r s t F R G Q) (hb : Below w1.heap.size w1 w') : Both w w' d r s t F R G Q := by
  obtain ⟨F', R', G', Q', h1, h2, h3, h4, h5, h6, h7, h8⟩ := h
  exact ⟨F', R', G', Q', h1.below hb, h2.below hb, h3, h4, h5, h6, h7, h8.trans (Fr.below (F := fun k => F k ∨ G k) hb) fun k q => .inl q⟩
theorem Both.of_below {w w1 w' : World} {d r : Nat} {s t : St} {F R G Q : Nat → Prop} (hb : Below w.heap.size w w1) (h : Both w1 w' d r s t F R G Q) : Both w w' d r s t F R G Q := by
  obtain ⟨F', R', G', Q', h1, h2, h3, h4, h5, h6, h7, h8⟩ := h
  have hs := hb.size
  have key : ∀ {A B : Nat → Prop}, (∀ k, A k → B k ∨ w1.heap.size ≤ k) → ∀ k, A k → B k ∨ w.heap.size ≤ k := fun h k q => (h k q).imp id fun z => by omega
  exact ⟨F', R', G', Q', h1, h2, key h3, key h4, key h5, key h6, h7, (Fr.below hb).trans h8 fun k q => .inl q⟩
/-- the reference's disk is as it was behind a call on the program's -/
theorem keepR {w w1 : World} {d r : Nat} {s' t : St} {F R G Q : Nat → Prop} (hR : RepR w r t G Q) (hA : Apart F R G Q) (h : NextP w w1 d s' F R) : RepR w1 r t G Q := by
  obtain ⟨F', R', h1, h2, h3, h4⟩ := h
  exact hR.frame h4 fun k q z => q.elim ((hA k).1 z).1 ((hA k).1 z).2
/-- a call on the program's disk, then one on the reference's -/
theorem both_of {w w1 w' : World} {d r : Nat} {s' t t' : St} {F R G Q : Nat → Prop} (hR : RepR w r t G Q) (hA : Apart F R G Q) (h : NextP w w1 d s' F R) (h' : NextR w1 w' r t' G Q) : Both w w' d r s' t' F R G Q := by
  obtain ⟨F', R', h1, h2, h3, h4⟩ := h
  obtain ⟨G', Q', k1, k2, k3, k4⟩ := h'
  have s1 := h4.size
  have hG : ∀ k, F' k ∨ R' k → ¬ G k := by
    rintro k (q | q) z
    · rcases h2 k q with y | y
      · exact ((hA k).1 y).1 z
      · have := hR.Flt k z; omega
    · rcases h3 k q with y | y
      · exact (hA k).2 z y
      · have := hR.Flt k z; omega
  refine ⟨F', R', G', Q', h1.frame k4 hG, k1, h2, h3, fun k q => (k2 k q).imp id fun z => by omega, fun k q => (k3 k q).imp id fun z => by omega, fun k => ⟨fun q => ⟨fun z => ?_, fun z => ?_⟩, fun z q => ?_⟩, ?_⟩
  · rcases k2 k z with y | y
    · exact hG k (.inl q) y
    · have := h1.Flt k q; omega
  · rcases k3 k z with y | y
    · rcases h2 k q with x | x
      · exact ((hA k).1 x).2 y
      · have := hR.Rlt k y; omega
    · have := h1.Flt k q; omega
  · rcases k2 k z with y | y
    · exact hG k (.inr q) y
    · have := h1.Rlt k q; omega
  · exact (h4.mono fun k _ q => .inl q).trans k4 fun k q => .inl (.inr q)

set_option maxHeartbeats 400000 in
theorem small_any (x n : Int) (w : World) (hx0 : -9223372036854775808 ≤ x) (hx1 : x ≤ 9223372036854775807) (hn : 0 < n) (hn1 : n ≤ 1000000) :
    Calls Try.prog 23 #[.int .i64 x, .int .i64 n] w fun e w' => e = .returned (.int .i64 (x % n)) ∧ w = w' := by
  have h0 : (n == 0) = false := by rw [beq_eq_false_iff_ne]; omega
  have e1 := Int.tmod_lt_of_pos x hn
  have e2 : -n < x.tmod n := by
    have h1 := Int.lt_tmod_of_pos x hn
    exact h1
  have hr : (x.tmod n + n) % n = x % n := by
    rw [Int.tmod_def, show x - n * x.tdiv n + n = x + n * (1 - x.tdiv n) by rw [Int.mul_sub]; omega, Int.add_mul_emod_self_left]
  have q0 : IntKind.i64.wrap (x.tmod n) = x.tmod n := IntWalk.i64_in _ (by omega)
  have q1 : IntKind.i64.wrap (x.tmod n + n) = x.tmod n + n := IntWalk.i64_in _ (by omega)
  have HR := Lib.hid hr
  clear hr
  go_enter Try.func23, Try.ntmps23
  go_wp2
  go_ret
  exact ⟨by rw [← HR.out]; rfl, rfl⟩

end Go.Proofs.Ytbfgkcgnhgfkmaa.Dk

namespace Go.Proofs.Ytbfgkcgnhgfkmaa.Dk
open Go Go.Maps Go.RowKit Go.Proofs.Ytbfgkcgnhgfkmaa.Slc
set_option linter.unusedVariables false
set_option linter.unusedSimpArgs false

/-- a call, as the law has it -/
structure Cl where
  kind : Int
  frm : Int
  tgt : Int
  n : Int
  m : Int
  name : B
  data : B
  raw : Bool
def i64ok (x : Int) : Prop := -9223372036854775808 ≤ x ∧ x ≤ 9223372036854775807
structure Cl.Ok (c : Cl) : Prop where
  kind : i64ok c.kind
  frm : i64ok c.frm
  tgt : i64ok c.tgt
  n : i64ok c.n
  m : i64ok c.m
def Cl.cells (c : Cl) : List Value := [.int .i64 c.kind, .int .i64 c.frm, .int .i64 c.tgt, .int .i64 c.n, .int .i64 c.m, .string (bstr c.name), .string (bstr c.data), .bool c.raw]
def six : List B := [[97], [98], [108, 111, 103, 45, 49], [120, 46, 110, 101, 119], [65], []]
def Cl.nm (c : Cl) (k : Int) : B := if c.raw then c.name else six.getD (k % 6).toNat []
theorem six_len (k : Nat) : (six.getD k []).length ≤ 5 := by
  match k with
  | 0 | 1 | 2 | 3 | 4 | 5 => decide
  | k + 6 => simp [six]
theorem Cl.nm_len (c : Cl) (k : Int) (h : c.name.length ≤ 100) : (c.nm k).length ≤ 100 := by
  unfold Cl.nm; split
  · exact h
  · have := six_len (k % 6).toNat; omega

set_option maxHeartbeats 1000000 in
theorem name_any (c : Cl) (k : Int) (w : World) (hk : i64ok k) :
    Calls Try.prog 34 #[.agg c.cells.toArray, .int .i64 k] w fun e w' => e = .returned (.string (bstr (c.nm k))) ∧ Below w.heap.size w w' := by
  obtain ⟨k0, k1⟩ := hk
  obtain ⟨kd, fr, tg, n, m, nm, dt, raw⟩ := c
  have hc : (Cl.mk kd fr tg n m nm dt raw).cells = [.int .i64 kd, .int .i64 fr, .int .i64 tg, .int .i64 n, .int .i64 m, .string (bstr nm), .string (bstr dt), .bool raw] := rfl
  rw [hc]
  clear hc
  cases raw with
  | true =>
    have HR := Lib.hid (show (Cl.mk kd fr tg n m nm dt true).nm k = nm from rfl)
    generalize hN : bstr nm = N at *
    have HN := Lib.hid hN
    clear hN
    generalize bstr dt = D at *
    go_enter Try.func34, Try.ntmps34
    go_wp2
    go_ret
    exact ⟨by rw [HR.out, HN.out]; rfl, (Below.refl _ _).alloc (Nat.le_refl _) _⟩
  | false =>
    have hsm : ∀ W : World, Calls Try.prog 23 #[.int .i64 k, .int .i64 6] W fun e w' => e = .returned (.int .i64 (k % 6)) ∧ W = w' := fun W => small_any k 6 W k0 k1 (by omega) (by omega)
    have HSM := Lib.hid hsm
    have HR := Lib.hid (show (Cl.mk kd fr tg n m nm dt false).nm k = six.getD (k % 6).toNat [] from rfl)
    have hcase : k % 6 = 0 ∨ k % 6 = 1 ∨ k % 6 = 2 ∨ k % 6 = 3 ∨ k % 6 = 4 ∨ k % 6 = 5 := by omega
    clear hsm
    generalize k % 6 = r at *
    generalize bstr nm = N at *
    generalize bstr dt = D at *
    rcases hcase with rfl | rfl | rfl | rfl | rfl | rfl
    all_goals
      go_enter Try.func34, Try.ntmps34
      go_wp2_with fail
      go_at_call 23
      refine (HSM.out _).mono ?_
      rintro e w' ⟨rfl, rfl⟩
      go_wp2
      go_ret
      exact ⟨by rw [HR.out]; rfl, ((Below.refl _ _).alloc (Nat.le_refl _) _).alloc (by simp) _⟩

end Go.Proofs.Ytbfgkcgnhgfkmaa.Dk

namespace Go.Proofs.Ytbfgkcgnhgfkmaa.Dk
open Go Go.Maps Go.RowKit Go.Proofs.Ytbfgkcgnhgfkmaa.Slc
set_option linter.unusedVariables false
set_option linter.unusedSimpArgs false

def Cl.fz (c : Cl) : Int := if c.raw then c.n else c.n % 9 - 1
def Cl.ck (c : Cl) : Int := if c.raw then c.n else c.n % 7 - 1
def Cl.cm (c : Cl) : Int := if c.raw then c.m else c.m % 7 - 1
/-- a call: the state behind it, and the error -/
def St.call (s : St) (c : Cl) : St × Int :=
  if c.kind % 6 = 0 then s.append (c.nm c.frm) c.data
  else if c.kind % 6 = 1 then s.rename (c.nm c.frm) (c.nm c.tgt)
  else if c.kind % 6 = 2 then s.remove (c.nm c.frm)
  else if c.kind % 6 = 3 then s.sync
  else if c.kind % 6 = 4 then (s.fuse c.fz, 0)
  else (s.crash c.ck c.cm, 0)
/-- what is asked of a call -/
structure Cl.Fit (c : Cl) : Prop where
  ok : c.Ok
  name : c.name.length ≤ 100
  data : c.data.length ≤ 200
structure St.Fit (s : St) : Prop where
  ops : s.ops.length ≤ 10000
  wt : s.wt ≤ 1000000
theorem Cl.Fit.fz {c : Cl} (h : c.Fit) : i64ok c.fz := by
  obtain ⟨h1, h2⟩ := h.ok.n
  unfold Cl.fz i64ok; split
  · exact ⟨h1, h2⟩
  · omega
theorem Cl.Fit.ck {c : Cl} (h : c.Fit) : i64ok c.ck := by
  obtain ⟨h1, h2⟩ := h.ok.n
  unfold Cl.ck i64ok; split
  · exact ⟨h1, h2⟩
  · omega
theorem Cl.Fit.cm {c : Cl} (h : c.Fit) : i64ok c.cm := by
  obtain ⟨h1, h2⟩ := h.ok.m
  unfold Cl.cm i64ok; split
  · exact ⟨h1, h2⟩
  · omega
/-- the block that a call's fields lie in -/
def boxC (c : Cl) : Obj := .cells c.cells.toArray 39 (0, 0)
theorem boxC_cells {w : World} {b : Nat} {c : Cl} (h : w.heap[b]? = some (boxC c)) :
    w.cell? ⟨b, 0, none⟩ = some (.int .i64 c.kind) ∧ w.cell? ⟨b, 1, none⟩ = some (.int .i64 c.frm) ∧ w.cell? ⟨b, 2, none⟩ = some (.int .i64 c.tgt) ∧ w.cell? ⟨b, 3, none⟩ = some (.int .i64 c.n) ∧ w.cell? ⟨b, 4, none⟩ = some (.int .i64 c.m) ∧ w.cell? ⟨b, 5, none⟩ = some (.string (bstr c.name)) ∧ w.cell? ⟨b, 6, none⟩ = some (.string (bstr c.data)) ∧ w.cell? ⟨b, 7, none⟩ = some (.bool c.raw) := by
  unfold boxC at h
  refine ⟨?_, ?_, ?_, ?_, ?_, ?_, ?_, ?_⟩ <;> simp [World.cell?, h, Cl.cells]

end Go.Proofs.Ytbfgkcgnhgfkmaa.Dk
