/-
  A log's block, and its small calls.
-/
/-
  A log's replace.
-/
/-
  A log's Sync, Append and Reset.
-/
/-
  slices.Contains.
-/
/-
  A log's Reset.
-/
import Derived.Test.YtbfgkcgnhgfkmaaGreatWlF
import Derived.Test.YtbfgkcgnhgfkmaaGreatDkOpsC
import Derived.Test.YtbfgkcgnhgfkmaaGreatDkDo
import Derived.Test.YtbfgkcgnhgfkmaaGreatFactsB
namespace Go.Proofs.YtbfgkcgnhgfkmaaGreat.Wl
open Go Go.RowKit Go.Proofs.YtbfgkcgnhgfkmaaGreat.Slc Go.Proofs.YtbfgkcgnhgfkmaaGreat.Hs
open Go.Proofs.YtbfgkcgnhgfkmaaGreat.Dk (Fr ptr bstr bstr_size bstr_list NextP RepP St)
set_option linter.unusedVariables false
set_option linter.unusedSimpArgs false

/-- a log in plain Lean -/
structure Lg where
  name : B
  n : Nat
  size : Nat
  dead : Bool
/-- its block -/
def lblk (g : Lg) (d : Nat) : Obj := .cells #[.string (bstr g.name), .int .i64 (g.n : Int), .int .i64 (g.size : Int), ptr d, .bool g.dead] 68 (0, 0)
theorem lblk_cells {w : World} {l : Nat} {g : Lg} {d : Nat} (h : w.heap[l]? = some (lblk g d)) :
    w.cell? ⟨l, 0, none⟩ = some (.string (bstr g.name)) ∧ w.cell? ⟨l, 1, none⟩ = some (.int .i64 (g.n : Int)) ∧ w.cell? ⟨l, 2, none⟩ = some (.int .i64 (g.size : Int)) ∧ w.cell? ⟨l, 3, none⟩ = some (ptr d) ∧ w.cell? ⟨l, 4, none⟩ = some (.bool g.dead) ∧ ∀ k, w.frozen? ⟨l, k, none⟩ = false := by
  refine ⟨?_, ?_, ?_, ?_, ?_, fun k => frozen_of_row _ _ k _ _ h⟩
  · rw [cell_of_row _ _ 0 _ _ _ h]; rfl
  · rw [cell_of_row _ _ 1 _ _ _ h]; rfl
  · rw [cell_of_row _ _ 2 _ _ _ h]; rfl
  · rw [cell_of_row _ _ 3 _ _ _ h]; rfl
  · rw [cell_of_row _ _ 4 _ _ _ h]; rfl
theorem lblk_set {w : World} {l : Nat} {cs : Array Value} (h : w.heap[l]? = some (.cells cs 68 (0, 0))) (i : Nat) (v : Value) : (w.setCell ⟨l, i, none⟩ v).heap[l]? = some (.cells (cs.setIfInBounds i v) 68 (0, 0)) :=
  heap_setCell_same w l i cs _ v h
theorem lblk_dead {w : World} {l : Nat} {g : Lg} {d : Nat} (h : w.heap[l]? = some (lblk g d)) (b : Bool) : (w.setCell ⟨l, 4, none⟩ (.bool b)).heap[l]? = some (lblk { g with dead := b } d) := by
  unfold lblk at h; rw [lblk_set h]; rfl
theorem lblk_grown {w : World} {l : Nat} {g : Lg} {d : Nat} (h : w.heap[l]? = some (lblk g d)) (n m : Nat) : ((w.setCell ⟨l, 1, none⟩ (.int .i64 n)).setCell ⟨l, 2, none⟩ (.int .i64 m)).heap[l]? = some (lblk { g with n := n, size := m } d) := by
  unfold lblk at h; rw [lblk_set (lblk_set h 1 _)]; rfl

theorem len_any (w : World) (l d : Nat) (g : Lg) (h : w.heap[l]? = some (lblk g d)) : Calls Tryz.prog 11 #[ptr l] w fun e w' => e = .returned (.int .i64 (g.n : Int)) ∧ w = w' := by
  obtain ⟨c0, c1, c2, c3, c4, cf⟩ := lblk_cells h
  clear h cf
  unfold ptr
  go_enter Tryz.func11, Tryz.ntmps11
  go_wp2
  go_ret
  exact ⟨rfl, rfl⟩
theorem size_any (w : World) (l d : Nat) (g : Lg) (h : w.heap[l]? = some (lblk g d)) : Calls Tryz.prog 12 #[ptr l] w fun e w' => e = .returned (.int .i64 (g.size : Int)) ∧ w = w' := by
  obtain ⟨c0, c1, c2, c3, c4, cf⟩ := lblk_cells h
  clear h cf
  unfold ptr
  go_enter Tryz.func12, Tryz.ntmps12
  go_wp2
  go_ret
  exact ⟨rfl, rfl⟩
theorem result_any (w : World) (l d : Nat) (g : Lg) (e : Int) (h : w.heap[l]? = some (lblk g d)) : Calls Tryz.prog 45 #[ptr l, .int .i64 e] w fun r w' => r = .returned (.int .i64 e) ∧ w' = w.setCell ⟨l, 4, none⟩ (.bool (!(e == 0))) := by
  obtain ⟨c0, c1, c2, c3, c4, cf⟩ := lblk_cells h
  have f4 := cf 4
  clear h cf
  unfold ptr
  go_enter Tryz.func45, Tryz.ntmps45
  go_wp2
  go_ret
  exact ⟨rfl, rfl⟩
theorem grown_any (w : World) (l d : Nat) (g : Lg) (r : B) (h : w.heap[l]? = some (lblk g d)) (h1 : g.n ≤ 1000000) (h2 : g.size ≤ 1099511627776) (h3 : r.length ≤ 1099511627776) :
    Calls Tryz.prog 47 #[ptr l, .string (bstr r)] w fun e w' => e = .returned (.tuple #[]) ∧ w' = (w.setCell ⟨l, 1, none⟩ (.int .i64 ((g.n + 1 : Nat) : Int))).setCell ⟨l, 2, none⟩ (.int .i64 ((g.size + r.length : Nat) : Int)) := by
  obtain ⟨c0, c1, c2, c3, c4, cf⟩ := lblk_cells h
  have f1 := cf 1
  have f2 := cf 2
  have hsz : (bstr r).size = r.length := bstr_size r
  have b1 : (g.n : Int) ≤ 1000000 := by omega
  have b2 : (g.size : Int) ≤ 1099511627776 := by omega
  have b3 : (r.length : Int) ≤ 1099511627776 := by omega
  have HL := Lib.hid (lt_of_block h)
  clear h cf
  generalize bstr r = br at *
  unfold ptr
  go_enter Tryz.func47, Tryz.ntmps47
  go_wp2
  go_end0
  exact ⟨rfl, by simp⟩
theorem next_any (w : World) (l d : Nat) (g : Lg) (r : B) (h : w.heap[l]? = some (lblk g d)) (h1 : g.n ≤ 1000000) (h3 : r.length ≤ 1000000) :
    Calls Tryz.prog 44 #[ptr l, .string (bstr r)] w fun e w' => e = .returned (.string (bstr (frameB g.n r))) ∧ Below w.heap.size w w' := by
  obtain ⟨c0, c1, c2, c3, c4, cf⟩ := lblk_cells h
  have C := Lib.hid (fun W => frame_any g.n r W (by omega) h3)
  clear h cf
  generalize bstr (frameB g.n r) = bf at *
  generalize bstr r = br at *
  unfold ptr
  go_enter Tryz.func44, Tryz.ntmps44
  go_wp2_with fail
  go_at_call 55
  refine (C.out _).mono ?_
  rintro e w' ⟨rfl, hb⟩
  have HB := Lib.hid hb
  clear hb
  go_wp2
  go_ret
  exact ⟨rfl, HB.out⟩
end Go.Proofs.YtbfgkcgnhgfkmaaGreat.Wl

namespace Go.Proofs.YtbfgkcgnhgfkmaaGreat.Wl
open Go Go.RowKit Go.Proofs.YtbfgkcgnhgfkmaaGreat.Slc Go.Proofs.YtbfgkcgnhgfkmaaGreat.Hs
open Go.Proofs.YtbfgkcgnhgfkmaaGreat.Dk (Fr ptr bstr bstr_size bstr_list NextP RepP St append_any sync_any rename_any remove_any)
set_option linter.unusedVariables false
set_option linter.unusedSimpArgs false

def sfx : B := [46, 110, 101, 119]
def replace (s : St) (n b : B) : St × Int :=
  let a := s.append (n ++ sfx) b
  if a.2 ≠ 0 then a else
  let y := a.1.sync
  if y.2 ≠ 0 then y else
  let r := y.1.rename (n ++ sfx) n
  if r.2 ≠ 0 then r else r.1.sync
theorem nextTrans {w w1 w2 : World} {d : Nat} {s2 : St} {F R F1 R1 : Nat → Prop} (h2 : ∀ k, F1 k → F k ∨ w.heap.size ≤ k) (h3 : ∀ k, R1 k → R k ∨ w.heap.size ≤ k) (h4 : Fr F w w1) (hn : NextP w1 w2 d s2 F1 R1) : NextP w w2 d s2 F R := by
  obtain ⟨F2, R2, k1, k2, k3, k4⟩ := hn
  refine ⟨F2, R2, k1, fun k q => ?_, fun k q => ?_, h4.trans k4 fun k q => h2 k q⟩
  · rcases k2 k q with y | y
    · exact h2 k y
    · exact .inr (Nat.le_trans h4.size y)
  · rcases k3 k q with y | y
    · exact h3 k y
    · exact .inr (Nat.le_trans h4.size y)
/-- a further call on the disk -/
theorem NextP.on {w w1 : World} {d : Nat} {s1 s2 : St} {F R : Nat → Prop} {f : FuncId} {args : Array Value} {Post : Ending → Prop} (h : NextP w w1 d s1 F R)
    (hc : ∀ F' R', RepP w1 d s1 F' R' → Calls Tryz.prog f args w1 fun e w2 => Post e ∧ NextP w1 w2 d s2 F' R') : Calls Tryz.prog f args w1 fun e w2 => Post e ∧ NextP w w2 d s2 F R := by
  obtain ⟨F1, R1, h1, h2, h3, h4⟩ := h
  exact (hc F1 R1 h1).mono fun e w2 ⟨he, hn⟩ => ⟨he, nextTrans h2 h3 h4 hn⟩
theorem sync_len (s : St) : s.sync.1.ops.length ≤ s.ops.length := by
  unfold Dk.St.sync
  split
  · exact Nat.le_refl _
  · rw [(Dk.St.spend_ops _).1]; exact Nat.zero_le _
theorem cat_sfx (n : B) (h : n.length ≤ 1000000) (W : World) : (Op.stringOp .add (bstr n) ⟨#[46, 110, 101, 119]⟩).run Tryz.prog W = .ok (.string (bstr (n ++ sfx))) W := cat_b n sfx (by simp [sfx]; omega) W
/-- a log's block beside a disk -/
theorem keepL {w w1 : World} {d l : Nat} {s : St} {g : Lg} {F R : Nat → Prop} (hb : w.heap[l]? = some (lblk g d)) (hl : ¬ F l) (h : NextP w w1 d s F R) : w1.heap[l]? = some (lblk g d) := by
  obtain ⟨F1, R1, h1, h2, h3, h4⟩ := h
  exact (h4.block l (lt_of_block hb) hl).trans hb

set_option maxRecDepth 10000 in
set_option maxHeartbeats 2000000 in
theorem replace_any (w : World) (l d : Nat) (g : Lg) (s : St) (F R : Nat → Prop) (b : B) (hg : w.heap[l]? = some (lblk g d)) (h : RepP w d s F R) (hl : ¬ F l) (hn : g.name.length ≤ 900) (hb : b.length ≤ 1000000) (ho : s.ops.length ≤ 1000) :
    Calls Tryz.prog 42 #[ptr l, .string (bstr b)] w fun e w' => e = .returned (.int .i64 (replace s g.name b).2) ∧ NextP w w' d (replace s g.name b).1 F R := by
  obtain ⟨c0, -, -, c3, -, -⟩ := lblk_cells hg
  have hlt := lt_of_block hg
  have m0 : ∀ e : Ext w, e.out.cell? ⟨l, 0, none⟩ = some (.string (bstr g.name)) := fun e => (e.cell hlt).trans c0
  have m3 : ∀ e : Ext w, e.out.cell? ⟨l, 3, none⟩ = some (ptr d) := fun e => (e.cell hlt).trans c3
  have a1 := cat_sfx g.name (by omega)
  have HG := Lib.hid hg
  have HC := Lib.hid (fun e : Ext w => append_any e.out d s F R (g.name ++ sfx) b (h.below e.bel) (by simp [sfx]; omega) (by omega) (by omega))
  have HL := Lib.hid hl
  obtain ⟨PS, hPS⟩ : ∃ p, p = replace s g.name b := ⟨_, rfl⟩
  rw [← hPS]
  have HPS := Bx.mk hPS
  unfold replace at hPS
  have HPD := Bx.mk hPS
  have hop := Dk.ops_append s (g.name ++ sfx) b
  have HOP := Lib.hid hop
  clear hPS hg h hl c0 c3 hop
  generalize hNN : bstr g.name = N0 at *
  have HN0 := Bx.mk hNN
  clear hNN
  generalize hNS : bstr (g.name ++ sfx) = NS at *
  have HNS := Bx.mk hNS
  clear hNS
  generalize hBB : bstr b = BB at *
  clear hBB
  generalize hA : s.append (g.name ++ sfx) b = A at *
  have HA := Bx.mk hA
  clear hA
  unfold ptr at *
  go_enter Tryz.func42, Tryz.ntmps42
  go_wp2_with fail
  refine wp_region_ext_tail 11 (Ext.self w) (by kernel_rfl) (by kernel_rfl) rfl rfl ?_
  simp only [List.take_succ_cons, List.take_zero, List.drop_succ_cons, List.drop_zero]
  repeat (go_big_quiet_step (fail))
  refine wpQuiet_nil ?_
  rintro _ ⟨e1, rfl⟩
  clear m0 m3
  go_wp2_with fail
  go_at_call 46
  refine (HC.out e1).mono ?_
  rintro e w1 ⟨rfl, hx1⟩
  have hx1 := Dk.NextP.of_below e1.bel hx1
  have hg1 := keepL HG.out HL.out hx1
  have HX1 := Lib.hid hx1
  have HG1 := Lib.hid hg1
  clear hx1
  have hsy := NextP.on HX1.out (s2 := A.1.sync.1) (Post := fun e => e = .returned (.int .i64 A.1.sync.2)) fun F' R' hr => sync_any w1 d A.1 F' R' hr
  obtain ⟨k0, -, -, k3, -, -⟩ := lblk_cells hg1
  have HOY := Lib.hid (sync_len A.1)
  generalize hY : A.1.sync = Y at *
  have HY := Bx.mk hY
  clear hY
  unfold ptr at *
  by_cases hq1 : A.2 = 0
  · have t1 : (A.2 != 0) = false := by simp [hq1]
    have HSY := Lib.hid hsy
    have HQ1 := Bx.mk hq1
    clear hsy hq1 hg1
    go_wp2_with fail
    go_at_call 43
    refine HSY.out.mono ?_
    rintro e w2 ⟨rfl, hx2⟩
    have hg2 := keepL HG.out HL.out hx2
    have HX2 := Lib.hid hx2
    have hlt2 := lt_of_block hg2
    obtain ⟨k0', -, -, k3', -, -⟩ := lblk_cells hg2
    have m0 : ∀ e : Ext w2, e.out.cell? ⟨l, 0, none⟩ = some (.string N0) := fun e => by rw [← HN0.out]; exact (e.cell hlt2).trans k0'
    have m3 : ∀ e : Ext w2, e.out.cell? ⟨l, 3, none⟩ = some (.pointer (some ⟨d, 0, none⟩)) := fun e => (e.cell hlt2).trans k3'
    have hrn := fun e : Ext w2 => NextP.on (Dk.NextP.below HX2.out e.bel) (s2 := (Y.1.rename (g.name ++ sfx) g.name).1) (Post := fun r => r = .returned (.int .i64 (Y.1.rename (g.name ++ sfx) g.name).2)) fun F' R' hr => rename_any e.out d Y.1 F' R' (g.name ++ sfx) g.name hr (by simp [sfx]; omega) (by omega) (by have := HOP.out; have := HOY.out; omega)
    rw [HNS.out, HN0.out] at hrn
    have hop3 := Dk.ops_rename Y.1 (g.name ++ sfx) g.name
    have HOP3 := Lib.hid hop3
    generalize hZ : Y.1.rename (g.name ++ sfx) g.name = Z at *
    have HZ := Bx.mk hZ
    unfold ptr at hrn
    have HRN := Lib.hid hrn
    clear hx2 hrn hZ hop3 k0 k3 k0' k3'
    by_cases hq2 : Y.2 = 0
    · have t2 : (Y.2 != 0) = false := by simp [hq2]
      have HQ2 := Bx.mk hq2
      clear hq2 hg2
      go_wp2_with fail
      refine wp_region_ext_tail 15 (Ext.self w2) (by kernel_rfl) (by kernel_rfl) rfl rfl ?_
      simp only [List.take_succ_cons, List.take_zero, List.drop_succ_cons, List.drop_zero]
      repeat (go_big_quiet_step (fail))
      refine wpQuiet_nil ?_
      rintro _ ⟨e2, rfl⟩
      clear m0 m3
      go_wp2_with fail
      go_at_call 65
      refine (HRN.out e2).mono ?_
      rintro e w3 ⟨rfl, hx3⟩
      have hg3 := keepL HG.out HL.out hx3
      obtain ⟨-, -, -, k3, -, -⟩ := lblk_cells hg3
      have hs3 := NextP.on hx3 (s2 := Z.1.sync.1) (Post := fun e => e = .returned (.int .i64 Z.1.sync.2)) fun F' R' hr => sync_any w3 d Z.1 F' R' hr
      have HX3 := Lib.hid hx3
      unfold ptr at *
      by_cases hq3 : Z.2 = 0
      · have t3 : (Z.2 != 0) = false := by simp [hq3]
        have hfin : PS = Z.1.sync := by rw [HPD.out]; simp [HA.out, HY.out, HZ.out, HQ1.out, HQ2.out, hq3]
        have HF := Bx.mk hfin
        have HS3 := Lib.hid hs3
        clear hx3 hq3 hg3 hfin hs3
        go_wp2_with fail
        go_at_call 43
        refine HS3.out.mono ?_
        rintro e w4 ⟨rfl, hx4⟩
        have HX4 := Lib.hid hx4
        clear hx4
        go_wp2_with fail
        go_ret
        exact ⟨by rw [HF.out]; rfl, by rw [HF.out]; exact HX4.out⟩
      · have t3 : (Z.2 != 0) = true := by simp [hq3]
        have hfin : PS = Z := by rw [HPD.out]; simp [HA.out, HY.out, HZ.out, HQ1.out, HQ2.out, hq3]
        have HF := Bx.mk hfin
        clear hx3 hq3 hg3 hfin hs3 k3
        go_wp2_with fail
        go_ret
        exact ⟨by rw [HF.out]; rfl, by rw [HF.out]; exact HX3.out⟩
    · have t2 : (Y.2 != 0) = true := by simp [hq2]
      have hfin : PS = Y := by rw [HPD.out]; simp [HA.out, HY.out, HQ1.out, hq2]
      have HF := Bx.mk hfin
      clear hq2 hg2 hfin m0 m3
      go_wp2_with fail
      go_ret
      exact ⟨by rw [HF.out]; rfl, by rw [HF.out]; exact HX2.out⟩
  · have t1 : (A.2 != 0) = true := by simp [hq1]
    have hfin : PS = A := by rw [HPD.out]; simp [HA.out, hq1]
    have HF := Bx.mk hfin
    clear hsy hq1 hg1 hfin k0 k3
    go_wp2_with fail
    go_ret
    exact ⟨by rw [HF.out]; rfl, by rw [HF.out]; exact HX1.out⟩
end Go.Proofs.YtbfgkcgnhgfkmaaGreat.Wl

namespace Go.Proofs.YtbfgkcgnhgfkmaaGreat.Wl
open Go Go.RowKit Go.Proofs.YtbfgkcgnhgfkmaaGreat.Slc Go.Proofs.YtbfgkcgnhgfkmaaGreat.Hs
open Go.Proofs.YtbfgkcgnhgfkmaaGreat.Dk (Fr ptr bstr bstr_size bstr_list NextP RepP St append_any sync_any rename_any remove_any)
set_option linter.unusedVariables false
set_option linter.unusedSimpArgs false

def Lg.sync (g : Lg) (s : St) : St × Lg × Int := if g.dead then (s, g, 28) else (s.sync.1, { g with dead := !(s.sync.2 == 0) }, s.sync.2)
def Lg.append (g : Lg) (s : St) (x : B) : St × Lg × Int :=
  if g.dead then (s, g, 28) else if 65536 < x.length ∨ 4096 ≤ g.n then (s, g, 2) else
  if (s.append g.name (frameB g.n x)).2 = 0 then ((s.append g.name (frameB g.n x)).1, { g with n := g.n + 1, size := g.size + (frameB g.n x).length, dead := false }, 0)
  else ((s.append g.name (frameB g.n x)).1, { g with dead := true }, (s.append g.name (frameB g.n x)).2)
def Lg.reset (g : Lg) (s : St) (x : B) : St × Lg × Int :=
  if g.dead then (s, g, 28) else if 65536 < x.length then (s, g, 2) else
  if (replace s g.name (frameB 0 x)).2 = 0 then ((replace s g.name (frameB 0 x)).1, { g with n := 1, size := (frameB 0 x).length, dead := false }, 0)
  else ((replace s g.name (frameB 0 x)).1, { g with dead := true }, (replace s g.name (frameB 0 x)).2)

/-- what a call on a log leaves -/
def LNext (w w' : World) (d l : Nat) (s' : St) (g' : Lg) (F R : Nat → Prop) : Prop :=
  ∃ F' R', RepP w' d s' F' R' ∧ (∀ k, F' k → F k ∨ w.heap.size ≤ k) ∧ (∀ k, R' k → R k ∨ w.heap.size ≤ k) ∧ Fr (fun k => F k ∨ k = l) w w' ∧ w'.heap[l]? = some (lblk g' d)
theorem LNext.of {w w1 w' : World} {d l : Nat} {s' : St} {g' : Lg} {F R : Nat → Prop} (hx : NextP w w1 d s' F R) (hl : ¬ F l) (hr : ¬ R l) (hlt : l < w.heap.size) (hg : Fr (fun k => k = l) w1 w') (hb : w'.heap[l]? = some (lblk g' d)) : LNext w w' d l s' g' F R := by
  obtain ⟨F1, R1, h1, h2, h3, h4⟩ := hx
  refine ⟨F1, R1, h1.frame hg fun k q e => ?_, h2, h3, ?_, hb⟩
  · subst e
    rcases q with q | q
    · rcases h2 k q with y | y
      · exact hl y
      · omega
    · rcases h3 k q with y | y
      · exact hr y
      · omega
  · exact ⟨hg.os.trans h4.os, hg.tape.trans h4.tape, hg.output.trans h4.output, Nat.le_trans h4.size hg.size, fun k hk hn => (hg.block k (Nat.lt_of_lt_of_le hk h4.size) fun e => hn (.inr e)).trans (h4.block k hk fun e => hn (.inl e))⟩
theorem LNext.same {w w' : World} {d l : Nat} {s : St} {g : Lg} {F R : Nat → Prop} (h : RepP w d s F R) (hg : w.heap[l]? = some (lblk g d)) (hb : Below w.heap.size w w') : LNext w w' d l s g F R :=
  ⟨F, R, h.below hb, fun k q => .inl q, fun k q => .inl q, Fr.below hb, (hb.block l (lt_of_block hg)).trans hg⟩
theorem fr_one (w : World) (l i : Nat) (v : Value) : Fr (fun k => k = l) w (w.setCell ⟨l, i, none⟩ v) :=
  ⟨rfl, rfl, rfl, by simp, fun k _ hn => heap_setCell_other _ _ _ _ hn⟩

theorem LNext.of_below {w w1 w' : World} {d l : Nat} {s' : St} {g' : Lg} {F R : Nat → Prop} (hb : Below w.heap.size w w1) (h : LNext w1 w' d l s' g' F R) : LNext w w' d l s' g' F R := by
  obtain ⟨F', R', h1, h2, h3, h4, h5⟩ := h
  refine ⟨F', R', h1, fun k q => (h2 k q).imp id fun z => Nat.le_trans hb.size z, fun k q => (h3 k q).imp id fun z => Nat.le_trans hb.size z, ⟨h4.os.trans hb.os, h4.tape.trans hb.tape, h4.output.trans hb.output, Nat.le_trans hb.size h4.size, fun k hk hn => (h4.block k (Nat.lt_of_lt_of_le hk hb.size) hn).trans (hb.block k hk)⟩, h5⟩
theorem LNext.below {w w1 w' : World} {d l : Nat} {s' : St} {g' : Lg} {F R : Nat → Prop} (h : LNext w w1 d l s' g' F R) (hb : Below w1.heap.size w1 w') : LNext w w' d l s' g' F R := by
  obtain ⟨F', R', h1, h2, h3, h4, h5⟩ := h
  exact ⟨F', R', h1.below hb, h2, h3, h4.trans (Fr.below (F := fun _ => False) hb) (fun k q => q.elim), (hb.block l (lt_of_block h5)).trans h5⟩
/-- a write to the log's block -/
theorem LNext.write {w w1 w2 : World} {d l : Nat} {s' : St} {g1 g2 : Lg} {F R : Nat → Prop} (h : LNext w w1 d l s' g1 F R) (hl : ¬ F l) (hr : ¬ R l) (hlt : l < w.heap.size) (hg : Fr (fun k => k = l) w1 w2) (hb : w2.heap[l]? = some (lblk g2 d)) : LNext w w2 d l s' g2 F R := by
  obtain ⟨F', R', h1, h2, h3, h4, h5⟩ := h
  refine ⟨F', R', h1.frame hg fun k q e => ?_, h2, h3, h4.trans hg fun k q => .inl (.inr q), hb⟩
  subst e
  rcases q with q | q
  · rcases h2 k q with y | y
    · exact hl y
    · omega
  · rcases h3 k q with y | y
    · exact hr y
    · omega
theorem fr_two (w : World) (l i j : Nat) (u v : Value) : Fr (fun k => k = l) w ((w.setCell ⟨l, i, none⟩ u).setCell ⟨l, j, none⟩ v) := (fr_one w l i u).trans (fr_one _ l j v) fun k q => .inl q

/-- the region of Append: what its operations yield, and the worlds -/
def ApV (l d : Nat) (nm fb : ByteArray) (e : Int) : Nat → Value
  | 0 => ptr l
  | 1 => ptr l
  | 2 => ptr l
  | 3 => .pointer (some ⟨l, 3, none⟩)
  | 4 => ptr d
  | 5 => ptr l
  | 6 => ptr l
  | 7 => ptr l
  | 8 => ptr l
  | 9 => .string nm
  | 10 => .string fb
  | 11 => .int .i64 e
  | 12 => .int .i64 e
  | _ => undef
def ApI (W : World) (d l : Nat) (s' : St) (g' : Lg) (F R : Nat → Prop) : Nat → World → Prop
  | 0, w => Below W.heap.size W w
  | 1, w => NextP W w d s' F R
  | 2, w => LNext W w d l s' g' F R
  | _, _ => False
theorem ApI.stable {W : World} {d l : Nat} {s' : St} {g' : Lg} {F R : Nat → Prop} (k : Nat) (w1 w2 : World) (h : ApI W d l s' g' F R k w1) (hb : Below w1.heap.size w1 w2) : ApI W d l s' g' F R k w2 := by
  match k with
  | 0 => exact Below.trans (show Below W.heap.size W w1 from h) (hb.mono (show Below W.heap.size W w1 from h).size)
  | 1 => exact Dk.NextP.below (show NextP W w1 d s' F R from h) hb
  | 2 => exact LNext.below h hb
  | _ + 3 => exact h
theorem ApI.cells {W : World} {d l : Nat} {s' : St} {g g' : Lg} {F R : Nat → Prop} {k : Nat} {w : World} (h : ApI W d l s' g' F R k w) (hg : W.heap[l]? = some (lblk g d)) (hl : ¬ F l) (hn : g'.name = g.name) :
    w.cell? ⟨l, 0, none⟩ = some (.string (bstr g.name)) ∧ w.cell? ⟨l, 3, none⟩ = some (ptr d) := by
  match k with
  | 0 =>
    obtain ⟨c0, -, -, c3, -, -⟩ := lblk_cells (((show Below W.heap.size W w from h).block l (lt_of_block hg)).trans hg)
    exact ⟨c0, c3⟩
  | 1 =>
    obtain ⟨c0, -, -, c3, -, -⟩ := lblk_cells (keepL hg hl (show NextP W w d s' F R from h))
    exact ⟨c0, c3⟩
  | 2 =>
    obtain ⟨_, _, _, _, _, _, h5⟩ := (show LNext W w d l s' g' F R from h)
    obtain ⟨c0, -, -, c3, -, -⟩ := lblk_cells h5
    rw [hn] at c0
    exact ⟨c0, c3⟩
  | _ + 3 => exact h.elim

set_option maxRecDepth 10000 in
set_option maxHeartbeats 1000000 in
theorem lsync_any (w : World) (l d : Nat) (g : Lg) (s : St) (F R : Nat → Prop) (hg : w.heap[l]? = some (lblk g d)) (h : RepP w d s F R) (hl : ¬ F l) (hr : ¬ R l) :
    Calls Tryz.prog 21 #[ptr l] w fun e w' => e = .returned (.int .i64 (g.sync s).2.2) ∧ LNext w w' d l (g.sync s).1 (g.sync s).2.1 F R := by
  obtain ⟨c0, -, -, c3, c4, -⟩ := lblk_cells hg
  have hlt := lt_of_block hg
  have hsy := sync_any w d s F R h
  have HG := Lib.hid hg
  have HH := Lib.hid h
  have HL := Lib.hid hl
  have HR := Lib.hid hr
  have HLT := Lib.hid hlt
  unfold ptr at *
  cases hdd : g.dead with
  | true =>
    have e1 : g.sync s = (s, g, 28) := by unfold Lg.sync; rw [hdd]; rfl
    have HE := Bx.mk e1
    rw [hdd] at c4
    clear hsy hg h hl hr hlt hdd e1
    go_enter Tryz.func21, Tryz.ntmps21
    go_wp2_with fail
    go_ret
    rw [HE.out]
    exact ⟨rfl, LNext.same HH.out HG.out (Below.refl _ _)⟩
  | false =>
    have e1 : g.sync s = (s.sync.1, { g with dead := !(s.sync.2 == 0) }, s.sync.2) := by unfold Lg.sync; rw [hdd]; rfl
    have HE := Bx.mk e1
    rw [hdd] at c4
    have HSY := Lib.hid hsy
    clear hsy hg h hl hr hlt hdd e1
    go_enter Tryz.func21, Tryz.ntmps21
    go_wp2_with fail
    go_at_call 43
    refine HSY.out.mono ?_
    rintro e w1 ⟨rfl, hx⟩
    have hg1 := keepL HG.out HL.out hx
    have hrs := result_any w1 l d g s.sync.2 hg1
    have HX := Lib.hid hx
    have HG1 := Lib.hid hg1
    unfold ptr at hrs
    have HRS := Lib.hid hrs
    clear hx hg1 hrs
    go_wp2_with fail
    go_at_call 45
    refine HRS.out.mono ?_
    rintro e w2 ⟨rfl, hw2⟩
    have HW2 := Bx.mk hw2
    clear hw2
    go_wp2_with fail
    go_ret
    rw [HE.out]
    refine ⟨rfl, LNext.of HX.out HL.out HR.out HLT.out (w' := w2) ?_ ?_⟩
    · rw [HW2.out]; exact fr_one _ _ _ _
    · rw [HW2.out]; exact lblk_dead HG1.out _

set_option maxRecDepth 10000 in
set_option maxHeartbeats 2000000 in
theorem lappend_any (w : World) (l d : Nat) (g : Lg) (s : St) (F R : Nat → Prop) (x : B) (hg : w.heap[l]? = some (lblk g d)) (h : RepP w d s F R) (hl : ¬ F l) (hr : ¬ R l) (hn : g.name.length ≤ 900) (h1 : g.n ≤ 10000) (h2 : g.size ≤ 1000000000) (ho : s.ops.length ≤ 1000) (hx : x.length ≤ 9223372036854775807) :
    Calls Tryz.prog 20 #[ptr l, .string (bstr x)] w fun e w' => e = .returned (.int .i64 (g.append s x).2.2) ∧ LNext w w' d l (g.append s x).1 (g.append s x).2.1 F R := by
  obtain ⟨c0, c1, -, c3, c4, -⟩ := lblk_cells hg
  have hlt := lt_of_block hg
  have hsz : (bstr x).size = x.length := bstr_size x
  have HG := Lib.hid hg
  have HH := Lib.hid h
  have HL := Lib.hid hl
  have HR := Lib.hid hr
  have HLT := Lib.hid hlt
  unfold ptr at *
  cases hdd : g.dead with
  | true =>
    have e1 : g.append s x = (s, g, 28) := by unfold Lg.append; rw [hdd]; rfl
    have HE := Bx.mk e1
    rw [hdd] at c4
    clear hg h hl hr hlt hdd e1
    generalize bstr x = X at *
    go_enter Tryz.func20, Tryz.ntmps20
    go_wp2_with fail
    go_ret
    rw [HE.out]
    exact ⟨rfl, LNext.same HH.out HG.out (Below.refl _ _)⟩
  | false =>
    rw [hdd] at c4
    by_cases hbig : 65536 < x.length
    · have e1 : g.append s x = (s, g, 2) := by unfold Lg.append; rw [hdd]; simp [hbig]
      have HE := Bx.mk e1
      have t1 : decide ((x.length : Int) > 65536) = true := by rw [decide_eq_true_eq]; omega
      clear hg h hl hr hlt hdd e1
      generalize bstr x = X at *
      go_enter Tryz.func20, Tryz.ntmps20
      go_wp2_with fail
      go_ret
      rw [HE.out]
      exact ⟨rfl, LNext.same HH.out HG.out (Below.refl _ _)⟩
    · have t1 : decide ((x.length : Int) > 65536) = false := by rw [decide_eq_false_iff_not]; omega
      by_cases hmany : 4096 ≤ g.n
      · have e1 : g.append s x = (s, g, 2) := by unfold Lg.append; rw [hdd]; simp [hmany]
        have HE := Bx.mk e1
        have t2 : decide ((g.n : Int) ≥ 4096) = true := by rw [decide_eq_true_eq]; omega
        clear hg h hl hr hlt hdd e1
        generalize bstr x = X at *
        go_enter Tryz.func20, Tryz.ntmps20
        go_wp2_with fail
        go_ret
        rw [HE.out]
        exact ⟨rfl, LNext.same HH.out HG.out (Below.refl _ _)⟩
      · have t2 : decide ((g.n : Int) ≥ 4096) = false := by rw [decide_eq_false_iff_not]; omega
        have hfl := frameB_len g.n x
        obtain ⟨A, hA⟩ : ∃ y, y = s.append g.name (frameB g.n x) := ⟨_, rfl⟩
        have hnx := next_any w l d g x hg (by omega) (by omega)
        have hap := fun (W : World) (hb : Below w.heap.size w W) => append_any W d s F R g.name (frameB g.n x) (h.below hb) (by omega) (by omega) (by omega)
        have e1 : g.append s x = if A.2 = 0 then (A.1, { g with n := g.n + 1, size := g.size + (frameB g.n x).length, dead := false }, 0) else (A.1, { g with dead := true }, A.2) := by
          rw [hA]; unfold Lg.append; rw [hdd]; simp only [Bool.false_eq_true, if_false, hbig, hmany, or_self]
        rw [← hA] at hap
        have hgr := fun (W : World) (gx : Lg) (hgx : W.heap[l]? = some (lblk gx d)) (e1 : gx.n = g.n) (e2 : gx.size = g.size) => grown_any W l d gx (frameB g.n x) hgx (by omega) (by omega) (by omega)
        generalize hF0 : frameB g.n x = FB at *
        clear hF0 hA
        have HE := Bx.mk e1
        have HNX := Lib.hid hnx
        have HAP := Lib.hid hap
        have HGR := Lib.hid hgr
        clear e1 hnx hap hgr hfl
        obtain ⟨g', hg'⟩ : ∃ g' : Lg, g' = { g with dead := !(A.2 == 0) } := ⟨_, rfl⟩
        have hnm : g'.name = g.name := by rw [hg']
        have hres := fun (W : World) (hgx : W.heap[l]? = some (lblk g d)) => result_any W l d g A.2 hgx
        have HRES := Lib.hid hres
        have HG' := Bx.mk hg'
        have HNM := Bx.mk hnm
        clear hg h hl hr hlt hdd hres hg' hnm
        generalize hX : bstr x = X at *
        generalize hFS : bstr FB = Fq at *
        have HFS := Bx.mk hFS
        clear hX hFS
        unfold ptr at HNX HAP HRES HGR
        go_enter Tryz.func20, Tryz.ntmps20
        go_wp2_with fail
        go_at_call 44
        refine HNX.out.mono ?_
        rintro e w1 ⟨rfl, hb1⟩
        have HB1 := Lib.hid hb1
        have HG1 := Lib.hid ((hb1.block l HLT.out).trans HG.out)
        clear hb1 c0 c1 c3 c4
        go_wp2_with fail
        refine wp_region_spine 13 [11, 12] (ApV l d (bstr g.name) Fq A.2) (ApI w1 d l A.1 g' F R) (by kernel_rfl) (by kernel_rfl) (by rfl) (by kernel_rfl) (by decide) ⟨rfl, rfl, rfl, Nat.le_refl _, fun _ _ => rfl⟩ ApI.stable ?_ ?_
        · intro i o hi ho y w2 hk hex hN
          have hc : i = 0 ∨ i = 1 ∨ i = 2 ∨ i = 3 ∨ i = 4 ∨ i = 5 ∨ i = 6 ∨ i = 7 ∨ i = 8 ∨ i = 9 ∨ i = 10 ∨ i = 11 ∨ i = 12 := by omega
          obtain ⟨kx, hkx⟩ := hex
          obtain ⟨y0, y3⟩ := hkx.cells HG1.out HL.out HNM.out
          have HK := Lib.hid hk
          unfold ptr at y3
          simp only [List.take_succ_cons, List.take_zero, putFrom, Act.put, List.setIfInBounds_toArray, List.set_cons_succ, List.set_cons_zero, Nat.zero_add, Nat.reduceAdd]
          clear hk hkx
          rcases hc with rfl | rfl | rfl | rfl | rfl | rfl | rfl | rfl | rfl | rfl | rfl | rfl | rfl
          all_goals
            simp only [List.getElem?_cons_succ, List.getElem?_cons_zero, Option.some.injEq] at ho
            subst ho
            simp [NeedsB, Region.binds, ApV, ptr] at hN
          all_goals clear hi
          · go_wp2_with fail
            exact ⟨rfl, rfl, rfl, Below.refl _ _⟩
          · go_wp2_with fail
            exact ⟨rfl, rfl, rfl, Below.refl _ _⟩
          · go_wp2_with fail
            exact ⟨rfl, rfl, rfl, Below.refl _ _⟩
          · go_wp2_with fail
            exact ⟨rfl, rfl, rfl, Below.refl _ _⟩
          · go_wp2_with fail
            exact ⟨rfl, rfl, rfl, Below.refl _ _⟩
          · go_wp2_with fail
            exact ⟨rfl, rfl, rfl, Below.refl _ _⟩
          · go_wp2_with fail
            exact ⟨rfl, rfl, rfl, Below.refl _ _⟩
          · go_wp2_with fail
            exact ⟨rfl, rfl, rfl, Below.refl _ _⟩
          · go_wp2_with fail
            exact ⟨rfl, rfl, rfl, Below.refl _ _⟩
          · go_wp2_with fail
            exact ⟨rfl, rfl, rfl, Below.refl _ _⟩
          · go_wp2_with fail
            exact ⟨rfl, rfl, rfl, Below.refl _ _⟩
          · have hB := HK.out 0 rfl
            go_wp2_with fail
            go_at_call 46
            refine (HAP.out w2 (HB1.out.trans (Below.mono hB HB1.out.size))).mono ?_
            rintro e w3 ⟨rfl, hn1⟩
            have HN := Lib.hid (Dk.NextP.of_below (show Below w1.heap.size w1 w2 from hB) hn1)
            have HBB := Lib.hid hB
            clear hn1 hB
            go_wp2_with fail
            exact ⟨rfl, rfl, rfl, ⟨0, rfl, HBB.out, HN.out⟩⟩
          · have hB := HK.out 1 rfl
            have hgx := keepL HG1.out HL.out (show NextP w1 w2 d A.1 F R from hB)
            go_wp2_with fail
            go_at_call 45
            refine (HRES.out w2 hgx).mono ?_
            rintro e w3 ⟨rfl, hw3⟩
            have HN : Hid (LNext w1 w3 d l A.1 g' F R) := Lib.hid (LNext.of hB HL.out HR.out (by have := HLT.out; have := HB1.out.size; omega) (w' := w3) (by rw [hw3]; exact fr_one _ _ _ _) (by rw [hw3, HG'.out]; exact lblk_dead hgx _))
            have HBB := Lib.hid hB
            clear hw3 hgx hB
            go_wp2_with fail
            exact ⟨rfl, rfl, rfl, ⟨1, rfl, HBB.out, HN.out⟩⟩
        · intro y w2 hy hI
          have f12 := hy 12 (by omega)
          simp only [ApV] at f12
          simp only [List.take_succ_cons, List.take_zero, List.drop_succ_cons, List.drop_zero, putFrom, Act.put, List.setIfInBounds_toArray, List.set_cons_succ, List.set_cons_zero, Nat.zero_add, Nat.reduceAdd, f12]
          have HI : Hid (LNext w1 w2 d l A.1 g' F R) := Lib.hid hI
          clear hy hI f12
          by_cases hq : A.2 = 0
          · have t3 : (A.2 == 0) = true := by simp [hq]
            have hgx : w2.heap[l]? = some (lblk g' d) := by obtain ⟨_, _, _, _, _, _, h5⟩ := HI.out; exact h5
            have hgw := HGR.out w2 g' hgx (by rw [HG'.out]) (by rw [HG'.out])
            have HGW := Lib.hid hgw
            have HGX := Lib.hid hgx
            have HE2 := Bx.mk (show g.append s x = (A.1, { g with n := g.n + 1, size := g.size + FB.length, dead := false }, 0) by rw [HE.out, if_pos hq])
            have HQ := Bx.mk hq
            clear hgw hgx hq
            go_wp2_with fail
            go_at_call 47
            refine HGW.out.mono ?_
            rintro e w3 ⟨rfl, hw3⟩
            have HN : Hid (LNext w1 w3 d l A.1 { g' with n := g'.n + 1, size := g'.size + FB.length } F R) := Lib.hid (HI.out.write HL.out HR.out (by have := HLT.out; have := HB1.out.size; omega) (by rw [hw3]; exact fr_two _ _ _ _ _ _) (by rw [hw3]; exact lblk_grown HGX.out _ _))
            clear hw3
            go_wp2_with fail
            go_ret
            rw [HE2.out, HQ.out]
            refine ⟨rfl, LNext.of_below HB1.out ?_⟩
            have := HN.out
            rw [HG'.out, HQ.out] at this
            exact this
          · have t3 : (A.2 == 0) = false := by simp [hq]
            have HE2 := Bx.mk (show g.append s x = (A.1, { g with dead := true }, A.2) by rw [HE.out, if_neg hq])
            have HQ := Bx.mk t3
            clear hq
            go_wp2_with fail
            go_ret
            rw [HE2.out]
            refine ⟨rfl, LNext.of_below HB1.out ?_⟩
            have := HI.out
            rw [HG'.out, HQ.out] at this
            exact this
end Go.Proofs.YtbfgkcgnhgfkmaaGreat.Wl

namespace Go.Proofs.YtbfgkcgnhgfkmaaGreat.Wl
open Go Go.RowKit Go.Proofs.YtbfgkcgnhgfkmaaGreat.Slc Go.Proofs.YtbfgkcgnhgfkmaaGreat.Hs
open Go.Proofs.YtbfgkcgnhgfkmaaGreat.Dk (Fr ptr bstr bstr_size bstr_list NextP RepP St)
set_option linter.unusedVariables false
set_option linter.unusedSimpArgs false

theorem mem_nms (s : St) (n : B) (h : s.off = false) : n ∈ s.nms ↔ Dk.has s.files n = true := by
  unfold Dk.St.nms
  rw [h, if_neg (by simp), Dk.get_mem]
  have := (Ins.isort_inv (Dk.names s.files) [] List.Pairwise.nil).2
  rw [List.append_nil] at this
  exact this.mem_iff

set_option maxRecDepth 10000 in
theorem index_any (w : World) (v : Value) (l : List B) (x : B) (h : Rd w Dk.encS v l) (hl : l.length ≤ 9223372036854775807) :
    Calls Tryz.prog 62 #[v, .string (bstr x)] w fun e w' => ∃ r : Int, e = .returned (.int .i64 r) ∧ (0 ≤ r ↔ x ∈ l) ∧ w = w' := by
  obtain ⟨ad, cp, hv, -⟩ := h.form
  have HC := Lib.hid (fun hp => h.cells Dk.encS_ok hp)
  subst hv
  have HX := Lib.hid (fun y : B => show ((bstr x).toList == (bstr y).toList) = decide (x = y) by
    rw [ByteArray.toList_eq, ByteArray.toList_eq, bstr_list, bstr_list]
    by_cases q : x = y
    · rw [q]; simp
    · rw [decide_eq_false q]; simpa using q)
  clear h
  generalize bstr x = X at *
  go_enter Tryz.func62, Tryz.ntmps62
  go_wp2_with fail
  go_loop [5, 8] (fun _ i => ∃ k : Nat, k ≤ l.length ∧ i = .int .i64 (k : Int) ∧ x ∉ l.take k) (fun _ i => l.length - (intOf i).toNat)
  case atStart => exact ⟨0, by omega, rfl, by simp⟩
  case round =>
    obtain ⟨k, hk, rfl, hnot⟩ := hrel
    have HN := Lib.hid hnot
    clear hnot
    by_cases hlt : k < l.length
    · obtain ⟨b, o, c, hvf, -, -, hcell⟩ := HC.out (by omega)
      simp only [Value.slice.injEq, true_and] at hvf
      obtain ⟨rfl, rfl⟩ := hvf
      have hcl := hcell w (fun _ _ => rfl) k hlt 0 _ (by omega) rfl
      simp only [Nat.mul_one, Nat.add_zero] at hcl
      have hq := HX.out l[k]
      have HT := Lib.hid (show x ≠ l[k] → x ∉ l.take (k + 1) from fun h1 h2 => by
        rw [List.take_succ_eq_append_getElem hlt, List.mem_append, List.mem_singleton] at h2
        exact h2.elim HN.out h1)
      have HM := Lib.hid (List.getElem_mem hlt)
      clear hcell
      by_cases hxy : x = l[k]
      · rw [decide_eq_true hxy] at hq
        have HR := Lib.hid (show decide (x ∈ l) = true by rw [hxy]; exact decide_eq_true HM.out)
        clear hxy HM
        generalize bstr l[k] = Y at *
        go_wp2_with fail
        go_ret
        exact ⟨_, rfl, ⟨fun _ => of_decide_eq_true HR.out, fun _ => by omega⟩, rfl⟩
      · rw [decide_eq_false hxy] at hq
        have HT2 := Lib.hid (HT.out hxy)
        clear hxy HM
        generalize bstr l[k] = Y at *
        go_wp2_with fail
        go_round
        case rel => exact ⟨k + 1, by omega, by go_num, HT2.out⟩
        case measure => simp [intOf]; omega
    · obtain rfl : k = l.length := by omega
      have HR := Lib.hid (show decide (x ∈ l) = false by have := HN.out; rw [List.take_length] at this; exact decide_eq_false this)
      go_wp2_with fail
      go_ret
      exact ⟨_, rfl, ⟨fun q => absurd q (by decide), fun q => absurd q (of_decide_eq_false HR.out)⟩, rfl⟩
theorem contains_any (w : World) (v : Value) (l : List B) (x : B) (h : Rd w Dk.encS v l) (hl : l.length ≤ 9223372036854775807) :
    Calls Tryz.prog 40 #[v, .string (bstr x)] w fun e w' => e = .returned (.bool (decide (x ∈ l))) ∧ w = w' := by
  have HI := Lib.hid (index_any w v l x h hl)
  clear h
  generalize bstr x = X at *
  go_enter Tryz.func40, Tryz.ntmps40
  go_wp2_with fail
  go_at_call 62
  refine HI.out.mono ?_
  rintro e w' ⟨r, rfl, hr, rfl⟩
  have HR := Lib.hid hr
  clear hr
  go_wp2_with fail
  go_ret
  exact ⟨by simp [HR.out], rfl⟩
end Go.Proofs.YtbfgkcgnhgfkmaaGreat.Wl

namespace Go.Proofs.YtbfgkcgnhgfkmaaGreat.Wl
open Go Go.RowKit Go.Proofs.YtbfgkcgnhgfkmaaGreat.Slc Go.Proofs.YtbfgkcgnhgfkmaaGreat.Hs
open Go.Proofs.YtbfgkcgnhgfkmaaGreat.Dk (Fr ptr bstr bstr_size bstr_list NextP RepP St append_any sync_any rename_any remove_any)
set_option linter.unusedVariables false
set_option linter.unusedSimpArgs false

theorem lblk_zero {w : World} {l : Nat} {g : Lg} {d : Nat} (h : w.heap[l]? = some (lblk g d)) : ((w.setCell ⟨l, 1, none⟩ (.int .i64 0)).setCell ⟨l, 2, none⟩ (.int .i64 0)).heap[l]? = some (lblk { g with n := 0, size := 0 } d) :=
  lblk_grown h 0 0
set_option maxRecDepth 10000 in
set_option maxHeartbeats 2000000 in
theorem lreset_any (w : World) (l d : Nat) (g : Lg) (s : St) (F R : Nat → Prop) (x : B) (hg : w.heap[l]? = some (lblk g d)) (h : RepP w d s F R) (hl : ¬ F l) (hr : ¬ R l) (hn : g.name.length ≤ 900) (ho : s.ops.length ≤ 1000) (hx : x.length ≤ 9223372036854775807) :
    Calls Tryz.prog 25 #[ptr l, .string (bstr x)] w fun e w' => e = .returned (.int .i64 (g.reset s x).2.2) ∧ LNext w w' d l (g.reset s x).1 (g.reset s x).2.1 F R := by
  obtain ⟨c0, c1, -, c3, c4, -⟩ := lblk_cells hg
  have hlt := lt_of_block hg
  have hsz : (bstr x).size = x.length := bstr_size x
  have HG := Lib.hid hg
  have HH := Lib.hid h
  have HL := Lib.hid hl
  have HR := Lib.hid hr
  have HLT := Lib.hid hlt
  unfold ptr at *
  cases hdd : g.dead with
  | true =>
    have e1 : g.reset s x = (s, g, 28) := by unfold Lg.reset; rw [hdd]; rfl
    have HE := Bx.mk e1
    rw [hdd] at c4
    clear hg h hl hr hlt hdd e1
    generalize bstr x = X at *
    go_enter Tryz.func25, Tryz.ntmps25
    go_wp2_with fail
    go_ret
    rw [HE.out]
    exact ⟨rfl, LNext.same HH.out HG.out (Below.refl _ _)⟩
  | false =>
    rw [hdd] at c4
    by_cases hbig : 65536 < x.length
    · have e1 : g.reset s x = (s, g, 2) := by unfold Lg.reset; rw [hdd]; simp [hbig]
      have HE := Bx.mk e1
      have t1 : decide ((x.length : Int) > 65536) = true := by rw [decide_eq_true_eq]; omega
      clear hg h hl hr hlt hdd e1
      generalize bstr x = X at *
      go_enter Tryz.func25, Tryz.ntmps25
      go_wp2_with fail
      go_ret
      rw [HE.out]
      exact ⟨rfl, LNext.same HH.out HG.out (Below.refl _ _)⟩
    · have t1 : decide ((x.length : Int) > 65536) = false := by rw [decide_eq_false_iff_not]; omega
      have hfl := frameB_len 0 x
      have hfr := frame_any 0 x w (by omega) (by omega)
      rw [show ((0 : Nat) : Int) = 0 from rfl] at hfr
      obtain ⟨A, hA⟩ : ∃ y, y = replace s g.name (frameB 0 x) := ⟨_, rfl⟩
      have hap := fun (W : World) (hb : Below w.heap.size w W) => replace_any W l d g s F R (frameB 0 x) ((hb.block l hlt).trans hg) (h.below hb) hl hn (by omega) ho
      have e1 : g.reset s x = if A.2 = 0 then (A.1, { g with n := 1, size := (frameB 0 x).length, dead := false }, 0) else (A.1, { g with dead := true }, A.2) := by
        rw [hA]; unfold Lg.reset; rw [hdd]; simp only [Bool.false_eq_true, if_false, hbig]
      rw [← hA] at hap
      have hgr := fun (W : World) (gx : Lg) (hgx : W.heap[l]? = some (lblk gx d)) (e1 : gx.n = 0) (e2 : gx.size = 0) => grown_any W l d gx (frameB 0 x) hgx (by omega) (by omega) (by omega)
      generalize hF0 : frameB 0 x = FB at *
      clear hF0 hA
      have HE := Bx.mk e1
      have HFR := Lib.hid hfr
      have HAP := Lib.hid hap
      have HGR := Lib.hid hgr
      obtain ⟨g', hg'⟩ : ∃ g' : Lg, g' = { g with dead := !(A.2 == 0) } := ⟨_, rfl⟩
      have HG' := Bx.mk hg'
      have hres := fun (W : World) (hgx : W.heap[l]? = some (lblk g d)) => result_any W l d g A.2 hgx
      have HRES := Lib.hid hres
      clear e1 hfr hap hgr hfl hg h hl hr hlt hdd hres hg'
      generalize bstr x = X at *
      generalize bstr FB = Fq at *
      unfold ptr at HAP HRES HGR
      go_enter Tryz.func25, Tryz.ntmps25
      go_wp2_with fail
      go_at_call 55
      refine HFR.out.mono ?_
      rintro e w1 ⟨rfl, hb1⟩
      have HB1 := Lib.hid hb1
      have hrp := HAP.out w1 hb1
      have HG1 := Lib.hid ((hb1.block l HLT.out).trans HG.out)
      have HRP := Lib.hid hrp
      clear hb1 c0 c1 c3 c4 hrp
      go_wp2_with fail
      go_at_call 42
      refine HRP.out.mono ?_
      rintro e w2 ⟨rfl, hn2⟩
      have hgx := keepL HG1.out HL.out hn2
      have hrs := HRES.out w2 hgx
      have HN2 := Lib.hid hn2
      have HGX := Lib.hid hgx
      have HRS := Lib.hid hrs
      clear hn2 hgx hrs
      go_wp2_with fail
      go_at_call 45
      refine HRS.out.mono ?_
      rintro e w3 ⟨rfl, hw3⟩
      have hg3 : w3.heap[l]? = some (lblk g' d) := by rw [hw3, HG'.out]; exact lblk_dead HGX.out _
      have HN : Hid (LNext w1 w3 d l A.1 g' F R) := Lib.hid (LNext.of HN2.out HL.out HR.out (by have := HLT.out; have := HB1.out.size; omega) (w' := w3) (by rw [hw3]; exact fr_one _ _ _ _) hg3)
      obtain ⟨-, k1, k2, -, -, kf⟩ := lblk_cells hg3
      have f1 := kf 1
      have f2 := kf 2
      have hl3 := lt_of_block hg3
      have HG3 := Lib.hid hg3
      clear hw3 hg3 kf
      by_cases hq : A.2 = 0
      · have t3 : (A.2 == 0) = true := by simp [hq]
        have hgw := HGR.out _ _ (lblk_zero HG3.out) rfl rfl
        have HGW := Lib.hid hgw
        have HE2 := Bx.mk (show g.reset s x = (A.1, { g with n := 1, size := FB.length, dead := false }, 0) by rw [HE.out, if_pos hq])
        have HQ := Bx.mk hq
        have HW4 := Bx.mk (show (w3.setCell ⟨l, 1, none⟩ (.int .i64 0)).setCell ⟨l, 2, none⟩ (.int .i64 0) = (w3.setCell ⟨l, 1, none⟩ (.int .i64 0)).setCell ⟨l, 2, none⟩ (.int .i64 0) from rfl)
        clear hgw hq
        go_wp2_with fail
        go_at_call 47
        refine HGW.out.mono ?_
        rintro e w4 ⟨rfl, hw4⟩
        have HN4 : Hid (LNext w1 w4 d l A.1 { g' with n := 0 + 1, size := 0 + FB.length } F R) := Lib.hid (HN.out.write HL.out HR.out (by have := HLT.out; have := HB1.out.size; omega) (by rw [hw4]; exact (fr_two _ _ _ _ _ _).trans (fr_two _ _ _ _ _ _) fun k q => .inl q) (by rw [hw4]; exact lblk_grown (lblk_zero HG3.out) _ _))
        clear hw4
        go_wp2_with fail
        go_ret
        rw [HE2.out, HQ.out]
        refine ⟨rfl, LNext.of_below HB1.out ?_⟩
        have := HN4.out
        rw [HG'.out, HQ.out, Nat.zero_add, Nat.zero_add] at this
        exact this
      · have t3 : (A.2 == 0) = false := by simp [hq]
        have HE2 := Bx.mk (show g.reset s x = (A.1, { g with dead := true }, A.2) by rw [HE.out, if_neg hq])
        have HQ := Bx.mk t3
        clear hq
        go_wp2_with fail
        go_ret
        rw [HE2.out]
        refine ⟨rfl, LNext.of_below HB1.out ?_⟩
        have := HN.out
        rw [HG'.out, HQ.out] at this
        exact this
end Go.Proofs.YtbfgkcgnhgfkmaaGreat.Wl
