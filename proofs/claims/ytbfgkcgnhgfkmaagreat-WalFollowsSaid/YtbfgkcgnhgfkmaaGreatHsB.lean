/-
  The words of the hash.
-/
/-
  One block of the hash.
-/
import Derived.Test.YtbfgkcgnhgfkmaaGreatProg
import Derived.Test.YtbfgkcgnhgfkmaaGreatSlc
import Derived.Test.YtbfgkcgnhgfkmaaGreatHsPlain
import Derived.WalkKit
import Derived.BigQuiet
import Derived.Deep.QuietTactic
import Derived.Deep.WholeRow
import Derived.Outline
import Derived.Great.BuildSlice
import Derived.Test.YtbfgkcgnhgfkmaaGreatFactsB
import Derived.StillTailTactics
import Derived.BigRegion
import Derived.IntWalk
namespace Go.Proofs.YtbfgkcgnhgfkmaaGreat.Hs
open Go Go.RowKit
set_option linter.unusedVariables false
set_option linter.unusedSimpArgs false

theorem quiet_add_same {P : Program} {f : FuncId} {args : Array Value} {w : World} {a n : Nat} {v : Value}
    (h : Calls P f args (w.drewN (a + n)) fun e w' => e = .returned v ∧ w' = w.drewN (a + n)) :
    Calls P f args (w.drewN (a + n)) fun e w'' => e = .returned v ∧ ∃ m, w'' = w.drewN (a + m) :=
  h.mono fun _ _ ⟨he, hm⟩ => ⟨he, n, hm⟩
theorem turn_any (x n : Int) (w : World) (hn0 : 1 ≤ n) (hn1 : n ≤ 31) :
    Calls Tryz.prog 103 #[.int .u32 x, .int .u64 n] w fun e w' => e = .returned (.int .u32 (turnZ x n)) ∧ w' = w := by
  go_enter Tryz.func103, Tryz.ntmps103
  go_wp2
  go_ret
  exact ⟨rfl, rfl⟩

theorem initial_any (w : World) : Calls Tryz.prog 95 #[] w fun e w' => e = .returned (.agg (h0s.map wd).toArray) ∧ Below w.heap.size w w' := by
  go_enter Tryz.func95, Tryz.ntmps95
  go_wp2
  refine bodyPost_ret (v := .agg (h0s.map wd).toArray) (by simp [results, Tryz.results95, go_sem, h0s, wd]) rfl ⟨rfl, ?_⟩
  exact (Below.refl _ _).alloc (Nat.le_refl _) _

set_option maxRecDepth 100000 in
theorem rounds_any (w : World) : Calls Tryz.prog 104 #[] w fun e w' => e = .returned (.agg (ks.map wd).toArray) ∧ Below w.heap.size w w' := by
  go_enter Tryz.func104, Tryz.ntmps104
  go_wp2_with (first
    | (refine wpList_buildFlatArr rfl 127 110 64 _ rfl .u32 ks Tryz.underlying127 (by kernel_rfl) (by kernel_rfl) (by kernel_rfl) ?_)
    | (refine wpList_store_row rfl 127 _ _ rfl w.heap.size (ks.map wd).toArray rfl rfl 127 (Array.replicate 64 (.int .u32 0)) (heap_alloc_new _ _) (by kernel_rfl) (by kernel_rfl) (by kernel_rfl) ?_))
  rw [World.setRow_alloc_new]
  refine bodyPost_ret (v := .agg (ks.map wd).toArray) ?_ rfl ⟨rfl, (Below.refl _ _).alloc (Nat.le_refl _) _⟩
  exact results_cell_row rfl _ _ w.heap.size 127 _ (0, 0) _ rfl (heap_alloc_new _ _) Tryz.underlying127 rfl (by kernel_rfl)
end Go.Proofs.YtbfgkcgnhgfkmaaGreat.Hs

namespace Go.Proofs.YtbfgkcgnhgfkmaaGreat.Hs
open Go Go.RowKit Go.Proofs.YtbfgkcgnhgfkmaaGreat.Slc
set_option linter.unusedVariables false
set_option linter.unusedSimpArgs false

def encU (c : UInt8) : List Value := [.int .u8 (c.toNat : Int)]
theorem encU_ok : Enc 1 encU := ⟨fun c => rfl, fun c u hu => by simp [encU] at hu; subst hu; rfl, by decide⟩

/-- what the blocks of the call hold -/
structure Blk (w wr : World) (h W : List Int) : Prop where
  b2 : wr.heap[w.heap.size]? = some (.cells (h.map wd).toArray 129 (0, 0))
  b4 : wr.heap[w.heap.size + 1]? = some (.cells ((zs 8).map wd).toArray 129 (0, 0))
  b5 : wr.heap[w.heap.size + 1 + 1]? = some (.cells (W.map wd).toArray 127 (0, 0))
  sz : w.heap.size + 3 ≤ wr.heap.size
  bel : Below w.heap.size w wr
theorem Blk.start (w : World) (h : List Int) : Blk w (((w.alloc (.cells (h.map wd).toArray 129)).alloc (.cells ((zs 8).map wd).toArray 129)).alloc (.cells ((zs 64).map wd).toArray 127)) h (zs 64) := by
  have s1 : (w.alloc (.cells (h.map wd).toArray 129)).heap.size = w.heap.size + 1 := by simp
  have s2 : ((w.alloc (.cells (h.map wd).toArray 129)).alloc (.cells ((zs 8).map wd).toArray 129)).heap.size = w.heap.size + 1 + 1 := by simp
  refine ⟨?_, ?_, ?_, ?_, ?_⟩
  · rw [heap_alloc_old _ _ (by simp; omega), heap_alloc_old _ _ (by simp)]; exact heap_alloc_new _ _
  · rw [heap_alloc_old _ _ (by simp)]; rw [← s1]; exact heap_alloc_new _ _
  · rw [← s2]; exact heap_alloc_new _ _
  · simp
  · exact (((Below.refl _ _).alloc (Nat.le_refl _) _).alloc (by simp) _).alloc (by simp; omega) _
theorem Blk.cell {w wr : World} {h W : List Int} (b : Blk w wr h W) (k : Nat) (hk : k < W.length) : wr.cell? ⟨w.heap.size + 1 + 1, k, none⟩ = some (.int .u32 W[k]) := by
  rw [cell_of_row _ _ k _ _ _ b.b5]; simp [hk, wd]
theorem Blk.free {w wr : World} {h W : List Int} (b : Blk w wr h W) (k : Nat) : wr.frozen? ⟨w.heap.size + 1 + 1, k, none⟩ = false := frozen_of_row _ _ k _ _ b.b5
theorem Blk.set {w wr : World} {h W : List Int} (b : Blk w wr h W) (k : Nat) (x : Int) : Blk w (wr.setCell ⟨w.heap.size + 1 + 1, k, none⟩ (.int .u32 x)) h (W.set k x) := by
  refine ⟨?_, ?_, ?_, ?_, ?_⟩
  · rw [heap_setCell_other _ _ _ _ (by simp; omega)]; exact b.b2
  · rw [heap_setCell_other _ _ _ _ (by simp)]; exact b.b4
  · rw [heap_setCell_same _ _ _ _ _ _ b.b5]; simp [wd, List.map_set]
  · have := b.sz; simpa [World.setCell] using this
  · exact b.bel.setCell (by simp; omega) _
theorem Blk.drewN {w wr : World} {h W : List Int} (b : Blk w wr h W) (n : Nat) : Blk w (wr.drewN n) h W := ⟨b.b2, b.b4, b.b5, b.sz, ⟨b.bel.os, b.bel.tape, b.bel.output, b.bel.size, b.bel.block⟩⟩
theorem Blk.drew {w wr : World} {h W : List Int} (b : Blk w wr h W) : Blk w wr.drew h W := ⟨b.b2, b.b4, b.b5, b.sz, ⟨b.bel.os, b.bel.tape, b.bel.output, b.bel.size, b.bel.block⟩⟩

theorem Blk.below {w wr w1 : World} {h W : List Int} (b : Blk w wr h W) (hb : Below wr.heap.size wr w1) : Blk w w1 h W :=
  ⟨(hb.block _ (lt_of_block b.b2)).trans b.b2, (hb.block _ (lt_of_block b.b4)).trans b.b4, (hb.block _ (lt_of_block b.b5)).trans b.b5, Nat.le_trans b.sz hb.size, b.bel.trans (hb.mono (Nat.le_trans (by omega) b.sz))⟩
/-- .. and the constants and the state of the rounds -/
structure Bl3 (w wr : World) (h W v : List Int) (g k : Nat) : Prop where
  b : Blk w wr h W
  bg : wr.heap[g]? = some (.cells (ks.map wd).toArray 127 (0, 0))
  bk : wr.heap[k]? = some (.cells (v.map wd).toArray 129 (0, 0))
  hg : w.heap.size + 3 ≤ g
  hk : g < k
theorem Bl3.start {w wr : World} {h W : List Int} (b : Blk w wr h W) : Bl3 w ((wr.alloc (.cells (ks.map wd).toArray 127)).alloc (.cells (h.map wd).toArray 129)) h W h wr.heap.size (wr.heap.size + 1) := by
  have s1 : (wr.alloc (.cells (ks.map wd).toArray 127)).heap.size = wr.heap.size + 1 := by simp
  refine ⟨b.below (((Below.refl _ _).alloc (Nat.le_refl _) _).alloc (by simp) _), ?_, ?_, b.sz, by omega⟩
  · rw [heap_alloc_old _ _ (by simp)]; exact heap_alloc_new _ _
  · rw [← s1]; exact heap_alloc_new _ _
theorem Bl3.drewN {w wr : World} {h W v : List Int} {g k : Nat} (b : Bl3 w wr h W v g k) (n : Nat) : Bl3 w (wr.drewN n) h W v g k := ⟨b.b.drewN n, b.bg, b.bk, b.hg, b.hk⟩
theorem Bl3.row {w wr : World} {h W v v' : List Int} {g k : Nat} (b : Bl3 w wr h W v g k) : Bl3 w (wr.setRow k (v'.map wd).toArray) h W v' g k := by
  have hsz : (wr.setRow k (v'.map wd).toArray).heap.size = wr.heap.size := by simp [World.setRow]
  have ho : ∀ j, j ≠ k → (wr.setRow k (v'.map wd).toArray).heap[j]? = wr.heap[j]? := by
    intro j hj
    simp only [World.setRow]
    rw [Array.getElem?_modify, if_neg (fun e => hj e.symm)]
  have hg := b.hg
  have hk := b.hk
  refine ⟨⟨(ho _ (by omega)).trans b.b.b2, (ho _ (by omega)).trans b.b.b4, (ho _ (by omega)).trans b.b.b5, by rw [hsz]; exact b.b.sz, ?_⟩, (ho _ (by omega)).trans b.bg, ?_, b.hg, b.hk⟩
  · exact ⟨b.b.bel.os, b.b.bel.tape, b.b.bel.output, by rw [hsz]; exact b.b.bel.size, fun j hj => (ho j (by omega)).trans (b.b.bel.block j hj)⟩
  · simp only [World.setRow]
    rw [Array.getElem?_modify, if_pos rfl, b.bk]
    rfl
theorem Bl3.set {w wr : World} {h W v : List Int} {g k : Nat} (b : Bl3 w wr h W v g k) (i : Nat) (x : Int) : Bl3 w (wr.setCell ⟨k, i, none⟩ (.int .u32 x)) h W (v.set i x) g k := by
  have ho : ∀ j, j ≠ k → (wr.setCell ⟨k, i, none⟩ (.int .u32 x)).heap[j]? = wr.heap[j]? := fun j hj => heap_setCell_other _ _ _ _ hj
  have hg := b.hg
  have hk := b.hk
  refine ⟨⟨(ho _ (by omega)).trans b.b.b2, (ho _ (by omega)).trans b.b.b4, (ho _ (by omega)).trans b.b.b5, by have := b.b.sz; simpa using this, b.b.bel.setCell (by simp; omega) _⟩, (ho _ (by omega)).trans b.bg, ?_, b.hg, b.hk⟩
  rw [heap_setCell_same _ _ _ _ _ _ b.bk]; simp [wd, List.map_set]
theorem Bl3.all8 {w wr : World} {h W v : List Int} {g k : Nat} (b : Bl3 w wr h W v g k) (hv : v.length = 8) (a0 a1 a2 a3 a4 a5 a6 a7 : Int) : Bl3 w ((((((((wr.setCell ⟨k, 0, none⟩ (.int .u32 a0)).setCell ⟨k, 1, none⟩ (.int .u32 a1)).setCell ⟨k, 2, none⟩ (.int .u32 a2)).setCell ⟨k, 3, none⟩ (.int .u32 a3)).setCell ⟨k, 4, none⟩ (.int .u32 a4)).setCell ⟨k, 5, none⟩ (.int .u32 a5)).setCell ⟨k, 6, none⟩ (.int .u32 a6)).setCell ⟨k, 7, none⟩ (.int .u32 a7)) h W [a0, a1, a2, a3, a4, a5, a6, a7] g k := by
  have := ((((((((b.set 0 a0).set 1 a1).set 2 a2).set 3 a3).set 4 a4).set 5 a5).set 6 a6).set 7 a7)
  rwa [set8 v hv] at this
theorem rowset {wr : World} {k : Nat} {L : List Int} {t : TypeId} (h : wr.heap[k]? = some (.cells (L.map wd).toArray t (0, 0))) (i : Nat) (x : Int) : (wr.setCell ⟨k, i, none⟩ (.int .u32 x)).heap[k]? = some (.cells ((L.set i x).map wd).toArray t (0, 0)) := by
  rw [heap_setCell_same _ _ _ _ _ _ h]; simp [wd, List.map_set]
theorem row_all8 {wr : World} {k : Nat} {L : List Int} {t : TypeId} (h : wr.heap[k]? = some (.cells (L.map wd).toArray t (0, 0))) (hL : L.length = 8) (a0 a1 a2 a3 a4 a5 a6 a7 : Int) :
    ((((((((wr.setCell ⟨k, 0, none⟩ (.int .u32 a0)).setCell ⟨k, 1, none⟩ (.int .u32 a1)).setCell ⟨k, 2, none⟩ (.int .u32 a2)).setCell ⟨k, 3, none⟩ (.int .u32 a3)).setCell ⟨k, 4, none⟩ (.int .u32 a4)).setCell ⟨k, 5, none⟩ (.int .u32 a5)).setCell ⟨k, 6, none⟩ (.int .u32 a6)).setCell ⟨k, 7, none⟩ (.int .u32 a7)).heap[k]? = some (.cells ([a0, a1, a2, a3, a4, a5, a6, a7].map wd).toArray t (0, 0)) := by
  have := (rowset (rowset (rowset (rowset (rowset (rowset (rowset (rowset h 0 a0) 1 a1) 2 a2) 3 a3) 4 a4) 5 a5) 6 a6) 7 a7)
  rwa [set8 L hL] at this
theorem below_all8 {w wr : World} {B k : Nat} (h : Below B w wr) (hk : B ≤ k) (a0 a1 a2 a3 a4 a5 a6 a7 : Int) : Below B w ((((((((wr.setCell ⟨k, 0, none⟩ (.int .u32 a0)).setCell ⟨k, 1, none⟩ (.int .u32 a1)).setCell ⟨k, 2, none⟩ (.int .u32 a2)).setCell ⟨k, 3, none⟩ (.int .u32 a3)).setCell ⟨k, 4, none⟩ (.int .u32 a4)).setCell ⟨k, 5, none⟩ (.int .u32 a5)).setCell ⟨k, 6, none⟩ (.int .u32 a6)).setCell ⟨k, 7, none⟩ (.int .u32 a7)) :=
  (((((((h.setCell hk _).setCell hk _).setCell hk _).setCell hk _).setCell hk _).setCell hk _).setCell hk _).setCell hk _
theorem row_cell {wr : World} {g : Nat} {L : List Int} {t : TypeId} (h : wr.heap[g]? = some (.cells (L.map wd).toArray t (0, 0))) (k : Nat) (hk : k < L.length) : wr.cell? ⟨g, k, none⟩ = some (.int .u32 (L.getD k 0)) := by
  rw [cell_of_row _ _ k _ _ _ h, List.getD_eq_getElem?_getD, List.getElem?_eq_getElem hk]; simp [hk, wd]

set_option maxRecDepth 100000 in
set_option maxHeartbeats 2000000 in
theorem block_any (w : World) (h : List Int) (v : Value) (l : B) (hh : h.length = 8) (hv : Rd w encU v l) (hl : l.length = 64) :
    Calls Tryz.prog 96 #[.agg (h.map wd).toArray, v] w fun e w' => e = .returned (.agg ((blockZ h l).map wd).toArray) ∧ Below w.heap.size w w' := by
  obtain ⟨bb, o, cc, rfl, hcc, hbb, hcell⟩ := hv.cells encU_ok (by omega)
  obtain ⟨x0, x1, x2, x3, x4, x5, x6, x7, rfl⟩ : ∃ x0 x1 x2 x3 x4 x5 x6 x7, h = [x0, x1, x2, x3, x4, x5, x6, x7] := by
    rcases h with _ | ⟨x0, _ | ⟨x1, _ | ⟨x2, _ | ⟨x3, _ | ⟨x4, _ | ⟨x5, _ | ⟨x6, _ | ⟨x7, _ | ⟨x8, t⟩⟩⟩⟩⟩⟩⟩⟩⟩ <;> simp at hh
    exact ⟨x0, x1, x2, x3, x4, x5, x6, x7, rfl⟩
  rw [hl]
  have HC := Lib.hid hcell
  have HV := Lib.hid hv
  have HL := Lib.hid hl
  have HS := Lib.hid (Blk.start w [x0, x1, x2, x3, x4, x5, x6, x7])
  clear hcell hh hv hl hcc
  obtain ⟨RES, hRES⟩ : ∃ R, R = blockZ [x0, x1, x2, x3, x4, x5, x6, x7] l := ⟨_, rfl⟩
  rw [← hRES]
  obtain ⟨RV, hRV⟩ : ∃ R : Value, R = .agg (RES.map wd).toArray := ⟨_, rfl⟩
  rw [← hRV]
  have HRES := Bx.mk hRES
  have HRV := Bx.mk hRV
  clear hRES hRV
  simp only [List.map_cons, List.map_nil, wd]
  go_enter Tryz.func96, Tryz.ntmps96
  go_wp2
  go_loopw [6] (fun i wr => ∃ k : Nat, k ≤ 16 ∧ i = .int .i64 (k : Int) ∧ Blk w wr [x0, x1, x2, x3, x4, x5, x6, x7] (W1 l k)) (fun i _ => 16 - (intOf i).toNat)
  case atStart => exact ⟨0, by omega, rfl, HS.out⟩
  case round =>
    obtain ⟨k, hk, rfl, hb⟩ := hrel
    by_cases hlt : k < 16
    · have hby : ∀ j, j < 64 → wr.cell? ⟨bb, o + j, none⟩ = some (.int .u8 (byZ l j)) := by
        intro j hj
        have := HC.out wr (fun z hz => hb.bel.block z (by simp [Value.ownBlock] at hz; omega)) j (by rw [HL.out]; exact hj) 0 _ (by omega) rfl
        rw [show o + (j * 1 + 0) = o + j by omega] at this
        rw [this, byZ, List.getD_eq_getElem?_getD, List.getElem?_eq_getElem (by rw [HL.out]; exact hj)]
        rfl
      have c0 := hby (4 * k) (by omega)
      have c1 := hby (4 * k + 1) (by omega)
      have c2 := hby (4 * k + 2) (by omega)
      have c3 := hby (4 * k + 3) (by omega)
      obtain ⟨y0, z0⟩ := byZ_bd l (4 * k)
      obtain ⟨y1, z1⟩ := byZ_bd l (4 * k + 1)
      obtain ⟨y2, z2⟩ := byZ_bd l (4 * k + 2)
      obtain ⟨y3, z3⟩ := byZ_bd l (4 * k + 3)
      have d0 := hb.cell k (by rw [W1_len]; omega)
      have d1 := hb.free k
      have d2 : w.heap.size + 1 + 1 < wr.heap.size := by have := hb.sz; omega
      have HB := Lib.hid ((hb.set k (wordZ (byZ l (4 * k)) (byZ l (4 * k + 1)) (byZ l (4 * k + 2)) (byZ l (4 * k + 3)))).drew)
      have HW := Lib.hid (show W1 l (k + 1) = (W1 l k).set k (wordZ (byZ l (4 * k)) (byZ l (4 * k + 1)) (byZ l (4 * k + 2)) (byZ l (4 * k + 3))) from rfl)
      clear hb hby
      generalize byZ l (4 * k) = a0 at *
      generalize byZ l (4 * k + 1) = a1 at *
      generalize byZ l (4 * k + 2) = a2 at *
      generalize byZ l (4 * k + 3) = a3 at *
      go_wp2_with fail
      go_region
      go_wp2
      go_roundw
      case rel => exact ⟨k + 1, by omega, by go_num, by rw [HW.out]; exact HB.out⟩
      case measure => simp [intOf]; omega
    · obtain rfl : k = 16 := by omega
      have HB1 := Lib.hid hb
      have HM := Lib.hid (W1_len l 16)
      clear hb
      generalize hME : W1 l 16 = M at *
      have HME := Bx.mk hME
      clear hME
      obtain ⟨wo, rfl⟩ : ∃ wo : World, wo = wr := ⟨_, rfl⟩
      go_wp2
      go_loopw [7, 8, 9] (fun i _ _ wr => ∃ k : Nat, k ≤ 48 ∧ i = .int .i64 ((16 + k : Nat) : Int) ∧ Blk w wr [x0, x1, x2, x3, x4, x5, x6, x7] (W2 M k)) (fun i _ _ _ => 64 - (intOf i).toNat)
      case atStart => exact ⟨0, by omega, rfl, HB1.out⟩
      case round =>
        obtain ⟨k, hk, rfl, hb⟩ := hrel
        by_cases hlt : k < 48
        · have hM := W2_len M HM.out k
          have cc : ∀ j, j < 64 → wr.cell? ⟨w.heap.size + 1 + 1, j, none⟩ = some (.int .u32 ((W2 M k).getD j 0)) := by
            intro j hj
            rw [hb.cell j (by omega), List.getD_eq_getElem?_getD, List.getElem?_eq_getElem (by omega)]; rfl
          have c0 := cc k (by omega)
          have c1 := cc (k + 1) (by omega)
          have c2 := cc (k + 9) (by omega)
          have c3 := cc (k + 14) (by omega)
          have d0 := cc (16 + k) (by omega)
          have d1 := hb.free (16 + k)
          have d2 : w.heap.size + 1 + 1 < wr.heap.size := by have := hb.sz; omega
          clear cc
          have HB := Lib.hid hb
          have HW := Lib.hid (show W2 M (k + 1) = (W2 M k).set (16 + k) (((W2 M k).getD k 0 + sigA ((W2 M k).getD (k + 1) 0) + (W2 M k).getD (k + 9) 0 + sigB ((W2 M k).getD (k + 14) 0)) % 4294967296) from rfl)
          clear hb hM
          generalize (W2 M k).getD k 0 = a0 at *
          generalize (W2 M k).getD (k + 1) 0 = a1 at *
          generalize (W2 M k).getD (k + 9) 0 = a2 at *
          generalize (W2 M k).getD (k + 14) 0 = a3 at *
          generalize (W2 M k).getD (16 + k) 0 = a4 at *
          obtain ⟨x, hx⟩ : ∃ x : Int, x = ((16 + k : Nat) : Int) := ⟨_, rfl⟩
          rw [← hx]
          have xa : 16 ≤ x := by omega
          have xb : x < 64 := by omega
          have e0 : (x - 16).toNat = k := by omega
          have e1 : (x - 15).toNat = k + 1 := by omega
          have e2 : (x - 7).toNat = k + 9 := by omega
          have e3 : (x - 2).toNat = k + 14 := by omega
          have e4 : x.toNat = 16 + k := by omega
          have HX := Lib.hid hx
          clear hx
          have v0 : IntKind.i64.wrap (x - 16) = x - 16 := IntWalk.i64_in _ (by omega)
          have v1 : IntKind.i64.wrap (x - 15) = x - 15 := IntWalk.i64_in _ (by omega)
          have v2 : IntKind.i64.wrap (x - 7) = x - 7 := IntWalk.i64_in _ (by omega)
          have v3 : IntKind.i64.wrap (x - 2) = x - 2 := IntWalk.i64_in _ (by omega)
          have u0 : 0 ≤ x - 16 := by omega
          have u1 : 0 ≤ x - 15 := by omega
          have u2 : 0 ≤ x - 7 := by omega
          have u3 : 0 ≤ x - 2 := by omega
          have u4 : 0 ≤ x := by omega
          have p1 : 15 ≤ x := by omega
          have p2 : 7 ≤ x := by omega
          have p3 : 2 ≤ x := by omega
          have r0 : x - 16 < 64 := by omega
          have r1 : x - 15 < 64 := by omega
          have r2 : x - 7 < 64 := by omega
          have r3 : x - 2 < 64 := by omega
          go_wp2_with fail
          go_quiet ((go_at_call 103; exact Calls.quiet_of_same (turn_any _ _ _ (by omega) (by omega))))
          go_wp2_with fail
          go_quiet ((go_at_call 103; exact quiet_add_same (turn_any _ _ _ (by omega) (by omega))))
          go_wp2_with fail
          go_region
          go_wp2
          go_roundw
          case rel => exact ⟨k + 1, by omega, by rw [HX.out]; go_num, by rw [HW.out]; exact (HB.out.drewN _).set (16 + k) _⟩
          case measure => rw [HX.out]; simp [intOf]; omega
        · obtain rfl : k = 48 := by omega
          have HB2 := Lib.hid hb
          have HN := Lib.hid (W2_len M HM.out 48)
          have hb2 := hb.b2
          clear hb
          generalize hNE : W2 M 48 = N at *
          have HNE := Bx.mk hNE
          clear hNE
          obtain ⟨wo2, rfl⟩ : ∃ wo : World, wo = wr := ⟨_, rfl⟩
          go_wp2_with fail
          go_at_call 104
          refine (rounds_any _).mono ?_
          rintro e w1 ⟨rfl, hb1⟩
          have HB3 := Lib.hid (Bl3.start (HB2.out.below hb1))
          have hb2' := (hb1.block _ (lt_of_block hb2)).trans hb2
          have hlt2 := lt_of_block hb2'
          simp only [List.map_cons, List.map_nil, wd] at hb2'
          clear hb1 hb2
          generalize hks : (ks.map wd).toArray = KS at *
          go_wp2_with (first
            | (refine wpList_store_row rfl 127 _ _ rfl w1.heap.size KS rfl rfl 127 (Array.replicate 64 (.int .u32 0)) (heap_alloc_new _ _) (by rw [← hks]; kernel_rfl) (by rw [← hks]; kernel_rfl) (by rw [← hks]; kernel_rfl) ?_; rw [World.setRow_alloc_new])
            | (refine wpList_load_row rfl 129 _ rfl w.heap.size rfl 129 _ (0, 0) _ ((heap_alloc_old _ _ hlt2).trans hb2') Tryz.underlying129 rfl (by kernel_rfl) ?_))
          generalize hg : w1.heap.size = g at *
          have HB4 := Lib.hid (show Bl3 w ((w1.alloc (.cells KS 127)).alloc (.cells #[.int .u32 x0, .int .u32 x1, .int .u32 x2, .int .u32 x3, .int .u32 x4, .int .u32 x5, .int .u32 x6, .int .u32 x7] 129)) [x0, x1, x2, x3, x4, x5, x6, x7] N (R8 [x0, x1, x2, x3, x4, x5, x6, x7] N 0) g (g + 1) from by
            have := HB3.out
            simp only [List.map_cons, List.map_nil, wd] at this
            exact this)
          go_loopw [12, 13, 14, 15, 16, 17] (fun i _ _ _ _ _ wr => ∃ k : Nat, k ≤ 64 ∧ i = .int .i64 (k : Int) ∧ Bl3 w wr [x0, x1, x2, x3, x4, x5, x6, x7] N (R8 [x0, x1, x2, x3, x4, x5, x6, x7] N k) g (g + 1)) (fun i _ _ _ _ _ _ => 64 - (intOf i).toNat)
          case atStart => exact ⟨0, by omega, rfl, HB4.out⟩
          case round =>
            obtain ⟨k, hk, rfl, hb⟩ := hrel
            by_cases hlt : k < 64
            · have hR := R8_len [x0, x1, x2, x3, x4, x5, x6, x7] N rfl k
              have cK := row_cell hb.bg k (by show k < 64; omega)
              have cW := row_cell hb.b.b5 k (by rw [HN.out]; omega)
              have c0 := row_cell hb.bk 0 (by omega)
              have c1 := row_cell hb.bk 1 (by omega)
              have c2 := row_cell hb.bk 2 (by omega)
              have c3 := row_cell hb.bk 3 (by omega)
              have c4 := row_cell hb.bk 4 (by omega)
              have c5 := row_cell hb.bk 5 (by omega)
              have c6 := row_cell hb.bk 6 (by omega)
              have c7 := row_cell hb.bk 7 (by omega)
              have HB := Lib.hid hb
              have HR := Lib.hid hR
              have f0 := frozen_of_row _ _ 0 _ _ hb.bk
              have f1 := frozen_of_row _ _ 1 _ _ hb.bk
              have f2 := frozen_of_row _ _ 2 _ _ hb.bk
              have f3 := frozen_of_row _ _ 3 _ _ hb.bk
              have f4 := frozen_of_row _ _ 4 _ _ hb.bk
              have f5 := frozen_of_row _ _ 5 _ _ hb.bk
              have f6 := frozen_of_row _ _ 6 _ _ hb.bk
              have f7 := frozen_of_row _ _ 7 _ _ hb.bk
              have es := (show R8 [x0, x1, x2, x3, x4, x5, x6, x7] N (k + 1) = step8 (R8 [x0, x1, x2, x3, x4, x5, x6, x7] N k) (ks.getD k 0) (N.getD k 0) from rfl)
              rw [step8] at es
              have HS8 := Lib.hid es
              clear es
              clear hb hR
              generalize R8 [x0, x1, x2, x3, x4, x5, x6, x7] N k = V at *
              generalize V.getD 0 0 = y0 at *
              generalize V.getD 1 0 = y1 at *
              generalize V.getD 2 0 = y2 at *
              generalize V.getD 3 0 = y3 at *
              generalize V.getD 4 0 = y4 at *
              generalize V.getD 5 0 = y5 at *
              generalize V.getD 6 0 = y6 at *
              generalize V.getD 7 0 = y7 at *
              generalize ks.getD k 0 = kk at *
              generalize N.getD k 0 = ww at *
              go_wp2_with fail
              go_quiet ((go_at_call 103; exact Calls.quiet_of_same (turn_any _ _ _ (by omega) (by omega))))
              go_wp2_with fail
              go_quiet (fail)
              go_wp2_with fail
              go_quiet ((go_at_call 103; exact quiet_add_same (turn_any _ _ _ (by omega) (by omega))))
              go_wp2_with fail
              go_roundw
              case rel => exact ⟨k + 1, by omega, by go_num, by
                rw [HS8.out]
                exact (HB.out.drewN _).all8 HR.out _ _ _ _ _ _ _ _⟩
              case measure => simp [intOf]; omega
            · obtain rfl : k = 64 := by omega
              have HRL := Lib.hid (R8_len [x0, x1, x2, x3, x4, x5, x6, x7] N rfl 64)
              have HB5 := Lib.hid hb
              clear hb
              generalize hVE : R8 [x0, x1, x2, x3, x4, x5, x6, x7] N 64 = V at *
              have HVE := Bx.mk hVE
              clear hVE
              obtain ⟨wo3, rfl⟩ : ∃ wo : World, wo = wr := ⟨_, rfl⟩
              go_wp2_with fail
              go_loopw [18, 204] (fun _ i wr => ∃ k : Nat, k ≤ 8 ∧ i = .int .i64 (k : Int) ∧ Bl3 w wr [x0, x1, x2, x3, x4, x5, x6, x7] N (A8 [x0, x1, x2, x3, x4, x5, x6, x7] V k) g (g + 1)) (fun _ i _ => 8 - (intOf i).toNat)
              case atStart => exact ⟨0, by omega, rfl, HB5.out⟩
              case round =>
                obtain ⟨k, hk, rfl, hb⟩ := hrel
                by_cases hlt : k < 8
                · have hA := A8_len [x0, x1, x2, x3, x4, x5, x6, x7] V HRL.out k
                  have c0 := row_cell hb.bk k (by omega)
                  have c1 := row_cell hb.b.b2 k (by show k < 8; omega)
                  have f0 := frozen_of_row _ _ k _ _ hb.bk
                  have HB := Lib.hid hb
                  have HA8 := Lib.hid (show A8 [x0, x1, x2, x3, x4, x5, x6, x7] V (k + 1) = (A8 [x0, x1, x2, x3, x4, x5, x6, x7] V k).set k (((A8 [x0, x1, x2, x3, x4, x5, x6, x7] V k).getD k 0 + [x0, x1, x2, x3, x4, x5, x6, x7].getD k 0) % 4294967296) from rfl)
                  clear hb hA
                  generalize (A8 [x0, x1, x2, x3, x4, x5, x6, x7] V k).getD k 0 = y0 at *
                  generalize [x0, x1, x2, x3, x4, x5, x6, x7].getD k 0 = y1 at *
                  go_wp2_with fail
                  go_region
                  go_wp2
                  go_roundw
                  case rel => exact ⟨k + 1, by omega, by go_num, by rw [HA8.out]; exact (HB.out.drewN 1).set k _⟩
                  case measure => simp [intOf]; omega
                · obtain rfl : k = 8 := by omega
                  have HB6 := Lib.hid hb
                  obtain ⟨z0, z1, z2, z3, z4, z5, z6, z7, hz⟩ : ∃ z0 z1 z2 z3 z4 z5 z6 z7, A8 [x0, x1, x2, x3, x4, x5, x6, x7] V 8 = [z0, z1, z2, z3, z4, z5, z6, z7] := by
                    have := A8_len [x0, x1, x2, x3, x4, x5, x6, x7] V HRL.out 8
                    revert this
                    generalize A8 [x0, x1, x2, x3, x4, x5, x6, x7] V 8 = L
                    intro hv
                    rcases L with _ | ⟨x0, _ | ⟨x1, _ | ⟨x2, _ | ⟨x3, _ | ⟨x4, _ | ⟨x5, _ | ⟨x6, _ | ⟨x7, _ | ⟨x8, t⟩⟩⟩⟩⟩⟩⟩⟩⟩ <;> simp at hv
                    exact ⟨x0, x1, x2, x3, x4, x5, x6, x7, rfl⟩
                  rw [hz] at hb
                  have c0 := row_cell hb.bk 0 (by simp)
                  have d0 := row_cell hb.b.b4 0 (by simp [zs])
                  have f0 := frozen_of_row _ _ 0 _ _ hb.b.b4
                  have c1 := row_cell hb.bk 1 (by simp)
                  have d1 := row_cell hb.b.b4 1 (by simp [zs])
                  have f1 := frozen_of_row _ _ 1 _ _ hb.b.b4
                  have c2 := row_cell hb.bk 2 (by simp)
                  have d2 := row_cell hb.b.b4 2 (by simp [zs])
                  have f2 := frozen_of_row _ _ 2 _ _ hb.b.b4
                  have c3 := row_cell hb.bk 3 (by simp)
                  have d3 := row_cell hb.b.b4 3 (by simp [zs])
                  have f3 := frozen_of_row _ _ 3 _ _ hb.b.b4
                  have c4 := row_cell hb.bk 4 (by simp)
                  have d4 := row_cell hb.b.b4 4 (by simp [zs])
                  have f4 := frozen_of_row _ _ 4 _ _ hb.b.b4
                  have c5 := row_cell hb.bk 5 (by simp)
                  have d5 := row_cell hb.b.b4 5 (by simp [zs])
                  have f5 := frozen_of_row _ _ 5 _ _ hb.b.b4
                  have c6 := row_cell hb.bk 6 (by simp)
                  have d6 := row_cell hb.b.b4 6 (by simp [zs])
                  have f6 := frozen_of_row _ _ 6 _ _ hb.b.b4
                  have c7 := row_cell hb.bk 7 (by simp)
                  have d7 := row_cell hb.b.b4 7 (by simp [zs])
                  have f7 := frozen_of_row _ _ 7 _ _ hb.b.b4
                  simp only [List.getD_cons_zero, List.getD_cons_succ] at c0 c1 c2 c3 c4 c5 c6 c7
                  have HB6 := Lib.hid hb
                  have HZ := Bx.mk hz
                  clear hb hz
                  go_wp2_with fail
                  refine bodyPost_ret (v := .agg ([z0, z1, z2, z3, z4, z5, z6, z7].map wd).toArray) ?_ rfl ⟨?_, below_all8 HB6.out.b.bel (by omega) _ _ _ _ _ _ _ _⟩
                  · exact results_cell_row rfl _ _ (w.heap.size + 1) 129 _ (0, 0) _ rfl (row_all8 HB6.out.b.b4 (by simp [zs]) _ _ _ _ _ _ _ _) Tryz.underlying129 rfl (by kernel_rfl)
                  · rw [HRV.out, HRES.out, ← HZ.out, ← HVE.out, ← HNE.out, ← HME.out]; rfl
end Go.Proofs.YtbfgkcgnhgfkmaaGreat.Hs
