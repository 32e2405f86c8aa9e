/-
  The contract of tlv.Read.
-/
import Derived.Test.YtmmoimemfdbfgaaTlvRRead
import Derived.Test.YtmmoimemfdbfgaaTlvWrap
namespace Go.Proofs.Ytmmoimemfdbfgaa
open Go.RowKit

def Z3 : Obj := .cells #[.int .i64 0, .string ⟨#[]⟩, .string ⟨#[]⟩] 32
theorem least_1 (w : World) : Calls Try.prog 28 #[.int .i64 1] w fun e w' => e = .returned (.int .i64 128) ∧ w = w' := by
  go_enter Try.func28, Try.ntmps28
  go_wp2
  go_ret
  exact ⟨rfl, rfl⟩
theorem least_2 (w : World) : Calls Try.prog 28 #[.int .i64 2] w fun e w' => e = .returned (.int .i64 256) ∧ w = w' := by
  go_enter Try.func28, Try.ntmps28
  go_wp2
  go_ret
  exact ⟨rfl, rfl⟩
theorem least_3 (w : World) : Calls Try.prog 28 #[.int .i64 3] w fun e w' => e = .returned (.int .i64 65536) ∧ w = w' := by
  go_enter Try.func28, Try.ntmps28
  go_wp2
  go_ret
  exact ⟨rfl, rfl⟩

/-- the octets of the length, as bytes of their own, behind the two variables of the call -/
structure Conv (w : World) (b : ByteArray) (k : Nat) (W : World) (cap : Nat) : Prop where
  run : (convert 9 30 (.string (b.extract 2 (2 + k)))).run Try.prog ((w.alloc Z3).alloc Z3) = .ok (.slice (some ⟨w.heap.size + 2, 0, none⟩) k cap) W
  cell : ∀ j, j < k → W.cell? ⟨w.heap.size + 2, j, none⟩ = some (.int .u8 (Tl.byt b (2 + j) : Nat))
  bel : Below w.heap.size w W
  non0 : W.cell? ⟨w.heap.size + 1, 0, none⟩ = some (.int .i64 0)
  non1 : W.cell? ⟨w.heap.size + 1, 1, none⟩ = some (.string ⟨#[]⟩)
  non2 : W.cell? ⟨w.heap.size + 1, 2, none⟩ = some (.string ⟨#[]⟩)
  out0 : W.cell? ⟨w.heap.size, 0, none⟩ = some (.int .i64 0)
  out1 : W.cell? ⟨w.heap.size, 1, none⟩ = some (.string ⟨#[]⟩)
  out2 : W.cell? ⟨w.heap.size, 2, none⟩ = some (.string ⟨#[]⟩)
  free : ∀ j, W.frozen? ⟨w.heap.size, j, none⟩ = false

theorem cell_before (w : World) (o : Obj) (bk j : Nat) (h : bk < w.heap.size) : (w.alloc o).cell? ⟨bk, j, none⟩ = w.cell? ⟨bk, j, none⟩ :=
  Below.cell (p := ⟨bk, j, none⟩) ((Below.refl w.heap.size w).alloc (Nat.le_refl _) o) h
theorem conv (w : World) (b : ByteArray) (k : Nat) (h : 2 + k ≤ b.size) : ∃ W cap, Conv w b k W cap := by
  have hsz : ((w.alloc Z3).alloc Z3).heap.size = w.heap.size + 2 := by simp
  have hs : (b.extract 2 (2 + k)).size = k := by simp [ByteArray.size_extract]; omega
  refine ⟨By.bytesWorld ((w.alloc Z3).alloc Z3) (b.extract 2 (2 + k)), By.capOf ((w.alloc Z3).alloc Z3) (b.extract 2 (2 + k)), ?_, ?_, ?_, ?_, ?_, ?_, ?_, ?_, ?_, ?_⟩
  · have := By.bytes_of ((w.alloc Z3).alloc Z3) (b.extract 2 (2 + k))
    rw [hs, hsz] at this
    exact this
  · intro j hj
    have := By.bytes_cell ((w.alloc Z3).alloc Z3) (b.extract 2 (2 + k)) j (by omega)
    rw [hsz] at this
    rw [this]
    congr 2
    have e : (b.extract 2 (2 + k))[j]'(by omega) = b[2 + j]'(by omega) := by simp [ByteArray.getElem_extract]
    rw [e, Tl.byt_get]
  · have hb := By.bytes_below ((w.alloc Z3).alloc Z3) (b.extract 2 (2 + k))
    rw [hsz] at hb
    exact (((Below.refl w.heap.size w).alloc (Nat.le_refl _) _).alloc (by simp) _).trans (hb.mono (by omega))
  all_goals have hb := By.bytes_below ((w.alloc Z3).alloc Z3) (b.extract 2 (2 + k))
  · rw [hb.cell (p := ⟨w.heap.size + 1, 0, none⟩) (by simp)]; unfold Z3; rw [World.cell?_alloc_at _ _ _ _ (by simp)]; rfl
  · rw [hb.cell (p := ⟨w.heap.size + 1, 1, none⟩) (by simp)]; unfold Z3; rw [World.cell?_alloc_at _ _ _ _ (by simp)]; rfl
  · rw [hb.cell (p := ⟨w.heap.size + 1, 2, none⟩) (by simp)]; unfold Z3; rw [World.cell?_alloc_at _ _ _ _ (by simp)]; rfl
  · rw [hb.cell (p := ⟨w.heap.size, 0, none⟩) (by simp; omega), cell_before _ _ _ _ (by simp)]; unfold Z3; rw [World.cell?_alloc_at _ _ _ _ rfl]; rfl
  · rw [hb.cell (p := ⟨w.heap.size, 1, none⟩) (by simp; omega), cell_before _ _ _ _ (by simp)]; unfold Z3; rw [World.cell?_alloc_at _ _ _ _ rfl]; rfl
  · rw [hb.cell (p := ⟨w.heap.size, 2, none⟩) (by simp; omega), cell_before _ _ _ _ (by simp)]; unfold Z3; rw [World.cell?_alloc_at _ _ _ _ rfl]; rfl
  · intro j
    rw [hb.frozen (p := ⟨w.heap.size, j, none⟩) (by simp; omega)]
    have h2 : Below (w.alloc Z3).heap.size (w.alloc Z3) ((w.alloc Z3).alloc Z3) := (Below.refl _ _).alloc (Nat.le_refl _) _
    rw [h2.frozen (p := ⟨w.heap.size, j, none⟩) (by simp)]
    exact World.frozen?_alloc_at _ _ _ _ rfl

end Go.Proofs.Ytmmoimemfdbfgaa
