/-
  The contracts of number and digits.
-/
import Derived.Test.YtmmoimemfdbfgaaDoorDateD
import Derived.Test.YtmmoimemfdbfgaaDoorDigits
namespace Go.Proofs.YtmmoimemfdbfgaaDoor
open Go.RowKit

/-- the world behind a conversion of a string to bytes, and the capacity of the new slice -/
def capOf (w : World) (s : ByteArray) : Nat := grownCap w s.size 0 5
def bytesWorld (w : World) (s : ByteArray) : World :=
  w.drew.alloc (.cells (bytesRow s (capOf w s)) 5 ((bytesRow s (capOf w s)).size, (bytesRow s (capOf w s)).size + 1))
theorem bytes_of (w : World) (s : ByteArray) : (convert 9 44 (.string s)).run Tryd.prog w = .ok (.slice (some ⟨w.heap.size, 0, none⟩) s.size (capOf w s)) (bytesWorld w s) :=
  run_bytes_of_string w _ _ _ s Tryd.underlying9 Tryd.underlying44 Tryd.underlying5
theorem bytes_below (w : World) (s : ByteArray) : Below w.heap.size w (bytesWorld w s) := (Below.refl _ _).drew.alloc (Nat.le_refl _) _
theorem bytes_cell (w : World) (s : ByteArray) (k : Nat) (h : k < s.size) : (bytesWorld w s).cell? ⟨w.heap.size, k, none⟩ = some (.int .u8 (s[k].toNat : Int)) := by
  refine (World.cell?_alloc_mark w.drew _ _ _ k).trans ?_
  unfold bytesRow
  have hk : k < (s.data.map (fun b => Value.int .u8 b.toNat)).size := by simpa using h
  rw [Array.getElem?_append_left hk]
  rw [Array.getElem?_eq_getElem hk, Array.getElem_map]
  rfl

theorem num_step {s : ByteArray} {k : Nat} (h : k < s.size) (hd : Dig.isd s[k] = true) (ha : (s.data.toList.take k).all Dig.isd = true) :
    (s.data.toList.take (k + 1)).all Dig.isd = true ∧ Dig.val (s.data.toList.take (k + 1)) = 10 * Dig.val (s.data.toList.take k) + ((s[k].toNat : Int) - 48) := by
  have hk : k < s.data.toList.length := by simpa using h
  rw [Dig.take_snoc _ k hk]
  have e : s.data.toList[k] = s[k] := rfl
  rw [e, Dig.val_snoc]
  simp [ha, hd]
theorem num_bad {s : ByteArray} {k : Nat} (h : k < s.size) (hd : Dig.isd s[k] = false) : Dig.num s.data.toList = -1 := by
  have hk : k < s.data.toList.length := by simpa using h
  unfold Dig.num
  rw [if_neg]
  simp only [List.all_eq_true]
  intro hall
  have := hall s[k] (by have e : s.data.toList[k] = s[k] := rfl; rw [← e]; exact List.getElem_mem hk)
  rw [hd] at this; cases this
theorem num_all {s : ByteArray} (ha : (s.data.toList.take s.size).all Dig.isd = true) : Dig.num s.data.toList = Dig.val (s.data.toList.take s.size) := by
  have e : s.data.toList.take s.size = s.data.toList := List.take_of_length_le (by simp)
  rw [e] at ha ⊢
  unfold Dig.num
  rw [if_pos ha]

theorem number_any (s : ByteArray) (w : World) (hs : s.size ≤ 15) :
    Calls Tryd.prog 29 #[.string s] w fun e w' => e = .returned (.int .i64 (Dig.num s.data.toList)) ∧ Below w.heap.size w w' := by
  have hk := bytes_of w s
  have hB := bytes_below w s
  have hC := bytes_cell w s
  generalize bytesWorld w s = W at *
  generalize capOf w s = cap at *
  go_enter Tryd.func29, Tryd.ntmps29
  go_wp2
  clear hk
  go_loop [3, 9] (fun n i => ∃ k : Nat, k ≤ s.size ∧ i = .int .i64 k ∧ n = .int .i64 (Dig.val (s.data.toList.take k)) ∧ (s.data.toList.take k).all Dig.isd = true) (fun _ i => s.size - (intOf i).toNat)
  case atStart => exact ⟨0, by omega, rfl, rfl, rfl⟩
  case round =>
    obtain ⟨k, hk, rfl, rfl, ha⟩ := hrel
    have hv := Dig.val_le _ ha (by simp; omega)
    by_cases hlt : k < s.size
    · have hc := hC k hlt
      have hb := UInt8.toNat_lt s[k]
      clear hC
      by_cases hd : Dig.isd s[k] = true
      · have hd2 := (Dig.isd_iff _).1 hd
        have hS := num_step hlt hd ha
        have h1 : decide (((s[k].toNat : Nat) : Int) < 48) = false := by simp; omega
        have h2 : decide ((57 : Int) < ((s[k].toNat : Nat) : Int)) = false := by simp; omega
        have HS := Lib.hid hS; clear hS hd
        have HA := Lib.hid ha; clear ha
        go_wp2
        go_round
        case rel => exact ⟨k + 1, by omega, by go_num, by rw [HS.out.2], HS.out.1⟩
        case measure => simp [intOf]; omega
      · have hd0 : Dig.isd s[k] = false := by simpa using hd
        have hN := num_bad hlt hd0
        have hd2 : ¬ (48 ≤ s[k].toNat ∧ s[k].toNat ≤ 57) := fun h => hd ((Dig.isd_iff _).2 h)
        have HN := Lib.hid hN; clear hN hd hd0
        have HA := Lib.hid ha; clear ha
        by_cases h48 : s[k].toNat < 48
        · have h1 : decide (((s[k].toNat : Nat) : Int) < 48) = true := by simp; omega
          go_wp2
          go_ret
          exact ⟨by rw [HN.out]; rfl, hB⟩
        · have h1 : decide (((s[k].toNat : Nat) : Int) < 48) = false := by simp; omega
          have h2 : decide ((57 : Int) < ((s[k].toNat : Nat) : Int)) = true := by simp; omega
          go_wp2
          go_ret
          exact ⟨by rw [HN.out]; rfl, hB⟩
    · obtain rfl : k = s.size := by omega
      have hN := num_all ha
      have HN := Lib.hid hN; clear hN
      have HA := Lib.hid ha; clear ha
      go_wp2
      go_ret
      exact ⟨by rw [HN.out]; rfl, hB⟩

theorem digits_any (s : ByteArray) (w : World) (hs : s.size ≤ 15) :
    Calls Tryd.prog 31 #[.string s] w fun e w' => e = .returned (.int .i64 (Dig.num s.data.toList)) ∧ w = w' := by
  go_enter Tryd.func31, Tryd.ntmps31
  go_wp2
  go_loop [3, 4] (fun n i => ∃ k : Nat, k ≤ s.size ∧ i = .int .i64 k ∧ n = .int .i64 (Dig.val (s.data.toList.take k)) ∧ (s.data.toList.take k).all Dig.isd = true) (fun _ i => s.size - (intOf i).toNat)
  case atStart => exact ⟨0, by omega, rfl, rfl, rfl⟩
  case round =>
    obtain ⟨k, hk, rfl, rfl, ha⟩ := hrel
    have hv := Dig.val_le _ ha (by simp; omega)
    by_cases hlt : k < s.size
    · have hb := UInt8.toNat_lt s[k]
      by_cases hd : Dig.isd s[k] = true
      · have hd2 := (Dig.isd_iff _).1 hd
        have hS := num_step hlt hd ha
        have h1 : decide (((s[k].toNat : Nat) : Int) < 48) = false := by simp; omega
        have h2 : decide ((57 : Int) < ((s[k].toNat : Nat) : Int)) = false := by simp; omega
        have HS := Lib.hid hS; clear hS hd
        have HA := Lib.hid ha; clear ha
        go_wp2
        go_round
        case rel => exact ⟨k + 1, by omega, by go_num, by rw [HS.out.2], HS.out.1⟩
        case measure => simp [intOf]; omega
      · have hd0 : Dig.isd s[k] = false := by simpa using hd
        have hN := num_bad hlt hd0
        have hd2 : ¬ (48 ≤ s[k].toNat ∧ s[k].toNat ≤ 57) := fun h => hd ((Dig.isd_iff _).2 h)
        have HN := Lib.hid hN; clear hN hd hd0
        have HA := Lib.hid ha; clear ha
        by_cases h48 : s[k].toNat < 48
        · have h1 : decide (((s[k].toNat : Nat) : Int) < 48) = true := by simp; omega
          go_wp2
          go_ret
          exact ⟨by rw [HN.out]; rfl, rfl⟩
        · have h1 : decide (((s[k].toNat : Nat) : Int) < 48) = false := by simp; omega
          have h2 : decide ((57 : Int) < ((s[k].toNat : Nat) : Int)) = true := by simp; omega
          go_wp2
          go_ret
          exact ⟨by rw [HN.out]; rfl, rfl⟩
    · obtain rfl : k = s.size := by omega
      have hN := num_all ha
      have HN := Lib.hid hN; clear hN
      have HA := Lib.hid ha; clear ha
      go_wp2
      go_ret
      exact ⟨by rw [HN.out]; rfl, rfl⟩

end Go.Proofs.YtmmoimemfdbfgaaDoor
