/-
  The contracts of DecodeTime, way by way; then Decode and DecodeTime at every argument, with one result.
-/
import Derived.Test.YtmmoimemfdbfgaaDoorDateK
namespace Go.Proofs.YtmmoimemfdbfgaaDoor
open Go.RowKit

theorem dpair (c : ByteArray) (n k : Nat) (w : World) :
    Calls Tryd.prog 31 #[.string (c.extract (n + k) (n + k + 2))] w fun e w' => e = .returned (.int .i64 (prs c n k)) ∧ w = w' :=
  digits_any (c.extract (n + k) (n + k + 2)) w (by simp; omega)

theorem rdecode23_size (c : ByteArray) (w : World) (h : c.size ≠ 13) :
    Calls Tryd.prog 17 #[.int .i64 23, .string c] w fun e w' => e = .returned (.tuple #[.int .i64 0, .int .i64 12]) ∧ w = w' := by
  have d : ((c.size : Int) != 13) = true := by rw [bne_iff_ne]; omega
  clear h
  go_enter Tryd.func17, Tryd.ntmps17
  go_wp2
  go_ret2
  exact ⟨rfl, rfl⟩

theorem rdecode23_z (c : ByteArray) (w : World) (h : 13 = c.size) (hz : c[12]'(by omega) ≠ 90) :
    Calls Tryd.prog 17 #[.int .i64 23, .string c] w fun e w' => e = .returned (.tuple #[.int .i64 0, .int .i64 12]) ∧ w = w' := by
  have d : ((c.size : Int) != 13) = false := by rw [bne_eq_false_iff_eq]; omega
  have hl : 12 < c.size := by omega
  have hl2 : c.size ≤ 13 := by omega
  have z : (((c[12].toNat : Nat) : Int) != 90) = true := by
    rw [bne_iff_ne]; intro e; apply hz; apply UInt8.toNat_inj.1; have : (90 : UInt8).toNat = 90 := rfl; omega
  have ec : ∀ wx, (Instr.index 9 (.string c) (.int .i64 ((c.size : Int) - 1))).run Tryd.prog wx = .ok (.int .u8 (c[12].toNat : Int)) wx := by
    intro wx
    have e1 : ((c.size : Int) - 1) = ((12 : Nat) : Int) := by omega
    rw [e1]
    simp [Instr.index, run_underlying Tryd.underlying9, go_sem, hl]
  clear h hz
  go_enter Tryd.func17, Tryd.ntmps17
  go_wp2
  go_ret2
  exact ⟨rfl, rfl⟩

theorem rdecode23_dig (c : ByteArray) (w : World) (h : 13 = c.size) (hz : c[12]'(by omega) = 90) (ha : yr c 12 < 0) :
    Calls Tryd.prog 17 #[.int .i64 23, .string c] w fun e w' => e = .returned (.tuple #[.int .i64 0, .int .i64 12]) ∧ w = w' := by
  have d : ((c.size : Int) != 13) = false := by rw [bne_eq_false_iff_eq]; omega
  have hl : 12 < c.size := by omega
  have hl2 : c.size ≤ 13 := by omega
  have z : (((c[12].toNat : Nat) : Int) != 90) = false := by rw [hz]; rfl
  have ec : ∀ wx, (Instr.index 9 (.string c) (.int .i64 ((c.size : Int) - 1))).run Tryd.prog wx = .ok (.int .u8 (c[12].toNat : Int)) wx := by
    intro wx
    have e1 : ((c.size : Int) - 1) = ((12 : Nat) : Int) := by omega
    rw [e1]
    simp [Instr.index, run_underlying Tryd.underlying9, go_sem, hl]
  have sl1 : ∀ wx, (Instr.slice 9 (.string c) none (some (.int .i64 ((c.size : Int) - 1))) none).run Tryd.prog wx = .ok (.string (c.extract 0 12)) wx := by
    intro wx
    have e1 : ((c.size : Int) - 1) = ((12 : Nat) : Int) := by omega
    rw [e1, run_slice_string_h (P := Tryd.prog) (ht := Tryd.underlying9) (h0 := by omega) (h2 := by omega)]
    rfl
  have t1 : decide (yr c 12 < 0) = true := by simp; omega
  clear h hz
  go_enter Tryd.func17, Tryd.ntmps17
  go_wp2_with fail
  go_at_call 31
  refine (digits_any (c.extract 0 12) _ (by simp; omega)).mono ?_
  rintro e w1 ⟨rfl, rfl⟩
  have hya : Dig.num (c.extract 0 12).data.toList = yr c 12 := rfl
  rw [hya]; clear hya
  go_wp2
  go_ret2
  exact ⟨rfl, rfl⟩

theorem rdecode23_hi (c : ByteArray) (w : World) (h : 13 = c.size) (hz : c[12]'(by omega) = 90) (ha : 0 ≤ yr c 12) (hy : 50 ≤ yr c 2) :
    Calls Tryd.prog 17 #[.int .i64 23, .string c] w fun e w' => e = .returned (.tuple #[.int .i64 (dresV c 2 (yr c 2 + 1900)), .int .i64 (dresE c 2 (yr c 2 + 1900))]) ∧ Below w.heap.size w w' := by
  have d : ((c.size : Int) != 13) = false := by rw [bne_eq_false_iff_eq]; omega
  have hl : 12 < c.size := by omega
  have hl2 : c.size ≤ 13 := by omega
  have z : (((c[12].toNat : Nat) : Int) != 90) = false := by rw [hz]; rfl
  have ec : ∀ wx, (Instr.index 9 (.string c) (.int .i64 ((c.size : Int) - 1))).run Tryd.prog wx = .ok (.int .u8 (c[12].toNat : Int)) wx := by
    intro wx
    have e1 : ((c.size : Int) - 1) = ((12 : Nat) : Int) := by omega
    rw [e1]
    simp [Instr.index, run_underlying Tryd.underlying9, go_sem, hl]
  have sl1 : ∀ wx, (Instr.slice 9 (.string c) none (some (.int .i64 ((c.size : Int) - 1))) none).run Tryd.prog wx = .ok (.string (c.extract 0 12)) wx := by
    intro wx
    have e1 : ((c.size : Int) - 1) = ((12 : Nat) : Int) := by omega
    rw [e1, run_slice_string_h (P := Tryd.prog) (ht := Tryd.underlying9) (h0 := by omega) (h2 := by omega)]
    rfl
  have t1 : decide (yr c 12 < 0) = false := by simp; omega
  have hyb := yr_bd c 2 (by omega)
  have t2 : decide (50 ≤ yr c 2) = true := by simp; omega
  have r0 := slice_lh c 2 4 (by omega) (by omega)
  have r2 := slice_lh c 4 6 (by omega) (by omega)
  have r4 := slice_lh c 6 8 (by omega) (by omega)
  have r6 := slice_lh c 8 10 (by omega) (by omega)
  have r8 := slice_lh c 10 12 (by omega) (by omega)
  clear h hz
  go_enter Tryd.func17, Tryd.ntmps17
  go_wp2_with fail
  go_at_call 31
  refine (digits_any (c.extract 0 12) _ (by simp; omega)).mono ?_
  rintro e w1 ⟨rfl, rfl⟩
  have hya : Dig.num (c.extract 0 12).data.toList = yr c 12 := rfl
  rw [hya]; clear hya
  go_wp2_with fail
  go_at_call 31
  refine (digits_any (c.extract 0 2) _ (by simp; omega)).mono ?_
  rintro e w1 ⟨rfl, rfl⟩
  have hyr : Dig.num (c.extract 0 2).data.toList = yr c 2 := rfl
  rw [hyr]; clear hyr
  go_wp2_with fail
  refine wp_region_self (by kernel_rfl) (by kernel_rfl) ?_
  repeat (go_big_quiet_step (fail))
  go_big_quiet_step ((go_at_call 31; exact ext_of_same (dpair c 2 0 _)))
  repeat (go_big_quiet_step (fail))
  go_big_quiet_step ((go_at_call 31; exact ext_of_same (dpair c 2 2 _)))
  repeat (go_big_quiet_step (fail))
  go_big_quiet_step ((go_at_call 31; exact ext_of_same (dpair c 2 4 _)))
  repeat (go_big_quiet_step (fail))
  go_big_quiet_step ((go_at_call 31; exact ext_of_same (dpair c 2 6 _)))
  repeat (go_big_quiet_step (fail))
  go_big_quiet_step ((go_at_call 31; exact ext_of_same (dpair c 2 8 _)))
  repeat (go_big_quiet_step (fail))
  go_big_quiet_step ((go_at_call 14; exact ext_of (rsecs_any _ _ _ _ _ _ _)))
  repeat (go_big_quiet_step (fail))
  refine wpQuiet_nil ?_
  rintro _ ⟨e1, rfl⟩
  go_wp2
  go_ret2
  exact ⟨rfl, e1.bel⟩

theorem rdecode23_lo (c : ByteArray) (w : World) (h : 13 = c.size) (hz : c[12]'(by omega) = 90) (ha : 0 ≤ yr c 12) (hy : yr c 2 < 50) :
    Calls Tryd.prog 17 #[.int .i64 23, .string c] w fun e w' => e = .returned (.tuple #[.int .i64 (dresV c 2 (yr c 2 + 2000)), .int .i64 (dresE c 2 (yr c 2 + 2000))]) ∧ Below w.heap.size w w' := by
  have d : ((c.size : Int) != 13) = false := by rw [bne_eq_false_iff_eq]; omega
  have hl : 12 < c.size := by omega
  have hl2 : c.size ≤ 13 := by omega
  have z : (((c[12].toNat : Nat) : Int) != 90) = false := by rw [hz]; rfl
  have ec : ∀ wx, (Instr.index 9 (.string c) (.int .i64 ((c.size : Int) - 1))).run Tryd.prog wx = .ok (.int .u8 (c[12].toNat : Int)) wx := by
    intro wx
    have e1 : ((c.size : Int) - 1) = ((12 : Nat) : Int) := by omega
    rw [e1]
    simp [Instr.index, run_underlying Tryd.underlying9, go_sem, hl]
  have sl1 : ∀ wx, (Instr.slice 9 (.string c) none (some (.int .i64 ((c.size : Int) - 1))) none).run Tryd.prog wx = .ok (.string (c.extract 0 12)) wx := by
    intro wx
    have e1 : ((c.size : Int) - 1) = ((12 : Nat) : Int) := by omega
    rw [e1, run_slice_string_h (P := Tryd.prog) (ht := Tryd.underlying9) (h0 := by omega) (h2 := by omega)]
    rfl
  have t1 : decide (yr c 12 < 0) = false := by simp; omega
  have hyb := yr_bd c 2 (by omega)
  have t2 : decide (50 ≤ yr c 2) = false := by simp; omega
  have r0 := slice_lh c 2 4 (by omega) (by omega)
  have r2 := slice_lh c 4 6 (by omega) (by omega)
  have r4 := slice_lh c 6 8 (by omega) (by omega)
  have r6 := slice_lh c 8 10 (by omega) (by omega)
  have r8 := slice_lh c 10 12 (by omega) (by omega)
  clear h hz
  go_enter Tryd.func17, Tryd.ntmps17
  go_wp2_with fail
  go_at_call 31
  refine (digits_any (c.extract 0 12) _ (by simp; omega)).mono ?_
  rintro e w1 ⟨rfl, rfl⟩
  have hya : Dig.num (c.extract 0 12).data.toList = yr c 12 := rfl
  rw [hya]; clear hya
  go_wp2_with fail
  go_at_call 31
  refine (digits_any (c.extract 0 2) _ (by simp; omega)).mono ?_
  rintro e w1 ⟨rfl, rfl⟩
  have hyr : Dig.num (c.extract 0 2).data.toList = yr c 2 := rfl
  rw [hyr]; clear hyr
  go_wp2_with fail
  refine wp_region_self (by kernel_rfl) (by kernel_rfl) ?_
  repeat (go_big_quiet_step (fail))
  go_big_quiet_step ((go_at_call 31; exact ext_of_same (dpair c 2 0 _)))
  repeat (go_big_quiet_step (fail))
  go_big_quiet_step ((go_at_call 31; exact ext_of_same (dpair c 2 2 _)))
  repeat (go_big_quiet_step (fail))
  go_big_quiet_step ((go_at_call 31; exact ext_of_same (dpair c 2 4 _)))
  repeat (go_big_quiet_step (fail))
  go_big_quiet_step ((go_at_call 31; exact ext_of_same (dpair c 2 6 _)))
  repeat (go_big_quiet_step (fail))
  go_big_quiet_step ((go_at_call 31; exact ext_of_same (dpair c 2 8 _)))
  repeat (go_big_quiet_step (fail))
  go_big_quiet_step ((go_at_call 14; exact ext_of (rsecs_any _ _ _ _ _ _ _)))
  repeat (go_big_quiet_step (fail))
  refine wpQuiet_nil ?_
  rintro _ ⟨e1, rfl⟩
  go_wp2
  go_ret2
  exact ⟨rfl, e1.bel⟩

theorem rdecode24_size (c : ByteArray) (w : World) (h : c.size ≠ 15) :
    Calls Tryd.prog 17 #[.int .i64 24, .string c] w fun e w' => e = .returned (.tuple #[.int .i64 0, .int .i64 12]) ∧ w = w' := by
  have d : ((c.size : Int) != 15) = true := by rw [bne_iff_ne]; omega
  clear h
  go_enter Tryd.func17, Tryd.ntmps17
  go_wp2
  go_ret2
  exact ⟨rfl, rfl⟩

theorem rdecode24_z (c : ByteArray) (w : World) (h : 15 = c.size) (hz : c[14]'(by omega) ≠ 90) :
    Calls Tryd.prog 17 #[.int .i64 24, .string c] w fun e w' => e = .returned (.tuple #[.int .i64 0, .int .i64 12]) ∧ w = w' := by
  have d : ((c.size : Int) != 15) = false := by rw [bne_eq_false_iff_eq]; omega
  have hl : 14 < c.size := by omega
  have hl2 : c.size ≤ 15 := by omega
  have z : (((c[14].toNat : Nat) : Int) != 90) = true := by
    rw [bne_iff_ne]; intro e; apply hz; apply UInt8.toNat_inj.1; have : (90 : UInt8).toNat = 90 := rfl; omega
  have ec : ∀ wx, (Instr.index 9 (.string c) (.int .i64 ((c.size : Int) - 1))).run Tryd.prog wx = .ok (.int .u8 (c[14].toNat : Int)) wx := by
    intro wx
    have e1 : ((c.size : Int) - 1) = ((14 : Nat) : Int) := by omega
    rw [e1]
    simp [Instr.index, run_underlying Tryd.underlying9, go_sem, hl]
  clear h hz
  go_enter Tryd.func17, Tryd.ntmps17
  go_wp2
  go_ret2
  exact ⟨rfl, rfl⟩

theorem rdecode24_dig (c : ByteArray) (w : World) (h : 15 = c.size) (hz : c[14]'(by omega) = 90) (ha : yr c 14 < 0) :
    Calls Tryd.prog 17 #[.int .i64 24, .string c] w fun e w' => e = .returned (.tuple #[.int .i64 0, .int .i64 12]) ∧ w = w' := by
  have d : ((c.size : Int) != 15) = false := by rw [bne_eq_false_iff_eq]; omega
  have hl : 14 < c.size := by omega
  have hl2 : c.size ≤ 15 := by omega
  have z : (((c[14].toNat : Nat) : Int) != 90) = false := by rw [hz]; rfl
  have ec : ∀ wx, (Instr.index 9 (.string c) (.int .i64 ((c.size : Int) - 1))).run Tryd.prog wx = .ok (.int .u8 (c[14].toNat : Int)) wx := by
    intro wx
    have e1 : ((c.size : Int) - 1) = ((14 : Nat) : Int) := by omega
    rw [e1]
    simp [Instr.index, run_underlying Tryd.underlying9, go_sem, hl]
  have sl1 : ∀ wx, (Instr.slice 9 (.string c) none (some (.int .i64 ((c.size : Int) - 1))) none).run Tryd.prog wx = .ok (.string (c.extract 0 14)) wx := by
    intro wx
    have e1 : ((c.size : Int) - 1) = ((14 : Nat) : Int) := by omega
    rw [e1, run_slice_string_h (P := Tryd.prog) (ht := Tryd.underlying9) (h0 := by omega) (h2 := by omega)]
    rfl
  have t1 : decide (yr c 14 < 0) = true := by simp; omega
  clear h hz
  go_enter Tryd.func17, Tryd.ntmps17
  go_wp2_with fail
  go_at_call 31
  refine (digits_any (c.extract 0 14) _ (by simp; omega)).mono ?_
  rintro e w1 ⟨rfl, rfl⟩
  have hya : Dig.num (c.extract 0 14).data.toList = yr c 14 := rfl
  rw [hya]; clear hya
  go_wp2
  go_ret2
  exact ⟨rfl, rfl⟩

theorem rdecode24_low (c : ByteArray) (w : World) (h : 15 = c.size) (hz : c[14]'(by omega) = 90) (ha : 0 ≤ yr c 14) (hy : yr c 4 < 2050) :
    Calls Tryd.prog 17 #[.int .i64 24, .string c] w fun e w' => e = .returned (.tuple #[.int .i64 0, .int .i64 12]) ∧ w = w' := by
  have d : ((c.size : Int) != 15) = false := by rw [bne_eq_false_iff_eq]; omega
  have hl : 14 < c.size := by omega
  have hl2 : c.size ≤ 15 := by omega
  have z : (((c[14].toNat : Nat) : Int) != 90) = false := by rw [hz]; rfl
  have ec : ∀ wx, (Instr.index 9 (.string c) (.int .i64 ((c.size : Int) - 1))).run Tryd.prog wx = .ok (.int .u8 (c[14].toNat : Int)) wx := by
    intro wx
    have e1 : ((c.size : Int) - 1) = ((14 : Nat) : Int) := by omega
    rw [e1]
    simp [Instr.index, run_underlying Tryd.underlying9, go_sem, hl]
  have sl1 : ∀ wx, (Instr.slice 9 (.string c) none (some (.int .i64 ((c.size : Int) - 1))) none).run Tryd.prog wx = .ok (.string (c.extract 0 14)) wx := by
    intro wx
    have e1 : ((c.size : Int) - 1) = ((14 : Nat) : Int) := by omega
    rw [e1, run_slice_string_h (P := Tryd.prog) (ht := Tryd.underlying9) (h0 := by omega) (h2 := by omega)]
    rfl
  have t1 : decide (yr c 14 < 0) = false := by simp; omega
  have hyb := yr_bd c 4 (by omega)
  have t2 : decide (yr c 4 < 2050) = true := by simp; omega
  clear h hz
  go_enter Tryd.func17, Tryd.ntmps17
  go_wp2_with fail
  go_at_call 31
  refine (digits_any (c.extract 0 14) _ (by simp; omega)).mono ?_
  rintro e w1 ⟨rfl, rfl⟩
  have hya : Dig.num (c.extract 0 14).data.toList = yr c 14 := rfl
  rw [hya]; clear hya
  go_wp2_with fail
  go_at_call 31
  refine (digits_any (c.extract 0 4) _ (by simp; omega)).mono ?_
  rintro e w1 ⟨rfl, rfl⟩
  have hyr : Dig.num (c.extract 0 4).data.toList = yr c 4 := rfl
  rw [hyr]; clear hyr
  go_wp2
  go_ret2
  exact ⟨rfl, rfl⟩

theorem rdecode24_hi (c : ByteArray) (w : World) (h : 15 = c.size) (hz : c[14]'(by omega) = 90) (ha : 0 ≤ yr c 14) (hy : 2050 ≤ yr c 4) :
    Calls Tryd.prog 17 #[.int .i64 24, .string c] w fun e w' => e = .returned (.tuple #[.int .i64 (dresV c 4 (yr c 4)), .int .i64 (dresE c 4 (yr c 4))]) ∧ Below w.heap.size w w' := by
  have d : ((c.size : Int) != 15) = false := by rw [bne_eq_false_iff_eq]; omega
  have hl : 14 < c.size := by omega
  have hl2 : c.size ≤ 15 := by omega
  have z : (((c[14].toNat : Nat) : Int) != 90) = false := by rw [hz]; rfl
  have ec : ∀ wx, (Instr.index 9 (.string c) (.int .i64 ((c.size : Int) - 1))).run Tryd.prog wx = .ok (.int .u8 (c[14].toNat : Int)) wx := by
    intro wx
    have e1 : ((c.size : Int) - 1) = ((14 : Nat) : Int) := by omega
    rw [e1]
    simp [Instr.index, run_underlying Tryd.underlying9, go_sem, hl]
  have sl1 : ∀ wx, (Instr.slice 9 (.string c) none (some (.int .i64 ((c.size : Int) - 1))) none).run Tryd.prog wx = .ok (.string (c.extract 0 14)) wx := by
    intro wx
    have e1 : ((c.size : Int) - 1) = ((14 : Nat) : Int) := by omega
    rw [e1, run_slice_string_h (P := Tryd.prog) (ht := Tryd.underlying9) (h0 := by omega) (h2 := by omega)]
    rfl
  have t1 : decide (yr c 14 < 0) = false := by simp; omega
  have hyb := yr_bd c 4 (by omega)
  have t2 : decide (yr c 4 < 2050) = false := by simp; omega
  have r0 := slice_lh c 4 6 (by omega) (by omega)
  have r2 := slice_lh c 6 8 (by omega) (by omega)
  have r4 := slice_lh c 8 10 (by omega) (by omega)
  have r6 := slice_lh c 10 12 (by omega) (by omega)
  have r8 := slice_lh c 12 14 (by omega) (by omega)
  clear h hz
  go_enter Tryd.func17, Tryd.ntmps17
  go_wp2_with fail
  go_at_call 31
  refine (digits_any (c.extract 0 14) _ (by simp; omega)).mono ?_
  rintro e w1 ⟨rfl, rfl⟩
  have hya : Dig.num (c.extract 0 14).data.toList = yr c 14 := rfl
  rw [hya]; clear hya
  go_wp2_with fail
  go_at_call 31
  refine (digits_any (c.extract 0 4) _ (by simp; omega)).mono ?_
  rintro e w1 ⟨rfl, rfl⟩
  have hyr : Dig.num (c.extract 0 4).data.toList = yr c 4 := rfl
  rw [hyr]; clear hyr
  go_wp2_with fail
  refine wp_region_self (by kernel_rfl) (by kernel_rfl) ?_
  repeat (go_big_quiet_step (fail))
  go_big_quiet_step ((go_at_call 31; exact ext_of_same (dpair c 4 0 _)))
  repeat (go_big_quiet_step (fail))
  go_big_quiet_step ((go_at_call 31; exact ext_of_same (dpair c 4 2 _)))
  repeat (go_big_quiet_step (fail))
  go_big_quiet_step ((go_at_call 31; exact ext_of_same (dpair c 4 4 _)))
  repeat (go_big_quiet_step (fail))
  go_big_quiet_step ((go_at_call 31; exact ext_of_same (dpair c 4 6 _)))
  repeat (go_big_quiet_step (fail))
  go_big_quiet_step ((go_at_call 31; exact ext_of_same (dpair c 4 8 _)))
  repeat (go_big_quiet_step (fail))
  go_big_quiet_step ((go_at_call 14; exact ext_of (rsecs_any _ _ _ _ _ _ _)))
  repeat (go_big_quiet_step (fail))
  refine wpQuiet_nil ?_
  rintro _ ⟨e1, rfl⟩
  go_wp2
  go_ret2
  exact ⟨rfl, e1.bel⟩

end Go.Proofs.YtmmoimemfdbfgaaDoor