/-
  The calls of a nil disk.
-/
import Derived.Test.YtbfgkcgnhgfkmaaGreatDkOpsB
namespace Go.Proofs.YtbfgkcgnhgfkmaaGreat.Dk
open Go Go.Maps Go.RowKit Go.Proofs.YtbfgkcgnhgfkmaaGreat.Slc
set_option linter.unusedVariables false
set_option linter.unusedSimpArgs false

theorem append_nilp (w : World) (n d : ByteArray) : Calls Tryz.prog 46 #[.pointer none, .string n, .string d] w fun e w' => e = .returned (.int .i64 25) ∧ Below w.heap.size w w' := by
  have HD := Lib.hid (fun W : World => down_nil W)
  go_enter Tryz.func46, Tryz.ntmps46
  go_wp2_with fail
  go_at_call 31
  refine (HD.out _).mono ?_
  rintro e w' ⟨rfl, rfl⟩
  go_wp2
  go_ret
  exact ⟨rfl, ((Below.refl _ w).alloc (Nat.le_refl _) _).alloc (by simp) _⟩
theorem rename_nilp (w : World) (n d : ByteArray) : Calls Tryz.prog 65 #[.pointer none, .string n, .string d] w fun e w' => e = .returned (.int .i64 25) ∧ Below w.heap.size w w' := by
  have HD := Lib.hid (fun W : World => down_nil W)
  go_enter Tryz.func65, Tryz.ntmps65
  go_wp2_with fail
  go_at_call 31
  refine (HD.out _).mono ?_
  rintro e w' ⟨rfl, rfl⟩
  go_wp2
  go_ret
  exact ⟨rfl, ((Below.refl _ w).alloc (Nat.le_refl _) _).alloc (by simp) _⟩
theorem remove_nilp (w : World) (n : ByteArray) : Calls Tryz.prog 41 #[.pointer none, .string n] w fun e w' => e = .returned (.int .i64 25) ∧ Below w.heap.size w w' := by
  have HD := Lib.hid (fun W : World => down_nil W)
  go_enter Tryz.func41, Tryz.ntmps41
  go_wp2_with fail
  go_at_call 31
  refine (HD.out _).mono ?_
  rintro e w' ⟨rfl, rfl⟩
  go_wp2
  go_ret
  exact ⟨rfl, (Below.refl _ w).alloc (Nat.le_refl _) _⟩
theorem sync_nilp (w : World) : Calls Tryz.prog 43 #[.pointer none] w fun e w' => e = .returned (.int .i64 25) ∧ w = w' := by
  have HD := Lib.hid (fun W : World => down_nil W)
  go_enter Tryz.func43, Tryz.ntmps43
  go_wp2_with fail
  go_at_call 31
  refine (HD.out _).mono ?_
  rintro e w' ⟨rfl, rfl⟩
  go_wp2
  go_ret
  exact ⟨rfl, rfl⟩
theorem read_nilp (w : World) (n : ByteArray) : Calls Tryz.prog 17 #[.pointer none, .string n] w fun e w' => e = .returned (.tuple #[.string ⟨#[]⟩, .int .i64 25]) ∧ w = w' := by
  have HD := Lib.hid (fun W : World => down_nil W)
  go_enter Tryz.func17, Tryz.ntmps17
  go_wp2_with fail
  go_at_call 31
  refine (HD.out _).mono ?_
  rintro e w' ⟨rfl, rfl⟩
  go_wp2
  go_ret2
  exact ⟨rfl, rfl⟩
theorem names_nilp (w : World) : Calls Tryz.prog 14 #[.pointer none] w fun e w' => e = .returned (.slice none 0 0) ∧ w = w' := by
  have HD := Lib.hid (fun W : World => down_nil W)
  go_enter Tryz.func14, Tryz.ntmps14
  go_wp2_with fail
  go_at_call 31
  refine (HD.out _).mono ?_
  rintro e w' ⟨rfl, rfl⟩
  go_wp2
  go_ret
  exact ⟨rfl, rfl⟩

theorem pending_nilp (w : World) : Calls Tryz.prog 16 #[.pointer none] w fun e w' => e = .returned (.int .i64 0) ∧ w = w' := by
  have HD := Lib.hid (fun W : World => down_nil W)
  go_enter Tryz.func16, Tryz.ntmps16
  go_wp2
  go_ret
  exact ⟨rfl, rfl⟩
theorem fuse_nilp (w : World) (n : Int) : Calls Tryz.prog 29 #[.pointer none, .int .i64 n] w fun e w' => e = .returned (.tuple #[]) ∧ w = w' := by
  have HD := Lib.hid (fun W : World => down_nil W)
  go_enter Tryz.func29, Tryz.ntmps29
  go_wp2_with fail
  go_at_call 31
  refine (HD.out _).mono ?_
  rintro e w' ⟨rfl, rfl⟩
  go_wp2
  refine bodyPost_ret (results_none rfl _ _ _) rfl ?_
  exact ⟨rfl, rfl⟩
theorem crash_nilp (w : World) (n m : Int) : Calls Tryz.prog 27 #[.pointer none, .int .i64 n, .int .i64 m] w fun e w' => e = .returned (.tuple #[]) ∧ w = w' := by
  have HD := Lib.hid (fun W : World => down_nil W)
  go_enter Tryz.func27, Tryz.ntmps27
  go_wp2
  refine bodyPost_ret (results_none rfl _ _ _) rfl ?_
  exact ⟨rfl, rfl⟩

end Go.Proofs.YtbfgkcgnhgfkmaaGreat.Dk
