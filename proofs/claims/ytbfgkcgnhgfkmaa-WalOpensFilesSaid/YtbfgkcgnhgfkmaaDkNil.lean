/-
  The calls of a nil disk.
-/
import Derived.Test.YtbfgkcgnhgfkmaaDkOpsB
namespace Go.Proofs.Ytbfgkcgnhgfkmaa.Dk
open Go Go.Maps Go.RowKit Go.Proofs.Ytbfgkcgnhgfkmaa.Slc
set_option linter.unusedVariables false
set_option linter.unusedSimpArgs false

theorem append_nilp (w : World) (n d : ByteArray) : Calls Try.prog 21 #[.pointer none, .string n, .string d] w fun e w' => e = .returned (.int .i64 25) ∧ Below w.heap.size w w' := by
  have HD := Lib.hid (fun W : World => down_nil W)
  go_enter Try.func21, Try.ntmps21
  go_wp2_with fail
  go_at_call 61
  refine (HD.out _).mono ?_
  rintro e w' ⟨rfl, rfl⟩
  go_wp2
  go_ret
  exact ⟨rfl, ((Below.refl _ w).alloc (Nat.le_refl _) _).alloc (by simp) _⟩
theorem rename_nilp (w : World) (n d : ByteArray) : Calls Try.prog 35 #[.pointer none, .string n, .string d] w fun e w' => e = .returned (.int .i64 25) ∧ Below w.heap.size w w' := by
  have HD := Lib.hid (fun W : World => down_nil W)
  go_enter Try.func35, Try.ntmps35
  go_wp2_with fail
  go_at_call 61
  refine (HD.out _).mono ?_
  rintro e w' ⟨rfl, rfl⟩
  go_wp2
  go_ret
  exact ⟨rfl, ((Below.refl _ w).alloc (Nat.le_refl _) _).alloc (by simp) _⟩
theorem remove_nilp (w : World) (n : ByteArray) : Calls Try.prog 36 #[.pointer none, .string n] w fun e w' => e = .returned (.int .i64 25) ∧ Below w.heap.size w w' := by
  have HD := Lib.hid (fun W : World => down_nil W)
  go_enter Try.func36, Try.ntmps36
  go_wp2_with fail
  go_at_call 61
  refine (HD.out _).mono ?_
  rintro e w' ⟨rfl, rfl⟩
  go_wp2
  go_ret
  exact ⟨rfl, (Below.refl _ w).alloc (Nat.le_refl _) _⟩
theorem sync_nilp (w : World) : Calls Try.prog 22 #[.pointer none] w fun e w' => e = .returned (.int .i64 25) ∧ w = w' := by
  have HD := Lib.hid (fun W : World => down_nil W)
  go_enter Try.func22, Try.ntmps22
  go_wp2_with fail
  go_at_call 61
  refine (HD.out _).mono ?_
  rintro e w' ⟨rfl, rfl⟩
  go_wp2
  go_ret
  exact ⟨rfl, rfl⟩
theorem read_nilp (w : World) (n : ByteArray) : Calls Try.prog 25 #[.pointer none, .string n] w fun e w' => e = .returned (.tuple #[.string ⟨#[]⟩, .int .i64 25]) ∧ w = w' := by
  have HD := Lib.hid (fun W : World => down_nil W)
  go_enter Try.func25, Try.ntmps25
  go_wp2_with fail
  go_at_call 61
  refine (HD.out _).mono ?_
  rintro e w' ⟨rfl, rfl⟩
  go_wp2
  go_ret2
  exact ⟨rfl, rfl⟩
theorem names_nilp (w : World) : Calls Try.prog 39 #[.pointer none] w fun e w' => e = .returned (.slice none 0 0) ∧ w = w' := by
  have HD := Lib.hid (fun W : World => down_nil W)
  go_enter Try.func39, Try.ntmps39
  go_wp2_with fail
  go_at_call 61
  refine (HD.out _).mono ?_
  rintro e w' ⟨rfl, rfl⟩
  go_wp2
  go_ret
  exact ⟨rfl, rfl⟩

theorem pending_nilp (w : World) : Calls Try.prog 33 #[.pointer none] w fun e w' => e = .returned (.int .i64 0) ∧ w = w' := by
  have HD := Lib.hid (fun W : World => down_nil W)
  go_enter Try.func33, Try.ntmps33
  go_wp2
  go_ret
  exact ⟨rfl, rfl⟩
theorem copy_nilp (w : World) : Calls Try.prog 37 #[.pointer none] w fun e w' => e = .returned (.pointer none) ∧ w = w' := by
  have HD := Lib.hid (fun W : World => down_nil W)
  go_enter Try.func37, Try.ntmps37
  go_wp2
  go_ret
  exact ⟨rfl, rfl⟩
theorem fuse_nilp (w : World) (n : Int) : Calls Try.prog 30 #[.pointer none, .int .i64 n] w fun e w' => e = .returned (.tuple #[]) ∧ w = w' := by
  have HD := Lib.hid (fun W : World => down_nil W)
  go_enter Try.func30, Try.ntmps30
  go_wp2_with fail
  go_at_call 61
  refine (HD.out _).mono ?_
  rintro e w' ⟨rfl, rfl⟩
  go_wp2
  refine bodyPost_ret (results_none rfl _ _ _) rfl ?_
  exact ⟨rfl, rfl⟩
theorem crash_nilp (w : World) (n m : Int) : Calls Try.prog 24 #[.pointer none, .int .i64 n, .int .i64 m] w fun e w' => e = .returned (.tuple #[]) ∧ w = w' := by
  have HD := Lib.hid (fun W : World => down_nil W)
  go_enter Try.func24, Try.ntmps24
  go_wp2
  refine bodyPost_ret (results_none rfl _ _ _) rfl ?_
  exact ⟨rfl, rfl⟩

end Go.Proofs.Ytbfgkcgnhgfkmaa.Dk
