/-
  The walk of WalNone: it returns true.
-/
import Derived.Test.YtbfgkcgnhgfkmaaWlR
namespace Go.Proofs.Ytbfgkcgnhgfkmaa.Wl
open Go Go.RowKit Go.Proofs.Ytbfgkcgnhgfkmaa.Slc Go.Proofs.Ytbfgkcgnhgfkmaa.Hs
open Go.Proofs.Ytbfgkcgnhgfkmaa.Dk (Fr ptr bstr bstr_size bstr_list bstr_back)
set_option linter.unusedVariables false
set_option linter.unusedSimpArgs false

theorem open_nil (w : World) (n : ByteArray) : Calls Try.prog 50 #[.pointer none, .string n] w fun e w' => e = .returned (.tuple #[.pointer none, .slice none 0 0, .int .i64 25]) ∧ Below w.heap.size w w' := by
  have HR := Lib.hid (fun W => Dk.read_nilp W n)
  go_enter Try.func50, Try.ntmps50
  go_wp2_with fail
  go_at_call 25
  refine (HR.out _).mono ?_
  rintro e w' ⟨rfl, rfl⟩
  go_wp2_with fail
  go_ret3
  exact ⟨rfl, (Below.refl _ _).alloc (Nat.le_refl _) _⟩
theorem append_nil (w : World) (n : ByteArray) : Calls Try.prog 51 #[.pointer none, .string n] w fun e w' => e = .returned (.int .i64 28) ∧ w = w' := by
  go_enter Try.func51, Try.ntmps51
  go_wp2_with fail
  go_ret
  exact ⟨rfl, rfl⟩
theorem sync_nil (w : World) : Calls Try.prog 52 #[.pointer none] w fun e w' => e = .returned (.int .i64 28) ∧ w = w' := by
  go_enter Try.func52, Try.ntmps52
  go_wp2_with fail
  go_ret
  exact ⟨rfl, rfl⟩
theorem reset_nil (w : World) (n : ByteArray) : Calls Try.prog 53 #[.pointer none, .string n] w fun e w' => e = .returned (.int .i64 28) ∧ w = w' := by
  go_enter Try.func53, Try.ntmps53
  go_wp2_with fail
  go_ret
  exact ⟨rfl, rfl⟩
theorem len_nil (w : World) : Calls Try.prog 54 #[.pointer none] w fun e w' => e = .returned (.int .i64 0) ∧ w = w' := by
  go_enter Try.func54, Try.ntmps54
  go_wp2_with fail
  go_ret
  exact ⟨rfl, rfl⟩
theorem size_nil (w : World) : Calls Try.prog 55 #[.pointer none] w fun e w' => e = .returned (.int .i64 0) ∧ w = w' := by
  go_enter Try.func55, Try.ntmps55
  go_wp2_with fail
  go_ret
  exact ⟨rfl, rfl⟩
set_option maxRecDepth 10000 in
set_option maxHeartbeats 2000000 in
theorem law_none (s : ByteArray) (w : World) (hz : s.size ≤ 140737488355328) :
    Calls Try.prog 15 #[.string s] w fun e w' => e = .returned (.bool true) ∧ Below w.heap.size w w' := by
  have HAW := Lib.hid (fun W => wawake_any W)
  have HO := Lib.hid (open_nil w s)
  have H1 := Lib.hid (fun W => append_nil W s)
  have H2 := Lib.hid (fun W => sync_nil W)
  have H3 := Lib.hid (fun W => reset_nil W s)
  have H4 := Lib.hid (fun W => len_nil W)
  have H5 := Lib.hid (fun W => size_nil W)
  go_enter Try.func15, Try.ntmps15
  go_wp2_with fail
  go_at_call 50
  refine HO.out.mono ?_
  rintro e w1 ⟨rfl, hb1⟩
  have HB1 := Lib.hid hb1
  clear hb1
  go_wp2_with fail
  go_at_call 51
  refine (H1.out _).mono ?_
  rintro e w' ⟨rfl, rfl⟩
  go_wp2_with fail
  go_at_call 52
  refine (H2.out _).mono ?_
  rintro e w' ⟨rfl, rfl⟩
  go_wp2_with fail
  go_at_call 53
  refine (H3.out _).mono ?_
  rintro e w' ⟨rfl, rfl⟩
  go_wp2_with fail
  go_at_call 54
  refine (H4.out _).mono ?_
  rintro e w' ⟨rfl, rfl⟩
  go_wp2_with fail
  go_at_call 55
  refine (H5.out _).mono ?_
  rintro e w' ⟨rfl, rfl⟩
  go_wp2_with fail
  go_at_call 43
  refine (HAW.out _).mono ?_
  rintro e w4 ⟨rfl, hb4⟩
  have HB4 := Lib.hid (HB1.out.trans (hb4.mono HB1.out.size))
  clear hb4
  go_wp2
  go_ret
  exact ⟨rfl, HB4.out⟩
end Go.Proofs.Ytbfgkcgnhgfkmaa.Wl
