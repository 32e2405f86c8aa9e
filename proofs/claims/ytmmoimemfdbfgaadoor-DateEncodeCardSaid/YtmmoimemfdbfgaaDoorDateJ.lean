/-
  The contracts of parts, Decode and DecodeTime.
-/
import Derived.Test.YtmmoimemfdbfgaaDoorDateI
import Derived.Test.YtmmoimemfdbfgaaDoorTail
import Derived.Laws.DeepStrings4
namespace Go.Proofs.YtmmoimemfdbfgaaDoor
open Go.RowKit

/-- the number that two bytes spell -/
def pr (s : ByteArray) (k : Nat) : Int := Dig.num (s.extract k (k + 2)).data.toList

theorem pair_any (s : ByteArray) (k : Nat) (w : World) :
    Calls Tryd.prog 29 #[.string (s.extract k (k + 2))] w fun e w' => e = .returned (.int .i64 (pr s k)) ∧ Below w.heap.size w w' :=
  number_any (s.extract k (k + 2)) w (by simp [ByteArray.size_extract]; omega)

theorem slice_lh (s : ByteArray) (lo hi : Nat) (h1 : lo ≤ hi) (h2 : hi ≤ s.size) (w : World) :
    (Instr.slice 9 (.string s) (some (.int .i64 lo)) (some (.int .i64 hi)) none).run Tryd.prog w = .ok (.string (s.extract lo hi)) w := by
  rw [run_slice_string_if w _ s _ _ _ _ Tryd.underlying9]
  simp [h1, h2]

theorem parts_any (year : Int) (s : ByteArray) (w : World) (hs2 : 10 ≤ s.size) :
    Calls Tryd.prog 30 #[.int .i64 year, .string s] w fun e w' => e = .returned (.agg #[.int .i64 year, .int .i64 (pr s 0), .int .i64 (pr s 2), .int .i64 (pr s 4), .int .i64 (pr s 6), .int .i64 (pr s 8)]) ∧ Below w.heap.size w w' := by

  have hd := date_cells 0 0 0 0 0 0 w
  have c0 := fun e => (hd e).1
  have c1 := fun e => (hd e).2.1
  have c2 := fun e => (hd e).2.2.1
  have c3 := fun e => (hd e).2.2.2.1
  have c4 := fun e => (hd e).2.2.2.2.1
  have c5 := fun e => (hd e).2.2.2.2.2
  have hf := zero_cells w
  have hB : ∀ e : Ext (w.alloc (dateBlock 0 0 0 0 0 0)), Below w.heap.size w e.out := fun e => box_below w _ e
  have r1 := slice_lh s 2 4 (by omega) (by omega)
  have r2 := slice_lh s 4 6 (by omega) (by omega)
  have r3 := slice_lh s 6 8 (by omega) (by omega)
  have r4 := slice_lh s 8 10 (by omega) (by omega)
  clear hd
  go_enter Tryd.func30, Tryd.ntmps30
  go_wp2_with fail
  change Code.wp _ _ _ _ (w.alloc (dateBlock 0 0 0 0 0 0))
  generalize w.alloc (dateBlock 0 0 0 0 0 0) = W at *
  refine wp_region_ext_tail 17 (Ext.self W) (by kernel_rfl) (by kernel_rfl) rfl rfl ?_
  simp only [List.take_succ_cons, List.take_zero, List.drop_succ_cons, List.drop_zero]
  repeat (go_big_quiet_step (fail))
  go_big_quiet_step ((go_at_call 29; exact ext_of (pair_any s 0 _)))
  repeat (go_big_quiet_step (fail))
  go_big_quiet_step ((go_at_call 29; exact ext_of (pair_any s 2 _)))
  repeat (go_big_quiet_step (fail))
  go_big_quiet_step ((go_at_call 29; exact ext_of (pair_any s 4 _)))
  repeat (go_big_quiet_step (fail))
  go_big_quiet_step ((go_at_call 29; exact ext_of (pair_any s 6 _)))
  repeat (go_big_quiet_step (fail))
  go_big_quiet_step ((go_at_call 29; exact ext_of (pair_any s 8 _)))
  repeat (go_big_quiet_step (fail))
  refine wpQuiet_nil ?_
  rintro _ ⟨e1, rfl⟩
  go_wp2
  refine bodyPost_ret (v := .agg #[.int .i64 year, .int .i64 (pr s 0), .int .i64 (pr s 2), .int .i64 (pr s 4), .int .i64 (pr s 6), .int .i64 (pr s 8)]) (by simp [results, Tryd.results30, go_sem, c0, c1, c2, c3, c4, c5]) rfl ⟨rfl, ?_⟩
  iterate 6 refine below_own ?_ _ _
  exact hB _

end Go.Proofs.YtmmoimemfdbfgaaDoor
