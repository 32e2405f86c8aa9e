/-
  The contracts of One. (Written by wip/gen/gen_one.py.)
-/
import Derived.Test.YtmmoimemfdbfgaaTlvRead
namespace Go.Proofs.Ytmmoimemfdbfgaa
open Go.RowKit
set_option linter.unusedSimpArgs false

theorem Tl.rd_err {b : ByteArray} {c : Int} (h : Tl.rd b = .err c) : c = 3 ∨ c = 5 ∨ c = 6 := by
  unfold Tl.rd Tl.fin Tl.long Tl.fin at h
  repeat' split at h
  all_goals first | (simp only [Tl.Res.err.injEq] at h; omega) | (simp at h)
theorem Tl.rd_ok {b : ByteArray} {a n : Nat} (h : Tl.rd b = .ok a n) : 2 ≤ a ∧ a + n ≤ b.size := by
  unfold Tl.rd Tl.fin Tl.long Tl.fin at h
  repeat' split at h
  all_goals first | (simp only [Tl.Res.ok.injEq] at h; omega) | (simp at h)
/-- what One returns -/
def Tl.one (b : ByteArray) : Tl.Res := match Tl.rd b with
  | .err c => .err c
  | .ok a n => if a + n < b.size then .err 4 else .ok a n
def elV (b : ByteArray) (a n : Nat) : Value := .agg #[.int .i64 (Tl.byt b 0), .string (b.extract a (a + n)), .string (b.extract 0 (a + n))]
def oneV (b : ByteArray) : Tl.Res → Value
  | .err c => .tuple #[.agg #[.int .i64 0, .string ⟨#[]⟩, .string ⟨#[]⟩], .int .i64 c]
  | .ok a n => .tuple #[elV b a n, .int .i64 0]
theorem Tl.one_err {b : ByteArray} {c : Int} (h : Tl.one b = .err c) : c = 3 ∨ c = 5 ∨ c = 6 ∨ c = 4 := by
  unfold Tl.one at h
  split at h
  · rename_i c' h'
    have := Tl.rd_err h'
    simp only [Tl.Res.err.injEq] at h; omega
  · split at h
    · simp only [Tl.Res.err.injEq] at h; omega
    · simp at h

/-- the variable that holds an element, in every world behind it -/
theorem z3_cells (w : World) (e : Ext (w.alloc Z3)) : e.out.cell? ⟨w.heap.size, 0, none⟩ = some (.int .i64 0) ∧ e.out.cell? ⟨w.heap.size, 1, none⟩ = some (.string ⟨#[]⟩) ∧ e.out.cell? ⟨w.heap.size, 2, none⟩ = some (.string ⟨#[]⟩) ∧
    (∀ k, e.out.frozen? ⟨w.heap.size, k, none⟩ = false) ∧ w.heap.size < e.out.heap.size := by
  have hz : w.heap.size < (w.alloc Z3).heap.size := by simp
  refine ⟨?_, ?_, ?_, ?_, ?_⟩
  · rw [e.cell hz]; unfold Z3; rw [World.cell?_alloc_at _ _ _ _ rfl]; rfl
  · rw [e.cell hz]; unfold Z3; rw [World.cell?_alloc_at _ _ _ _ rfl]; rfl
  · rw [e.cell hz]; unfold Z3; rw [World.cell?_alloc_at _ _ _ _ rfl]; rfl
  · intro k; rw [e.bel.frozen (p := ⟨w.heap.size, k, none⟩) hz]; exact World.frozen?_alloc_at _ _ _ _ rfl
  · have := e.bel.size; simp at this; omega
theorem z3_below (w : World) (e : Ext (w.alloc Z3)) : Below w.heap.size w e.out := ((Below.refl _ _).alloc (Nat.le_refl _) Z3).trans (e.bel.mono (by simp))

theorem rone_err (b : ByteArray) (c : Int) (w : World) (hs : b.size ≤ 1000000000) (hr : Tl.rd b = .err c) :
    Calls Try.prog 30 #[.string b] w fun e w' => e = .returned (oneV b (.err c)) ∧ Below w.heap.size w w' := by
  have hR := rread_any b
  rw [hr] at hR
  have u1 : (c != 0) = true := by have := Tl.rd_err hr; rw [bne_iff_ne]; omega
  go_enter Try.func30, Try.ntmps30
  go_wp2_with fail
  go_at_call 29
  refine (hR _ hs).mono ?_
  rintro e w1 ⟨rfl, hb1⟩
  obtain ⟨e1, rfl⟩ := (Ext.self (w.alloc Z3)).next hb1
  obtain ⟨d0, d1, d2, hf, hlt⟩ := z3_cells w e1
  have hB := z3_below w e1
  clear hb1 hR
  simp only [resV, errV, okV]
  go_wp2
  refine bodyPost_ret (v := oneV b (.err c)) (by simp [results, Try.results30, go_sem, oneV, elV, hlt, d0, d1, d2]) rfl ⟨rfl, ?_⟩
  exact (below_own (below_own (below_own hB _ _) _ _) _ _).alloc (by simp; omega) _
theorem rone_more (b : ByteArray) (a n : Nat) (w : World) (hs : b.size ≤ 1000000000) (hr : Tl.rd b = .ok a n) (hm : a + n < b.size) :
    Calls Try.prog 30 #[.string b] w fun e w' => e = .returned (oneV b (.err 4)) ∧ Below w.heap.size w w' := by
  have hR := rread_any b
  rw [hr] at hR
  have u2 : decide (0 < ((b.extract (a + n) b.size).size : Int)) = true := by simp [ByteArray.size_extract]; omega
  go_enter Try.func30, Try.ntmps30
  go_wp2_with fail
  go_at_call 29
  refine (hR _ hs).mono ?_
  rintro e w1 ⟨rfl, hb1⟩
  obtain ⟨e1, rfl⟩ := (Ext.self (w.alloc Z3)).next hb1
  obtain ⟨d0, d1, d2, hf, hlt⟩ := z3_cells w e1
  have hB := z3_below w e1
  clear hb1 hR
  simp only [resV, errV, okV]
  go_wp2
  refine bodyPost_ret (v := oneV b (.err 4)) (by simp [results, Try.results30, go_sem, oneV, elV, hlt, d0, d1, d2]) rfl ⟨rfl, ?_⟩
  exact (below_own (below_own (below_own hB _ _) _ _) _ _).alloc (by simp; omega) _
theorem rone_ok (b : ByteArray) (a n : Nat) (w : World) (hs : b.size ≤ 1000000000) (hr : Tl.rd b = .ok a n) (hm : ¬ a + n < b.size) :
    Calls Try.prog 30 #[.string b] w fun e w' => e = .returned (oneV b (.ok a n)) ∧ Below w.heap.size w w' := by
  have hR := rread_any b
  rw [hr] at hR
  have u2 : decide (0 < ((b.extract (a + n) b.size).size : Int)) = false := by simp [ByteArray.size_extract]; omega
  go_enter Try.func30, Try.ntmps30
  go_wp2_with fail
  go_at_call 29
  refine (hR _ hs).mono ?_
  rintro e w1 ⟨rfl, hb1⟩
  obtain ⟨e1, rfl⟩ := (Ext.self (w.alloc Z3)).next hb1
  obtain ⟨d0, d1, d2, hf, hlt⟩ := z3_cells w e1
  have hB := z3_below w e1
  clear hb1 hR
  simp only [resV, errV, okV]
  go_wp2
  refine bodyPost_ret (v := oneV b (.ok a n)) (by simp [results, Try.results30, go_sem, oneV, elV, hlt, d0, d1, d2]) rfl ⟨rfl, ?_⟩
  exact (below_own (below_own (below_own hB _ _) _ _) _ _).alloc (by simp; omega) _
theorem rone_any (b : ByteArray) (w : World) (hs : b.size ≤ 1000000000) :
    Calls Try.prog 30 #[.string b] w fun e w' => e = .returned (oneV b (Tl.one b)) ∧ Below w.heap.size w w' := by
  unfold Tl.one
  cases hr : Tl.rd b with
  | err c => exact rone_err b c w hs hr
  | ok a n =>
    by_cases hm : a + n < b.size
    · simp only [if_pos hm]; exact rone_more b a n w hs hr hm
    · simp only [if_neg hm]; exact rone_ok b a n w hs hr hm

theorem one_err (b : ByteArray) (c : Int) (w : World) (hs : b.size ≤ 1000000000) (hr : Tl.rd b = .err c) :
    Calls Try.prog 15 #[.string b] w fun e w' => e = .returned (oneV b (.err c)) ∧ Below w.heap.size w w' := by
  have hR := read_any b
  rw [hr] at hR
  have u1 : (c != 0) = true := by have := Tl.rd_err hr; rw [bne_iff_ne]; omega
  go_enter Try.func15, Try.ntmps15
  go_wp2_with fail
  go_at_call 16
  refine (hR _ hs).mono ?_
  rintro e w1 ⟨rfl, hb1⟩
  obtain ⟨e1, rfl⟩ := (Ext.self (w.alloc Z3)).next hb1
  obtain ⟨d0, d1, d2, hf, hlt⟩ := z3_cells w e1
  have hB := z3_below w e1
  clear hb1 hR
  simp only [resV, errV, okV]
  go_wp2
  refine bodyPost_ret (v := oneV b (.err c)) (by simp [results, Try.results15, go_sem, oneV, elV, hlt, d0, d1, d2]) rfl ⟨rfl, ?_⟩
  exact (below_own (below_own (below_own hB _ _) _ _) _ _).alloc (by simp; omega) _
theorem one_more (b : ByteArray) (a n : Nat) (w : World) (hs : b.size ≤ 1000000000) (hr : Tl.rd b = .ok a n) (hm : a + n < b.size) :
    Calls Try.prog 15 #[.string b] w fun e w' => e = .returned (oneV b (.err 4)) ∧ Below w.heap.size w w' := by
  have hR := read_any b
  rw [hr] at hR
  have u2 : (b.extract (a + n) b.size).toList.isEmpty = false := ne_empty _ (by simp [ByteArray.size_extract]; omega)
  go_enter Try.func15, Try.ntmps15
  go_wp2_with fail
  go_at_call 16
  refine (hR _ hs).mono ?_
  rintro e w1 ⟨rfl, hb1⟩
  obtain ⟨e1, rfl⟩ := (Ext.self (w.alloc Z3)).next hb1
  obtain ⟨d0, d1, d2, hf, hlt⟩ := z3_cells w e1
  have hB := z3_below w e1
  clear hb1 hR
  simp only [resV, errV, okV]
  go_wp2
  refine bodyPost_ret (v := oneV b (.err 4)) (by simp [results, Try.results15, go_sem, oneV, elV, hlt, d0, d1, d2]) rfl ⟨rfl, ?_⟩
  exact (below_own (below_own (below_own hB _ _) _ _) _ _).alloc (by simp; omega) _
theorem one_ok (b : ByteArray) (a n : Nat) (w : World) (hs : b.size ≤ 1000000000) (hr : Tl.rd b = .ok a n) (hm : ¬ a + n < b.size) :
    Calls Try.prog 15 #[.string b] w fun e w' => e = .returned (oneV b (.ok a n)) ∧ Below w.heap.size w w' := by
  have hR := read_any b
  rw [hr] at hR
  have u3 : b.extract (a + n) b.size = ⟨#[]⟩ := is_empty _ (by simp [ByteArray.size_extract]; omega)
  rw [resV, okV, u3] at hR
  go_enter Try.func15, Try.ntmps15
  go_wp2_with fail
  go_at_call 16
  refine (hR _ hs).mono ?_
  rintro e w1 ⟨rfl, hb1⟩
  obtain ⟨e1, rfl⟩ := (Ext.self (w.alloc Z3)).next hb1
  obtain ⟨d0, d1, d2, hf, hlt⟩ := z3_cells w e1
  have hB := z3_below w e1
  clear hb1 hR
  go_wp2
  refine bodyPost_ret (v := oneV b (.ok a n)) (by simp [results, Try.results15, go_sem, oneV, elV, hlt, d0, d1, d2]) rfl ⟨rfl, ?_⟩
  exact (below_own (below_own (below_own hB _ _) _ _) _ _).alloc (by simp; omega) _
theorem one_any (b : ByteArray) (w : World) (hs : b.size ≤ 1000000000) :
    Calls Try.prog 15 #[.string b] w fun e w' => e = .returned (oneV b (Tl.one b)) ∧ Below w.heap.size w w' := by
  unfold Tl.one
  cases hr : Tl.rd b with
  | err c => exact one_err b c w hs hr
  | ok a n =>
    by_cases hm : a + n < b.size
    · simp only [if_pos hm]; exact one_more b a n w hs hr hm
    · simp only [if_neg hm]; exact one_ok b a n w hs hr hm

end Go.Proofs.Ytmmoimemfdbfgaa
