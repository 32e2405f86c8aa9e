/-
  The chapter's examples (awake returns true), and near (it returns some number).
-/
import Derived.Test.YtmmoimemfdbfgaaDoorDateM
namespace Go.Proofs.YtmmoimemfdbfgaaDoor
open Go.RowKit

theorem vld_first : Cal.Vld 1950 1 1 0 0 0 := ⟨by decide, by decide, by decide, by decide, by decide, by decide, by decide, by decide, by decide, by decide, by decide, by decide⟩
theorem vld_feb : Cal.Vld 1950 2 1 0 0 0 := ⟨by decide, by decide, by decide, by decide, by decide, by decide, by decide, by decide, by decide, by decide, by decide, by decide⟩

theorem civil_zero (w : World) (ht : Tab w) :
    Calls Tryd.prog 10 #[.int .i64 0] w fun e w' => e = .returned (.tuple #[.agg #[.int .i64 1950, .int .i64 1, .int .i64 1, .int .i64 0, .int .i64 0, .int .i64 0], .int .i64 0]) ∧ Below w.heap.size w w' := by
  refine (civil_good 0 w ht (by omega) (by omega)).mono ?_
  rintro e w' ⟨y, m, d, h, n, s, rfl, v, hs, hb⟩
  obtain ⟨rfl, rfl, rfl, rfl, rfl, rfl⟩ := Cal.sec_inj v vld_first (hs.trans (by decide))
  exact ⟨rfl, hb⟩

theorem format_feb (w : World) (ht : Tab w) :
    Calls Tryd.prog 18 #[.int .i64 2678400] w fun e w' => e = .returned (.tuple #[.string ⟨#[49, 57, 53, 48, 45, 48, 50, 45, 48, 49, 32, 48, 48, 58, 48, 48, 58, 48, 48]⟩, .int .i64 0]) ∧ Below w.heap.size w w' := by
  refine (format_good 2678400 w ht (by omega) (by omega)).mono ?_
  rintro e w' ⟨y, m, d, h, n, s, v, hs, rfl, hb⟩
  obtain ⟨rfl, rfl, rfl, rfl, rfl, rfl⟩ := Cal.sec_inj v vld_feb (hs.trans (by decide))
  refine ⟨?_, hb⟩
  exact congrArg (fun x : List UInt8 => Ending.returned (.tuple #[.string ⟨x.toArray⟩, .int .i64 0])) (by decide : Dig.txt 1950 2 1 0 0 0 5 = [49, 57, 53, 48, 45, 48, 50, 45, 48, 49, 32, 48, 48, 58, 48, 48, 58, 48, 48])

def utcFirst : ByteArray := ⟨#[53, 48, 48, 49, 48, 49, 48, 48, 48, 48, 48, 48, 90]⟩
theorem decode_first (w : World) (ht : Tab w) :
    Calls Tryd.prog 16 #[.int .i64 23, .string utcFirst] w fun e w' => e = .returned (.tuple #[.int .i64 0, .int .i64 0]) ∧ Below w.heap.size w w' := by
  have h := decode23_hi utcFirst w ht rfl rfl (by decide +kernel)
  have e1 : yr utcFirst 2 + 1900 = 1950 := by decide +kernel
  have e2 : prs utcFirst 2 0 = 1 := by decide +kernel
  have e3 : prs utcFirst 2 2 = 1 := by decide +kernel
  have e4 : prs utcFirst 2 4 = 0 := by decide +kernel
  have e5 : prs utcFirst 2 6 = 0 := by decide +kernel
  have e6 : prs utcFirst 2 8 = 0 := by decide +kernel
  have v1 : dresV utcFirst 2 (yr utcFirst 2 + 1900) = 0 := by
    unfold dresV secV; rw [e1, e2, e3, e4, e5, e6, if_pos vld_first]; decide
  have v2 : dresE utcFirst 2 (yr utcFirst 2 + 1900) = 0 := by
    unfold dresE secE; rw [e1, e2, e3, e4, e5, e6, if_pos vld_first]
  rw [v1, v2] at h
  exact h

theorem awake_any (w : World) (ht : Tab w) :
    Calls Tryd.prog 13 #[] w fun e w' => e = .returned (.bool true) ∧ Below w.heap.size w w' := by
  go_enter Tryd.func13, Tryd.ntmps13
  go_wp2_with fail
  go_at_call 18
  refine (format_feb _ ht).mono ?_
  rintro e w1 ⟨rfl, hb1⟩
  have ht1 := ht.below hb1
  go_wp2_with fail
  go_at_call 16
  refine (decode_first _ ht1).mono ?_
  rintro e w2 ⟨rfl, hb2⟩
  have ht2 := ht1.below hb2
  go_wp2_with fail
  go_at_call 10
  refine (civil_zero _ ht2).mono ?_
  rintro e w3 ⟨rfl, hb3⟩
  go_wp2
  go_ret
  exact ⟨rfl, (hb1.trans ((hb2.trans (hb3.mono hb2.size)).mono hb1.size)).alloc (by have := hb1.size; have := hb2.size; have := hb3.size; omega) _⟩

/-- near returns some number -/
def Some64 (w : World) (e : Ending) (w' : World) : Prop := ∃ n : Int, e = .returned (.int .i64 n) ∧ Below w.heap.size w w'

theorem near_any (t k d : Int) (w : World) (hk0 : 0 ≤ k) (hk1 : k ≤ 65535) (hd0 : -128 ≤ d) (hd1 : d ≤ 127) :
    Calls Tryd.prog 9 #[.int .i64 t, .int .u16 k, .int .i8 d] w (Some64 w) := by
  have h4 : k % 4 = 0 ∨ k % 4 = 1 ∨ k % 4 = 2 ∨ k % 4 = 3 := by omega
  rcases h4 with h | h | h | h
  · have q0 : (k % 4 == 0) = true := by simp [h]
    clear h
    go_enter Tryd.func9, Tryd.ntmps9
    go_wp2
    go_ret
    exact ⟨_, rfl, Below.refl _ _⟩
  · have q0 : (k % 4 == 0) = false := by simp [h]
    have q1 : (k % 4 == 1) = true := by simp [h]
    clear h
    go_enter Tryd.func9, Tryd.ntmps9
    go_wp2
    go_ret
    exact ⟨_, rfl, Below.refl _ _⟩
  · have q0 : (k % 4 == 0) = false := by simp [h]
    have q1 : (k % 4 == 1) = false := by simp [h]
    have q2 : (k % 4 == 2) = true := by simp [h]
    clear h
    go_enter Tryd.func9, Tryd.ntmps9
    go_wp2_with fail
    go_at_call 14
    refine (rsecs_any _ _ _ _ _ _ _).mono ?_
    rintro e w1 ⟨rfl, hb⟩
    go_wp2
    go_ret
    exact ⟨_, rfl, hb⟩
  · have q0 : (k % 4 == 0) = false := by simp [h]
    have q1 : (k % 4 == 1) = false := by simp [h]
    have q2 : (k % 4 == 2) = false := by simp [h]
    clear h
    go_enter Tryd.func9, Tryd.ntmps9
    go_wp2
    go_ret
    exact ⟨_, rfl, Below.refl _ _⟩

end Go.Proofs.YtmmoimemfdbfgaaDoor
