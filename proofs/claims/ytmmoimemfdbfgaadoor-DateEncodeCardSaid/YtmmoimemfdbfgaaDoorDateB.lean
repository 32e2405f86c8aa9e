/-
  The contracts of the lengths of months, of both texts; what the table of lengths holds is a hypothesis on the world.
-/
import Derived.Test.YtmmoimemfdbfgaaDoorDateA
namespace Go.Proofs.YtmmoimemfdbfgaaDoor
open Go.RowKit

/-- the table's cells -/
def Tab (w : World) : Prop := ∀ m : Int, 1 ≤ m → m ≤ 12 → w.cell? ⟨0, m.toNat - 1, none⟩ = some (.int .i64 (Cal.tbl m))

theorem leap_yes (y : Int) (w : World) (h0 : 1 ≤ y) (h1 : y ≤ 20000) (hl : Cal.lp y = 1) :
    Calls Tryd.prog 37 #[.int .i64 y] w fun e w' => e = .returned (.bool true) ∧ w = w' := by
  have h4 : y % 4 = 0 := by unfold Cal.lp at hl; split at hl <;> omega
  have hh : y % 100 ≠ 0 ∨ y % 400 = 0 := by unfold Cal.lp at hl; split at hl <;> omega
  clear hl
  have d4 : (y % 4 == 0) = true := by simp [h4]
  clear h4
  by_cases h100 : y % 100 = 0
  · have h400 : y % 400 = 0 := by omega
    have d100 : (y % 100 != 0) = false := by simp [h100]
    have d400 : (y % 400 == 0) = true := by simp [h400]
    clear h100 h400 hh
    go_enter Tryd.func37, Tryd.ntmps37
    go_wp2
    go_ret
    exact ⟨rfl, rfl⟩
  · have d100 : (y % 100 != 0) = true := by simp [h100]
    clear h100 hh
    go_enter Tryd.func37, Tryd.ntmps37
    go_wp2
    go_ret
    exact ⟨rfl, rfl⟩

theorem leap_no (y : Int) (w : World) (h0 : 1 ≤ y) (h1 : y ≤ 20000) (hl : Cal.lp y = 0) :
    Calls Tryd.prog 37 #[.int .i64 y] w fun e w' => e = .returned (.bool false) ∧ w = w' := by
  have hh : y % 4 ≠ 0 ∨ (y % 100 = 0 ∧ y % 400 ≠ 0) := by unfold Cal.lp at hl; split at hl <;> omega
  clear hl
  by_cases h4 : y % 4 = 0
  · have d4 : (y % 4 == 0) = true := by simp [h4]
    have d100 : (y % 100 != 0) = false := by simp; omega
    have d400 : (y % 400 == 0) = false := by simp; omega
    clear h4 hh
    go_enter Tryd.func37, Tryd.ntmps37
    go_wp2
    go_ret
    exact ⟨rfl, rfl⟩
  · have d4 : (y % 4 == 0) = false := by simp [h4]
    clear h4 hh
    go_enter Tryd.func37, Tryd.ntmps37
    go_wp2
    go_ret
    exact ⟨rfl, rfl⟩

theorem length_any (y m : Int) (w : World) (h0 : 1 ≤ y) (h1 : y ≤ 20000) (h2 : 1 ≤ m) (h3 : m ≤ 12) (ht : Tab w) :
    Calls Tryd.prog 25 #[.int .i64 y, .int .i64 m] w fun e w' => e = .returned (.int .i64 (Cal.mlen y m)) ∧ w = w' := by
  by_cases hm : m = 2
  · subst hm
    have hc : w.cell? ⟨0, 1, none⟩ = some (.int .i64 28) := ht 2 (by omega) (by omega)
    clear ht
    by_cases hl : Cal.lp y = 1
    · have hf : Cal.mlen y 2 = 29 := by simp [Cal.mlen, hl]
      have H := Lib.hid hf; clear hf
      have HL := Lib.hid hl; clear hl
      go_enter Tryd.func25, Tryd.ntmps25
      go_wp2_with (go_at_call 37; refine (leap_yes _ _ (by omega) (by omega) HL.out).mono ?_; rintro e w' ⟨rfl, rfl⟩)
      go_ret
      exact ⟨by rw [H.out]; rfl, rfl⟩
    · have hl0 : Cal.lp y = 0 := by have := Cal.lp_01 y; omega
      have hf : Cal.mlen y 2 = 28 := by simp [Cal.mlen, hl0]
      have H := Lib.hid hf; clear hf
      have HL := Lib.hid hl0; clear hl0 hl
      go_enter Tryd.func25, Tryd.ntmps25
      go_wp2_with (go_at_call 37; refine (leap_no _ _ (by omega) (by omega) HL.out).mono ?_; rintro e w' ⟨rfl, rfl⟩)
      go_ret
      exact ⟨by rw [H.out]; rfl, rfl⟩
  · have hc := ht m h2 h3
    have hf : Cal.mlen y m = Cal.tbl m := by simp [Cal.mlen, hm]
    have H := Lib.hid hf; clear hf ht
    have d2 : (m == 2) = false := by simp [hm]
    clear hm
    go_enter Tryd.func25, Tryd.ntmps25
    go_wp2
    go_ret
    exact ⟨by rw [H.out]; rfl, rfl⟩

theorem rbefore_any (y : Int) (w : World) (h0 : 1 ≤ y) (h1 : y ≤ 20000) :
    Calls Tryd.prog 26 #[.int .i64 y] w fun e w' => e = .returned (.int .i64 (Cal.bef y)) ∧ w = w' := by
  go_enter Tryd.func26, Tryd.ntmps26
  go_wp2
  go_ret
  exact ⟨rfl, rfl⟩

def daysBlock : Obj := .cells #[.int .i64 31, .int .i64 28, .int .i64 31, .int .i64 30, .int .i64 31, .int .i64 30, .int .i64 31, .int .i64 31, .int .i64 30, .int .i64 31, .int .i64 30, .int .i64 31] 3
theorem days_cell (m : Int) (w : World) (h2 : 1 ≤ m) (h3 : m ≤ 12) : (w.alloc daysBlock).cell? ⟨w.heap.size, m.toNat - 1, none⟩ = some (.int .i64 (Cal.tbl m)) := by
  unfold daysBlock
  rw [World.cell?_alloc_at _ _ _ _ rfl]
  have : m = 1 ∨ m = 2 ∨ m = 3 ∨ m = 4 ∨ m = 5 ∨ m = 6 ∨ m = 7 ∨ m = 8 ∨ m = 9 ∨ m = 10 ∨ m = 11 ∨ m = 12 := by omega
  rcases this with rfl | rfl | rfl | rfl | rfl | rfl | rfl | rfl | rfl | rfl | rfl | rfl <;> rfl

theorem days_any (y m : Int) (w : World) (h0 : 1 ≤ y) (h1 : y ≤ 20000) (h2 : 1 ≤ m) (h3 : m ≤ 12) :
    Calls Tryd.prog 27 #[.int .i64 y, .int .i64 m] w fun e w' => e = .returned (.int .i64 (Cal.mlen y m)) ∧ Below w.heap.size w w' := by
  by_cases hm : m = 2
  · subst hm
    have hc := days_cell 2 w (by omega) (by omega)
    unfold daysBlock at hc
    by_cases h4 : y % 4 = 0
    · have d4 : (y % 4 == 0) = true := by simp [h4]
      by_cases h100 : y % 100 = 0
      · have d100 : (y % 100 != 0) = false := by simp [h100]
        by_cases h400 : y % 400 = 0
        · have d400 : (y % 400 == 0) = true := by simp [h400]
          have hf : Cal.mlen y 2 = 29 := by simp [Cal.mlen, Cal.lp, h4, h400]
          have H := Lib.hid hf; clear hf h4 h100 h400
          go_enter Tryd.func27, Tryd.ntmps27
          go_wp2
          go_ret
          exact ⟨by rw [H.out]; rfl, Below.refl _ _⟩
        · have d400 : (y % 400 == 0) = false := by simp [h400]
          have hf : Cal.mlen y 2 = 28 := by simp [Cal.mlen, Cal.lp, h100, h400]
          have H := Lib.hid hf; clear hf h4 h100 h400
          go_enter Tryd.func27, Tryd.ntmps27
          go_wp2
          go_ret
          exact ⟨by rw [H.out]; rfl, (Below.refl _ _).alloc (Nat.le_refl _) _⟩
      · have d100 : (y % 100 != 0) = true := by simp [h100]
        have hf : Cal.mlen y 2 = 29 := by simp [Cal.mlen, Cal.lp, h4, h100]
        have H := Lib.hid hf; clear hf h4 h100
        go_enter Tryd.func27, Tryd.ntmps27
        go_wp2
        go_ret
        exact ⟨by rw [H.out]; rfl, Below.refl _ _⟩
    · have d4 : (y % 4 == 0) = false := by simp [h4]
      have hf : Cal.mlen y 2 = 28 := by simp [Cal.mlen, Cal.lp, h4]
      have H := Lib.hid hf; clear hf h4
      go_enter Tryd.func27, Tryd.ntmps27
      go_wp2
      go_ret
      exact ⟨by rw [H.out]; rfl, (Below.refl _ _).alloc (Nat.le_refl _) _⟩
  · have hc := days_cell m w h2 h3
    unfold daysBlock at hc
    have hf : Cal.mlen y m = Cal.tbl m := by simp [Cal.mlen, hm]
    have H := Lib.hid hf; clear hf
    have d2 : (m == 2) = false := by simp [hm]
    clear hm
    go_enter Tryd.func27, Tryd.ntmps27
    go_wp2
    go_ret
    exact ⟨by rw [H.out]; rfl, (Below.refl _ _).alloc (Nat.le_refl _) _⟩

end Go.Proofs.YtmmoimemfdbfgaaDoor
