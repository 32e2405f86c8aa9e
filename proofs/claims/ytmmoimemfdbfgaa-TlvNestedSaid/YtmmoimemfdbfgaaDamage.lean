/-
  Damage: a string of at most one byte more.
-/
import Derived.Test.YtmmoimemfdbfgaaDeck
import Derived.Test.YtmmoimemfdbfgaaTlvRead
namespace Go.Proofs.Ytmmoimemfdbfgaa
open Go.RowKit
set_option linter.unusedSimpArgs false

theorem grown_trans {w w1 w2 : World} {g : Option Nat} (h : w.grownBy w1 g) (h' : w1.grownBy w2 g) : w.grownBy w2 g :=
  ⟨h'.os.trans h.os, h'.tape.trans h.tape, h'.output.trans h.output, Nat.le_trans h.size h'.size, fun k hk hne => (h'.block k (Nat.lt_of_lt_of_le hk h.size) hne).trans (h.block k hk hne)⟩
theorem grown_below {w w1 w2 : World} {g : Option Nat} (h : w.grownBy w1 g) (h' : Below w1.heap.size w1 w2) : w.grownBy w2 g :=
  ⟨h'.os.trans h.os, h'.tape.trans h.tape, h'.output.trans h.output, Nat.le_trans h.size h'.size, fun k hk hne => (h'.block k (Nat.lt_of_lt_of_le hk h.size)).trans (h.block k hk hne)⟩
def DamagePost (W0 : World) (v : Value) (zs : List Int) (n : Nat) (g : Nat) (w : World) (e : Ending) (w' : World) : Prop :=
  ∃ s : ByteArray, e = .returned (.string s) ∧ s.size ≤ n + 1 ∧ Deck W0 v zs w' g ∧ w.grownBy w' (some g)
theorem app_size (a b : ByteArray) : (a ++ b).size = a.size + b.size := ByteArray.size_append

set_option maxHeartbeats 1000000 in
theorem damage_any (W0 : World) (v : Value) (zs : List Int) (w : World) (g : Nat) (s : ByteArray) (h : Deck W0 v zs w g) (hs : s.size ≤ 1000000000) :
    Calls Try.prog 20 #[.pointer (some ⟨g, 0, none⟩), .string s] w (DamagePost W0 v zs s.size g w) := by
  by_cases hz : s.size = 0
  · have e0 := is_empty s hz
    clear hz hs
    subst e0
    go_enter Try.func20, Try.ntmps20
    go_wp2
    go_ret
    exact ⟨⟨#[]⟩, rfl, Nat.zero_le _, h, grown_refl _ _⟩
  · have u0 := ne_empty s (by omega)
    have hN := fun (w : World) (n : Int) (h : Deck W0 v zs w g) => next_any W0 v zs w g n h
    go_enter Try.func20, Try.ntmps20
    go_wp2_with fail
    go_at_call 35
    refine (hN _ _ h (by omega) (by omega)).mono ?_
    rintro _ w1 ⟨r, rfl, hr0, hr1, hD, hG⟩
    obtain ⟨k, rfl⟩ : ∃ k : Nat, r = k := ⟨r.toNat, by omega⟩
    clear h hr0
    go_wp2_with fail
    go_at_call 35
    refine (hN _ _ hD (by omega) (by omega)).mono ?_
    rintro _ w2 ⟨c, rfl, hc0, hc1, hD2, hG2⟩
    have hG := grown_trans hG hG2
    have hcv := By.back_self w2 #[.int .u8 c] [By.hb c] w2.heap.size 1 (by simp [By.byteV, By.hb_of c hc0 (by omega)]) rfl rfl (by omega)
    have hB := (Below.refl w2.heap.size w2).alloc (Nat.le_refl _) (.cells #[.int .u8 c] 5)
    have hD := hD2.below hB
    have hG := grown_below hG hB
    clear hG2 hD2 hB
    go_wp2_with fail
    go_at_call 35
    refine (hN _ _ hD (by omega) (by omega)).mono ?_
    rintro _ w3 ⟨d, rfl, hd0, hd1, hD3, hG3⟩
    have hG := grown_trans hG hG3
    clear hG3 hD hN hcv
    have hsz1 : (⟨[By.hb c].toArray⟩ : ByteArray).size = 1 := rfl
    generalize (⟨[By.hb c].toArray⟩ : ByteArray) = C at *
    have hk : k < s.size := by omega
    have x1 := sl_h s k k rfl (by omega)
    have x2 := sl_l s (k + 1) (k + 1) (by omega) (by omega)
    have x3 := sl_l s k k rfl (by omega)
    have y1 : (s.extract 0 k).size = k := by simp [ByteArray.size_extract]; omega
    have y2 : (s.extract (k + 1) s.size).size = s.size - (k + 1) := by simp [ByteArray.size_extract]
    have y3 : (s.extract k s.size).size = s.size - k := by simp [ByteArray.size_extract]
    clear u0
    generalize s.extract 0 k = A at *
    generalize s.extract (k + 1) s.size = B1 at *
    generalize s.extract k s.size = B2 at *
    have k1 : IntKind.i64.wrap ((k : Int) + 1) = (k : Int) + 1 := IntWalk.i64_in _ (by omega)
    have F1 := Lib.hid (show A.size = k ∧ B1.size = s.size - (k + 1) ∧ B2.size = s.size - k ∧ C.size = 1 ∧ k < s.size from ⟨y1, y2, y3, hsz1, hk⟩)
    have n1 : A.size + C.size ≤ 9223372036854775807 := by omega
    have n2 : (A ++ C).size + B1.size ≤ 9223372036854775807 := by rw [app_size]; omega
    have n3 : (A ++ C).size + B2.size ≤ 9223372036854775807 := by rw [app_size]; omega
    have n4 : A.size + B1.size ≤ 9223372036854775807 := by omega
    have a1 := fun W : World => run_string_add_sum (P := Try.prog) W A C n1
    have a2 := fun W : World => run_string_add_sum (P := Try.prog) W (A ++ C) B1 n2
    have a3 := fun W : World => run_string_add_sum (P := Try.prog) W (A ++ C) B2 n3
    have a4 := fun W : World => run_string_add_sum (P := Try.prog) W A B1 n4
    clear y1 y2 y3 hsz1 hk
    have hd : d = 0 ∨ d = 1 ∨ d = 2 ∨ d = 3 ∨ d = 4 := by omega
    rcases hd with rfl | rfl | rfl | rfl | rfl
    · go_wp2
      go_quiet (fail)
      go_wp2
      go_ret
      refine ⟨A ++ C ++ B1, rfl, ?_, hD3.drewN _, grown_drewN hG _⟩
      obtain ⟨q1, q2, q3, q4, q5⟩ := F1.out
      rw [app_size, app_size]; omega
    · go_wp2
      go_quiet (fail)
      go_wp2
      go_ret
      refine ⟨A ++ C ++ B2, rfl, ?_, hD3.drewN _, grown_drewN hG _⟩
      obtain ⟨q1, q2, q3, q4, q5⟩ := F1.out
      rw [app_size, app_size]; omega
    · go_wp2
      go_quiet (fail)
      go_wp2
      go_ret
      refine ⟨A ++ B1, rfl, ?_, hD3.drewN _, grown_drewN hG _⟩
      obtain ⟨q1, q2, q3, q4, q5⟩ := F1.out
      rw [app_size]; omega
    · go_wp2
      go_ret
      refine ⟨A, rfl, ?_, hD3, hG⟩
      obtain ⟨q1, q2, q3, q4, q5⟩ := F1.out
      omega
    · go_wp2
      go_ret
      refine ⟨s, rfl, ?_, hD3, hG⟩
      obtain ⟨q1, q2, q3, q4, q5⟩ := F1.out
      omega

end Go.Proofs.Ytmmoimemfdbfgaa
