/-
  The walk of TlvWrap: it returns true.
-/
import Derived.Test.YtmmoimemfdbfgaaTlvFew
namespace Go.Proofs.Ytmmoimemfdbfgaa
open Go.RowKit
set_option linter.unusedSimpArgs false

def i3 (a b c : Int) : Obj := .cells #[.int .i64 a, .int .i64 b, .int .i64 c] 3
theorem i3_cell (a b c : Int) (w : World) (k : Nat) (hk : k < 3) : ∃ x : Int, ∀ e : Ext (w.alloc (i3 a b c)), e.out.cell? ⟨w.heap.size, k, none⟩ = some (.int .i64 x) := by
  have hz : w.heap.size < (w.alloc (i3 a b c)).heap.size := by simp
  have : k = 0 ∨ k = 1 ∨ k = 2 := by omega
  rcases this with rfl | rfl | rfl
  · exact ⟨a, fun e => by rw [e.cell hz]; unfold i3; rw [World.cell?_alloc_at _ _ _ _ rfl]; rfl⟩
  · exact ⟨b, fun e => by rw [e.cell hz]; unfold i3; rw [World.cell?_alloc_at _ _ _ _ rfl]; rfl⟩
  · exact ⟨c, fun e => by rw [e.cell hz]; unfold i3; rw [World.cell?_alloc_at _ _ _ _ rfl]; rfl⟩
theorem Strs.below {w w' : World} {v : Value} {xs : List ByteArray} (h : Strs w v xs) (hb : Below w.heap.size w w') : Strs w' v xs := by
  cases h with
  | none a c => exact .none a c
  | some bk o c x xs hk hc hn h => exact .some bk o c x xs (Nat.lt_of_lt_of_le hk hb.size) hc hn (fun j y hj => by rw [hb.cell (p := ⟨bk, o + j, Option.none⟩) hk]; exact h j y hj)
theorem wrapR_form (tag : Int) (l : List UInt8) : ∃ (s : List UInt8) (c : Int), wrapR tag l = .tuple #[.string ⟨s.toArray⟩, .int .i64 c] := by
  unfold wrapR wrapV
  split
  · exact ⟨[], _, rfl⟩
  · split
    · exact ⟨[], _, rfl⟩
    · exact ⟨_, _, rfl⟩

theorem law_wrap (tag : Int) (v : Value) (xs : List ByteArray) (w : World) (h : Strs w v xs) :
    Calls Try.prog 3 #[.int .i64 tag, v] w fun e w' => e = .returned (.bool true) ∧ Below w.heap.size w w' := by
  have hF := few_any v xs 20 400 20 400 rfl rfl w h
  cases hf : few xs 20 400 with
  | false =>
    rw [hf] at hF
    go_enter Try.func3, Try.ntmps3
    go_wp2_with fail
    go_at_call 11
    refine hF.mono ?_
    rintro e w1 ⟨rfl, rfl⟩
    go_wp2_with fail
    go_at_call 12
    refine (awake_any _).mono ?_
    rintro e w1 ⟨rfl, hb1⟩
    go_wp2
    go_ret
    exact ⟨rfl, hb1⟩
  | true =>
    rw [hf] at hF
    have hsz := few_size hf
    have hlen : xs.length ≤ 20 := by unfold few at hf; simp only [Bool.and_eq_true, decide_eq_true_eq] at hf; exact hf.1
    have hW := fun (W : World) (hb : Below w.heap.size w W) (t : Int) => wrap_any t v xs W (h.below hb) (by omega) (by omega)
    have hR := fun (W : World) (hb : Below w.heap.size w W) (t : Int) => rwrap_any t v xs W (h.below hb) (by omega) (by omega)
    have HW := Lib.hid hW
    have HR := Lib.hid hR
    clear hW hR hsz hlen hf h
    go_enter Try.func3, Try.ntmps3
    go_wp2_with fail
    go_at_call 11
    refine hF.mono ?_
    rintro e w1 ⟨rfl, rfl⟩
    clear hF
    have hcell := i3_cell tag (bits .and .i64 tag 255) (bits .and .i64 tag 31) w
    go_wp2
    change Code.wp _ _ _ _ (w.alloc (i3 tag (bits .and .i64 tag 255) (bits .and .i64 tag 31)))
    have hB : ∀ e : Ext (w.alloc (i3 tag (bits .and .i64 tag 255) (bits .and .i64 tag 31))), Below w.heap.size w e.out := fun e => ((Below.refl _ _).alloc (Nat.le_refl _) _).trans (e.bel.mono (by simp))
    obtain ⟨e0, he0⟩ : ∃ e : Ext (w.alloc (i3 tag (bits .and .i64 tag 255) (bits .and .i64 tag 31))), w.alloc (i3 tag (bits .and .i64 tag 255) (bits .and .i64 tag 31)) = e.out := ⟨Ext.self _, rfl⟩
    rw [he0]; clear he0
    generalize w.alloc (i3 tag (bits .and .i64 tag 255) (bits .and .i64 tag 31)) = W at *
    go_loopw [22] (fun i wr => ∃ j : Nat, j ≤ 3 ∧ i = .int .i64 j ∧ ∃ e : Ext W, wr = e.out) (fun i _ => 3 - (intOf i).toNat)
    case atStart => exact ⟨0, by omega, rfl, e0, rfl⟩
    case round =>
      obtain ⟨j, hj, rfl, e1, rfl⟩ := hrel
      by_cases hlt : j < 3
      · obtain ⟨x, hx⟩ := hcell j hlt
        have hx1 := hx e1
        obtain ⟨s, c, hs⟩ := wrapR_form x (Tl.flat xs)
        have k1 := fun W hb => HW.out W hb x
        have k2 := fun W hb => HR.out W hb x
        rw [hs] at k1 k2
        clear hx hs hcell
        go_wp2_with fail
        go_at_call 13
        refine (k1 _ (hB _)).mono ?_
        rintro e w2 ⟨rfl, hb2⟩
        obtain ⟨e2, rfl⟩ := e1.next hb2
        clear hb2 k1
        go_wp2_with fail
        go_at_call 14
        refine (k2 _ (hB _)).mono ?_
        rintro e w3 ⟨rfl, hb3⟩
        obtain ⟨e3, rfl⟩ := e2.next hb3
        clear hb3 k2
        go_wp2
        go_roundw
        case rel => exact ⟨j + 1, by omega, by go_num, e3, rfl⟩
        case measure => simp [intOf]; omega
      · obtain rfl : j = 3 := by omega
        go_wp2_with fail
        go_at_call 12
        refine (awake_any _).mono ?_
        rintro e w2 ⟨rfl, hb2⟩
        obtain ⟨e2, rfl⟩ := e1.next hb2
        clear hb2
        go_wp2
        go_ret
        exact ⟨rfl, hB e2⟩

end Go.Proofs.Ytmmoimemfdbfgaa
