/-
  The contracts of Dec and pad, and of FormatTime.
-/
import Derived.Test.YtmmoimemfdbfgaaDoorDateG
import Derived.Deep.RegionWith
import Derived.IntWalk
namespace Go.Proofs.YtmmoimemfdbfgaaDoor
open Go.RowKit

theorem bytes_cat (l r : List UInt8) : (⟨l.toArray⟩ : ByteArray) ++ ⟨r.toArray⟩ = ⟨(l ++ r).toArray⟩ := by
  apply ByteArray.ext
  simp
/-- a new slice of one byte, as a string -/
theorem one_back (w : World) (b : Nat) (c : UInt8) (h : w.cell? ⟨b, 0, none⟩ = some (.int .u8 (c.toNat : Int))) :
    (convert 44 9 (.slice (some ⟨b, 0, none⟩) 1 1)).run Tryd.prog w = .ok (.string ⟨#[c]⟩) w := by
  refine run_convert_bytes_back w _ _ _ ⟨b, 0, none⟩ 1 [c] Tryd.underlying44 Tryd.underlying5 Tryd.underlying9 ?_
  intro j hj
  obtain rfl : j = 0 := by simpa using hj
  simpa [Addr.add] using h

theorem dec_any (j : Nat) : ∀ (v : Int) (w : World), j ≤ 10 → Dig.HasLen (j + 1) v → v ≤ 9999 →
    Calls Tryd.prog 39 #[.int .i64 v] w fun e w' => e = .returned (.string ⟨(Dig.low (j + 1) v).toArray⟩) ∧ Below w.heap.size w w' := by
  induction j with
  | zero =>
    intro v w _ hv h9
    have hv0 : 0 ≤ v := hv.1
    have hv9 : v ≤ 9 := hv.2
    have hl := Dig.low_one v hv0 hv9
    have HL := Lib.hid hl
    have hd := Dig.dg_toNat v hv0 hv9
    have hb := fun (W : World) (b : Nat) (h : W.cell? ⟨b, 0, none⟩ = some (.int .u8 (48 + v))) => one_back W b (Dig.dg v) (by rw [hd]; exact h)
    have hbk := hb (w.alloc (.cells #[.int .u8 (48 + v)] 5)) w.heap.size (by rw [World.cell?_alloc_at _ _ _ _ rfl]; rfl)
    clear hl hb hd hv
    go_enter Tryd.func39, Tryd.ntmps39
    go_wp2
    go_ret
    exact ⟨by rw [HL.out]; rfl, (Below.refl _ _).alloc (Nat.le_refl _) _⟩
  | succ j ih =>
    intro v w hj hv h9
    have hv0 : 10 ≤ v := hv.1
    have hl := Dig.low_shift (j + 1) v
    have HL := Lib.hid hl
    have hd := Dig.dg_toNat (v % 10) (by omega) (by omega)
    have hbk : ∀ (W : World) (b : Nat), W.cell? ⟨b, 0, none⟩ = some (.int .u8 (48 + v % 10)) → (convert 44 9 (.slice (some ⟨b, 0, none⟩) 1 1)).run Tryd.prog W = .ok (.string ⟨#[Dig.dg (v % 10)]⟩) W :=
      fun W b h => one_back W b (Dig.dg (v % 10)) (by rw [hd]; exact h)
    have hih := ih (v / 10)
    have HI := Lib.hid hih
    have hv2 : Dig.HasLen (j + 1) (v / 10) := hv.2
    have HV := Lib.hid hv2
    clear hl hd hv hv2 ih hih
    go_enter Tryd.func39, Tryd.ntmps39
    go_wp2_with fail
    have q2 : v.tmod 10 = v % 10 := Int.tmod_eq_emod_of_nonneg (by omega)
    have q1 : IntKind.i64.wrap (v.tdiv 10) = v / 10 := by rw [Int.tdiv_eq_ediv_of_nonneg (by omega)]; exact IntWalk.i64_in _ (by omega)
    have q3 : IntKind.i64.wrap (48 + v % 10) = 48 + v % 10 := IntWalk.i64_in _ (by omega)
    have q4 : IntKind.u8.wrap (48 + v % 10) = 48 + v % 10 := IntWalk.u8_in _ (by omega)
    have n0 := Dig.low_length (j + 1) (v / 10)
    have n1 : ¬ 9223372036854775807 < (Dig.low (j + 1) (v / 10)).length + 1 := by rw [n0]; omega
    have n2 : ¬ (9223372036854775807 : Int) < ((Dig.low (j + 1) (v / 10)).length : Int) + 1 := by omega
    clear n0
    go_region_with (go_at_call 39; refine (HI.out _ (by omega) HV.out (by omega)).mono ?_; rintro e w1 ⟨rfl, hb⟩; have hcc := hb.cell (p := ⟨w.heap.size, 0, none⟩); simp at hcc)
    all_goals go_wp2
    all_goals go_ret
    all_goals refine ⟨?_, ?_⟩
    all_goals first
      | (rw [HL.out]; exact congrArg (fun x => Ending.returned (.string x)) (bytes_cat _ _))
      | exact ((Below.refl _ _).drew.trans hb).alloc (by have := hb.size; simp at this ⊢; omega) _
      | exact (((Below.refl _ _).alloc (Nat.le_refl _) _).drew.trans (hb.mono (by simp)))

end Go.Proofs.YtmmoimemfdbfgaaDoor
