/-
  The walk of TlvRead: it returns true.
-/
import Derived.Test.YtmmoimemfdbfgaaLawTlvBase
import Derived.Test.YtmmoimemfdbfgaaTlvSame
import Derived.Test.YtmmoimemfdbfgaaInts
namespace Go.Proofs.Ytmmoimemfdbfgaa
open Go.RowKit
set_option linter.unusedSimpArgs false

theorem mk_size (l : List UInt8) : (⟨l.toArray⟩ : ByteArray).size = l.length := by show l.toArray.size = _; simp

set_option maxHeartbeats 1000000 in
theorem law_read (b : ByteArray) (v : Value) (zs : List Int) (w : World) (hv : Ints w .u8 v zs) (hwf : ∀ z ∈ zs, (Lit.int .u8 z).wf = true) :
    Calls Try.prog 7 #[.string b, v] w fun e w' => e = .returned (.bool true) ∧ Below w.heap.size w w' := by
  obtain ⟨ad, cap, n, rfl, hn⟩ : ∃ ad cap n, v = .slice ad n cap ∧ n = zs.length := by cases hv <;> exact ⟨_, _, _, rfl, by simp⟩
  have hA := awake_any
  by_cases h1 : 600 < b.size
  · have t1 : decide (600 < (b.size : Int)) = true := by simp; omega
    clear h1 hv hwf hn
    go_enter Try.func7, Try.ntmps7
    go_wp2_with fail
    go_at_call 12
    refine (hA _).mono ?_
    rintro _ w1 ⟨rfl, hb⟩
    go_wp2
    go_ret
    exact ⟨rfl, hb⟩
  · have t1 : decide (600 < (b.size : Int)) = false := by simp; omega
    by_cases h2 : 600 < n
    · have t2 : decide (600 < (n : Int)) = true := by simp; omega
      clear h1 h2 hv hwf hn
      go_enter Try.func7, Try.ntmps7
      go_wp2_with fail
      go_at_call 12
      refine (hA _).mono ?_
      rintro _ w1 ⟨rfl, hb⟩
      go_wp2
      go_ret
      exact ⟨rfl, hb⟩
    · have t2 : decide (600 < (n : Int)) = false := by simp; omega
      have hcv := fun W (hW : Below w.heap.size w W) => convert_ints (v := .slice ad n cap) (zs := zs) Try.underlying30 Try.underlying5 Try.underlying9 hv (fun z hz => bounds_u8 (hwf z hz)) W hW
      have hS1 := fun W => same_any b W (by omega)
      have hS2 := fun W => same_any ⟨(zs.map fun z => UInt8.ofNat z.toNat).toArray⟩ W (by rw [mk_size, List.length_map]; omega)
      have hS3 := fun W => same_any (⟨#[48, 128]⟩ ++ b) W (by rw [ByteArray.size_append]; show 2 + b.size ≤ _; omega)
      have g1 : ¬ 9223372036854775807 < 2 + b.size := by omega
      clear h1 h2 hwf hv
      generalize (⟨(zs.map fun z => UInt8.ofNat z.toNat).toArray⟩ : ByteArray) = B at *
      clear hn
      have HC := Lib.hid hcv
      clear hcv
      go_enter Try.func7, Try.ntmps7
      go_wp2_with fail
      go_at_call 12
      refine (hA _).mono ?_
      rintro _ w1 ⟨rfl, hB⟩
      clear hA
      go_wp2_with fail
      go_at_call 17
      refine (hS1 _).mono ?_
      rintro _ w2 ⟨rfl, hb⟩
      have hB := hB.trans (hb.mono hB.size)
      have hcv := HC.out w2 hB
      clear hb hS1 HC
      go_wp2_with fail
      go_at_call 17
      refine (hS2 _).mono ?_
      rintro _ w3 ⟨rfl, hb⟩
      have hB := hB.trans (hb.mono hB.size)
      clear hb hS2 hcv
      go_wp2_with fail
      go_at_call 17
      refine (hS3 _).mono ?_
      rintro _ w4 ⟨rfl, hb⟩
      have hB := hB.trans (hb.mono hB.size)
      clear hb hS3
      go_wp2
      go_ret
      exact ⟨rfl, hB⟩

end Go.Proofs.Ytmmoimemfdbfgaa
