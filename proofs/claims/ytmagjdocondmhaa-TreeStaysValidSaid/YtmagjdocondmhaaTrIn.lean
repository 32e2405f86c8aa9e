/-
  certpathref30.In.
-/
import Derived.Test.YtmagjdocondmhaaTrFitsA
namespace Go.Proofs.Ytmagjdocondmhaa.Tr
open Go Go.RowKit Go.Proofs.Ytmagjdocondmhaa.Slc Go.Proofs.Ytmagjdocondmhaa.St
set_option linter.unusedVariables false
set_option linter.unusedSimpArgs false
attribute [local go_sem] Oper.semAt_some

set_option maxRecDepth 10000 in
theorem in_q (w : World) (v : Value) (l : List B) (x : B) (h : Rq w v l) (hl : l.length ≤ 100000) :
    Calls Try.prog 33 #[v, .string (bstr x)] w fun e w' => e = .returned (.bool (decide (x ∈ l))) ∧ w = w' := by
  obtain ⟨ad, cp, hv, -⟩ := h.form
  have HC := Bx.mk (fun hp => (h.rd hp).cells encS_ok hp)
  subst hv
  have HX := Bx.mk (fun y : B => show ((bstr y).toList == (bstr x).toList) = decide (y = x) by
    rw [ByteArray.toList_eq, ByteArray.toList_eq, bstr_list, bstr_list]
    by_cases q : y = x
    · rw [q]; simp
    · rw [decide_eq_false q]; simpa using q)
  obtain ⟨R, hR⟩ : ∃ R, R = decide (x ∈ l) := ⟨_, rfl⟩
  rw [← hR]
  have HR := Bx.mk hR
  clear h hR
  generalize bstr x = X at *
  go_enter Try.func33, Try.ntmps33
  go_wp2_with fail
  go_loop [5] (fun i => ∃ k : Nat, k ≤ l.length ∧ i = .int .i64 (k : Int) ∧ Bx (x ∉ l.take k)) (fun i => l.length - (intOf i).toNat)
  case atStart => exact ⟨0, by omega, rfl, ⟨by simp⟩⟩
  case round =>
    obtain ⟨k, hk, rfl, HN⟩ := hrel
    by_cases hlt : k < l.length
    · obtain ⟨b, o, c, hvf, -, -, hcell⟩ := HC.out (by omega)
      simp only [Value.slice.injEq, true_and] at hvf
      obtain ⟨rfl, rfl⟩ := hvf
      have hcl := hcell w (fun _ _ => rfl) k hlt 0 _ (by omega) rfl
      simp only [Nat.mul_one, Nat.add_zero] at hcl
      have hq := HX.out l[k]
      have HT := Bx.mk (show x ≠ l[k] → x ∉ l.take (k + 1) from fun h1 h2 => by
        rw [List.take_succ_eq_append_getElem hlt, List.mem_append, List.mem_singleton] at h2
        exact h2.elim HN.out h1)
      have HM := Bx.mk (List.getElem_mem hlt)
      clear hcell
      by_cases hxy : l[k] = x
      · rw [decide_eq_true hxy] at hq
        have HF := Bx.mk (show R = true by rw [HR.out]; exact decide_eq_true (hxy ▸ HM.out))
        generalize bstr l[k] = Y at *
        clear hxy
        go_wp2_with fail
        go_ret
        exact ⟨by rw [HF.out]; rfl, rfl⟩
      · rw [decide_eq_false hxy] at hq
        have HT2 := Bx.mk (HT.out fun e => hxy e.symm)
        generalize bstr l[k] = Y at *
        clear hxy
        go_wp2_with fail
        go_round
        case rel => exact ⟨k + 1, by omega, by go_num, HT2⟩
        case measure => simp [intOf]; omega
    · have HF := Bx.mk (show R = false by
        rw [HR.out]
        obtain rfl : k = l.length := by omega
        have := HN.out
        rw [List.take_length] at this
        exact decide_eq_false this)
      go_wp2_with fail
      go_ret
      exact ⟨by rw [HF.out]; rfl, rfl⟩
theorem in_any (w : World) (v : Value) (l : List B) (x : B) (h : Rd w encS v l) (hl : l.length ≤ 100000) :
    Calls Try.prog 33 #[v, .string (bstr x)] w fun e w' => e = .returned (.bool (decide (x ∈ l))) ∧ w = w' := in_q w v l x (.inr h) hl
end Go.Proofs.Ytmagjdocondmhaa.Tr
