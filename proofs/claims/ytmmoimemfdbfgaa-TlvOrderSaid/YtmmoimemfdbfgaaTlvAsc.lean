/-
  The contracts of Ascending. (Written by wip/gen/gen_asc.py.)
-/
import Derived.Test.YtmmoimemfdbfgaaTlvSame
import Derived.BigQuiet
namespace Go.Proofs.Ytmmoimemfdbfgaa
open Go.RowKit
set_option linter.unusedSimpArgs false

instance : Inhabited Elt := ⟨⟨0, ⟨#[]⟩, ⟨#[]⟩⟩⟩
/-- element j has a lesser text than the one before it -/
def lessAt (l : List Elt) (j : Nat) : Bool := Op.bytesLess (l.getD (j + 1) default).raw.toList (l.getD j default).raw.toList
def ascTo (l : List Elt) (k : Nat) : Bool := (List.range k).all fun j => !lessAt l j
def ascB (l : List Elt) : Bool := ascTo l (l.length - 1)
theorem ascTo_succ (l : List Elt) (k : Nat) : ascTo l (k + 1) = (ascTo l k && !lessAt l k) := by simp [ascTo, List.range_succ]
theorem ascTo_bad {l : List Elt} {k n : Nat} (h : lessAt l k = true) (hk : k < n) : ascTo l n = false := by
  rw [ascTo, List.all_eq_false]; exact ⟨k, List.mem_range.2 hk, by simp [h]⟩

set_option maxHeartbeats 400000 in
theorem asc_any (v : Value) (l : List Elt) (w : World) (B : Nat) (h : OwnE w B v l) (hl : l.length ≤ 1000000) :
    Calls Try.prog 24 #[v] w fun e w' => e = .returned (.bool (ascB l)) ∧ Below w.heap.size w w' := by
  rcases h.form with ⟨a, c, rfl, rfl⟩ | ⟨g, c, rfl, hpos⟩
  · clear h
    go_enter Try.func24, Try.ntmps24
    go_wp2
    go_loop [3] (fun i => i = .int .i64 1) (fun i => 0)
    case atStart => rfl
    case round =>
      subst hrel
      go_wp2
      go_ret
      exact ⟨rfl, Below.refl _ _⟩
  · have hc := fun W (hW : Below w.heap.size w W) k u hk hu => (hW.cell (p := ⟨g, k * 3 + 2, none⟩) h.le).trans (h.cell k 2 u hk (by omega) hu)
    have HC := Lib.hid hc
    clear hc h
    go_enter Try.func24, Try.ntmps24
    go_wp2
    go_loopw [3] (fun i wr => ∃ k : Nat, k + 1 ≤ l.length ∧ i = .int .i64 ((k : Int) + 1) ∧ ascTo l k = true ∧ Below w.heap.size w wr) (fun i _ => l.length + 1 - (intOf i).toNat)
    case atStart => exact ⟨0, by omega, rfl, rfl, Below.refl _ _⟩
    case round =>
      obtain ⟨k, hk, rfl, ha, hB⟩ := hrel
      by_cases hlt : k + 1 < l.length
      · have c1 := HC.out wr hB (k + 1) _ hlt rfl
        have c0 := HC.out wr hB k _ (by omega) rfl
        have q1 : IntKind.i64.wrap ((k : Int) + 1 - 1) = (k : Int) := by rw [IntWalk.i64_in _ (by omega)]; omega
        have q2 : (k : Int) + 1 - 1 = (k : Int) := by omega
        have hLA : lessAt l k = Op.bytesLess (l[k + 1]).raw.toList (l[k]'(by omega)).raw.toList := by
          unfold lessAt
          rw [List.getD_eq_getElem?_getD, List.getElem?_eq_getElem hlt, List.getD_eq_getElem?_getD, List.getElem?_eq_getElem (by omega)]; rfl
        have hs := ascTo_succ l k
        rw [ha, Bool.true_and] at hs
        have HS := Lib.hid hs
        have hb2 : lessAt l k = true → ascB l = false := fun q => ascTo_bad q (by omega)
        clear hs ha
        by_cases hq : lessAt l k = true
        · have HB := Lib.hid (hb2 hq)
          rw [hLA] at hq
          clear hb2 hLA
          generalize (l[k + 1]).raw = r1 at *
          generalize (l[k]'(by omega)).raw = r0 at *
          go_wp2
          go_quiet (fail)
          go_wp2
          go_ret
          exact ⟨by rw [HB.out]; rfl, belowN hB _⟩
        · have hq' : lessAt l k = false := by simpa using hq
          rw [hq'] at HS
          rw [hLA] at hq'
          clear hb2 hLA hq
          generalize (l[k + 1]).raw = r1 at *
          generalize (l[k]'(by omega)).raw = r0 at *
          go_wp2
          go_quiet (fail)
          go_wp2
          go_roundw
          case rel => exact ⟨k + 1, by omega, by go_num, HS.out, belowN hB _⟩
          case measure => simp [intOf]; omega
      · have hE : ascB l = true := by unfold ascB; rw [show l.length - 1 = k by omega]; exact ha
        have HE := Lib.hid hE
        clear hE ha
        go_wp2
        go_ret
        exact ⟨by rw [HE.out]; rfl, hB⟩

set_option maxHeartbeats 400000 in
theorem rasc_any (v : Value) (l : List Elt) (w : World) (B : Nat) (h : OwnE w B v l) (hl : l.length ≤ 1000000) :
    Calls Try.prog 25 #[v] w fun e w' => e = .returned (.bool (ascB l)) ∧ Below w.heap.size w w' := by
  rcases h.form with ⟨a, c, rfl, rfl⟩ | ⟨g, c, rfl, hpos⟩
  · clear h
    go_enter Try.func25, Try.ntmps25
    go_wp2
    go_loop [3] (fun i => i = .int .i64 1) (fun i => 0)
    case atStart => rfl
    case round =>
      subst hrel
      go_wp2
      go_ret
      exact ⟨rfl, Below.refl _ _⟩
  · have hc := fun W (hW : Below w.heap.size w W) k u hk hu => (hW.cell (p := ⟨g, k * 3 + 2, none⟩) h.le).trans (h.cell k 2 u hk (by omega) hu)
    have HC := Lib.hid hc
    clear hc h
    go_enter Try.func25, Try.ntmps25
    go_wp2
    go_loopw [3] (fun i wr => ∃ k : Nat, k + 1 ≤ l.length ∧ i = .int .i64 ((k : Int) + 1) ∧ ascTo l k = true ∧ Below w.heap.size w wr) (fun i _ => l.length + 1 - (intOf i).toNat)
    case atStart => exact ⟨0, by omega, rfl, rfl, Below.refl _ _⟩
    case round =>
      obtain ⟨k, hk, rfl, ha, hB⟩ := hrel
      by_cases hlt : k + 1 < l.length
      · have c1 := HC.out wr hB (k + 1) _ hlt rfl
        have c0 := HC.out wr hB k _ (by omega) rfl
        have q1 : IntKind.i64.wrap ((k : Int) + 1 - 1) = (k : Int) := by rw [IntWalk.i64_in _ (by omega)]; omega
        have q2 : (k : Int) + 1 - 1 = (k : Int) := by omega
        have hLA : lessAt l k = Op.bytesLess (l[k + 1]).raw.toList (l[k]'(by omega)).raw.toList := by
          unfold lessAt
          rw [List.getD_eq_getElem?_getD, List.getElem?_eq_getElem hlt, List.getD_eq_getElem?_getD, List.getElem?_eq_getElem (by omega)]; rfl
        have hs := ascTo_succ l k
        rw [ha, Bool.true_and] at hs
        have HS := Lib.hid hs
        have hb2 : lessAt l k = true → ascB l = false := fun q => ascTo_bad q (by omega)
        clear hs ha
        by_cases hq : lessAt l k = true
        · have HB := Lib.hid (hb2 hq)
          rw [hLA] at hq
          clear hb2 hLA
          generalize (l[k + 1]).raw = r1 at *
          generalize (l[k]'(by omega)).raw = r0 at *
          go_wp2
          go_quiet (fail)
          go_wp2
          go_ret
          exact ⟨by rw [HB.out]; rfl, belowN hB _⟩
        · have hq' : lessAt l k = false := by simpa using hq
          rw [hq'] at HS
          rw [hLA] at hq'
          clear hb2 hLA hq
          generalize (l[k + 1]).raw = r1 at *
          generalize (l[k]'(by omega)).raw = r0 at *
          go_wp2
          go_quiet (fail)
          go_wp2
          go_roundw
          case rel => exact ⟨k + 1, by omega, by go_num, HS.out, belowN hB _⟩
          case measure => simp [intOf]; omega
      · have hE : ascB l = true := by unfold ascB; rw [show l.length - 1 = k by omega]; exact ha
        have HE := Lib.hid hE
        clear hE ha
        go_wp2
        go_ret
        exact ⟨by rw [HE.out]; rfl, hB⟩

end Go.Proofs.Ytmmoimemfdbfgaa
