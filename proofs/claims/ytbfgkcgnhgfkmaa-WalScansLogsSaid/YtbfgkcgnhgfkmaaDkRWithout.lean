/-
  The reference's slices of files; where, spend.
-/
/-
  The reference's disk: its block; spend, NewDisk.
-/
/-
  The reference's without.
-/
import Derived.Test.YtbfgkcgnhgfkmaaDkRepP
import Derived.Test.YtbfgkcgnhgfkmaaSlc
import Derived.Test.YtbfgkcgnhgfkmaaFactsB
namespace Go.Proofs.Ytbfgkcgnhgfkmaa.Dk
open Go Go.Maps Go.RowKit Go.Proofs.Ytbfgkcgnhgfkmaa.Slc
set_option linter.unusedVariables false
set_option linter.unusedSimpArgs false

def encF (p : B × B) : List Value := [.string (bstr p.1), .string (bstr p.2)]
theorem encF_ok : Enc 2 encF := ⟨fun c => rfl, fun c u hu => by
  simp only [encF, List.mem_cons, List.not_mem_nil, or_false] at hu
  rcases hu with rfl | rfl <;> rfl, by omega⟩
/-- the index, or -1 -/
def whI (l : Fs) (n : B) : Int := if has l n then wh l n else -1

set_option maxHeartbeats 400000 in
theorem where_any (v : Value) (l : Fs) (n : B) (w : World) (h : Rd w encF v l) (hl : l.length ≤ 1000000) :
    Calls Try.prog 79 #[v, .string (bstr n)] w fun e w' => e = .returned (.int .i64 (whI l n)) ∧ w = w' := by
  obtain ⟨ad, cp, hv, hcp⟩ := h.form
  have hc : ∀ k (hk : k < l.length), ∃ b o, ad = some ⟨b, o, none⟩ ∧ w.cell? ⟨b, o + k * 2, none⟩ = some (.string (bstr l[k].1)) := by
    intro k hk
    obtain ⟨b, o, c, hv', _, _, hcell⟩ := h.cells encF_ok (by omega)
    rw [hv'] at hv
    simp only [Value.slice.injEq] at hv
    exact ⟨b, o, hv.1.symm, hcell w (fun _ _ => rfl) k hk 0 _ (by omega) rfl⟩
  subst hv
  have HC := Lib.hid hc
  have HW := Lib.hid (wh_lt l n)
  have HA := Lib.hid (wh_at l n)
  have HN := Lib.hid (wh_ne l n)
  have HL := Lib.hid (wh_le l n)
  clear hc h
  go_enter Try.func79, Try.ntmps79
  go_wp2
  go_loop [5] (fun i => ∃ k : Nat, k ≤ wh l n ∧ i = .int .i64 k) (fun i => l.length - (intOf i).toNat)
  case atStart => exact ⟨0, by omega, rfl⟩
  case round =>
    obtain ⟨k, hk, rfl⟩ := hrel
    have hkl := HL.out
    by_cases hlt : k < l.length
    · obtain ⟨b, o, rfl, hcell⟩ := HC.out k hlt
      by_cases hq : k = wh l n
      · have hname := (HA.out (by omega)).1
        subst hq
        have hres : whI l n = (wh l n : Nat) := by unfold whI; rw [if_pos (HW.out.2 hlt)]
        have HR := Lib.hid hres
        rw [hname] at hcell
        clear hname hres
        generalize bstr n = N at *
        go_wp2
        go_ret
        exact ⟨by rw [HR.out]; rfl, rfl⟩
      · have hne := HN.out k hlt (by omega)
        have hs : ((bstr l[k].1).toList == (bstr n).toList) = false := by
          rw [ByteArray.toList_eq, ByteArray.toList_eq, bstr_list, bstr_list, beq_eq_false_iff_ne]; exact hne
        have HK := Lib.hid (show k + 1 ≤ wh l n by omega)
        clear hne hk hq
        generalize bstr l[k].1 = M at *
        generalize bstr n = N at *
        go_wp2
        go_round
        case rel => exact ⟨k + 1, HK.out, by go_num⟩
        case measure => simp [intOf]; omega
    · have hno : whI l n = -1 := by
        unfold whI; rw [if_neg]; intro q; have := HW.out.1 q; omega
      have HR := Lib.hid hno
      obtain rfl : k = l.length := by omega
      clear hno hkl hk
      go_wp2
      go_ret
      exact ⟨by rw [HR.out]; rfl, rfl⟩

end Go.Proofs.Ytbfgkcgnhgfkmaa.Dk

namespace Go.Proofs.Ytbfgkcgnhgfkmaa.Dk
open Go Go.Maps Go.RowKit Go.Proofs.Ytbfgkcgnhgfkmaa.Slc
set_option linter.unusedVariables false
set_option linter.unusedSimpArgs false

def rblk (cap : Int) (fv ov : Value) (left : Int) (off : Bool) : Obj := .cells #[.int .i64 cap, fv, ov, .int .i64 left, .bool off] 90 (0, 0)
theorem rblk_cells {w : World} {g : Nat} {cap left : Int} {fv ov : Value} {off : Bool} (h : w.heap[g]? = some (rblk cap fv ov left off)) :
    w.cell? ⟨g, 0, none⟩ = some (.int .i64 cap) ∧ w.cell? ⟨g, 1, none⟩ = some fv ∧ w.cell? ⟨g, 2, none⟩ = some ov ∧ w.cell? ⟨g, 3, none⟩ = some (.int .i64 left) ∧ w.cell? ⟨g, 4, none⟩ = some (.bool off) ∧ ∀ i, w.frozen? ⟨g, i, none⟩ = false := by
  unfold rblk at h
  refine ⟨?_, ?_, ?_, ?_, ?_, fun i => ?_⟩ <;> simp [World.cell?, World.frozen?, h]
def DR (w : World) (g : Nat) (s : St) (fv ov : Value) : Prop := w.heap[g]? = some (rblk s.cap fv ov s.left s.off)

theorem spend_any (g : Nat) (w : World) (s : St) (fv ov : Value) (h : DR w g s fv ov) (h1 : s.left ≤ 9223372036854775807) :
    Calls Try.prog 80 #[.pointer (some ⟨g, 0, none⟩)] w fun e w' => e = .returned (.tuple #[]) ∧ DR w' g s.spend fv ov ∧ w.grownBy w' (some g) := by
  have HD := Lib.hid h
  obtain ⟨c0, c1, c2, c3, c4, hfr⟩ := rblk_cells h
  by_cases hl : 0 < s.left
  · have t0 : decide (0 < s.left) = true := by simpa using hl
    have q : IntKind.i64.wrap (s.left - 1) = s.left - 1 := IntWalk.i64_in _ (by omega)
    have hsp : s.spend = { s with left := s.left - 1 } := by unfold St.spend; rw [if_pos hl]
    have hw1 : (w.setCell ⟨g, 3, none⟩ (.int .i64 (s.left - 1))).heap[g]? = some (rblk s.cap fv ov (s.left - 1) s.off) := by
      have h' : w.heap[g]? = some (rblk s.cap fv ov s.left s.off) := h
      unfold rblk at h'
      rw [blk_set 3 _ h']; rfl
    obtain ⟨-, -, -, d3, d4, dfr⟩ := rblk_cells hw1
    have f3 := hfr 3
    have f4 := dfr 4
    have hfin : DR ((w.setCell ⟨g, 3, none⟩ (.int .i64 (s.left - 1))).setCell ⟨g, 4, none⟩ (.bool (s.left - 1 == 0))) g s.spend fv ov := by
      unfold DR
      rw [hsp]
      unfold rblk at hw1
      rw [blk_set 4 _ hw1]
      have e : (s.left - 1 == 0) = decide (s.left - 1 = 0) := by by_cases z : s.left - 1 = 0 <;> simp [z]
      simp only [rblk, St.off, e]
      rfl
    have HF := Lib.hid hfin
    have HG := Lib.hid (grown_trans (grown_set w g 3 (.int .i64 (s.left - 1))) (grown_set _ g 4 (.bool (s.left - 1 == 0))))
    clear hfin hsp hw1 dfr hfr c0 c1 c2 c4 h hl
    generalize s.left = sl at *
    go_enter Try.func80, Try.ntmps80
    go_wp2
    go_end0
    exact ⟨rfl, HF.out, HG.out⟩
  · have t0 : decide (0 < s.left) = false := by simpa using hl
    have hsp : s.spend = s := by unfold St.spend; rw [if_neg hl]
    have hfin : DR w g s.spend fv ov := by rw [hsp]; exact HD.out
    have HF := Lib.hid hfin
    clear hfin hsp hfr c0 c1 c2 c4 h hl
    generalize s.left = sl at *
    go_enter Try.func80, Try.ntmps80
    go_wp2
    go_end0
    exact ⟨rfl, HF.out, grown_refl w _⟩

end Go.Proofs.Ytbfgkcgnhgfkmaa.Dk

namespace Go.Proofs.Ytbfgkcgnhgfkmaa.Dk
open Go Go.Maps Go.RowKit Go.Proofs.Ytbfgkcgnhgfkmaa.Slc
set_option linter.unusedVariables false
set_option linter.unusedSimpArgs false

theorem info_file : (Try.prog.info? 98).map (fun i => (i.zero, i.size, i.bytes)) = some (some (.agg #[.string ⟨#[]⟩, .string ⟨#[]⟩]), 2, 32) := by kernel_rfl
theorem und_files : Try.prog.underlying 87 = some (.slice 98) := by kernel_rfl
theorem und_files' : Try.prog.underlying 87 = some (.slice (Try.prog.elem 87)) := by kernel_rfl
theorem size_file (W : World) : (sizeOf (Try.prog.elem 87)).run Try.prog W = .ok 2 W := by kernel_rfl

def WoF (W : World) (sv u1 u2 : Value) (L1 : Fs) (i : Nat) : Nat → Value → World → Prop
  | 0, v, w => ∃ g, v = .slice (some ⟨g, 0, none⟩) 0 0 ∧ w.heap[g]? = some (.cells #[] 98 (0, 0)) ∧ W.heap.size ≤ g
  | 1, v, _ => v = sv
  | 2, v, _ => v = .int .i64 i
  | 3, v, _ => v = u1
  | 4, v, w => Own w W.heap.size 98 2 encF v L1
  | 5, v, _ => v = sv
  | 6, v, _ => v = .int .i64 i
  | 7, v, _ => v = .int .i64 ((i : Int) + 1)
  | 8, v, _ => v = u2
  | _, _, _ => True
theorem WoF.stable (W : World) (sv u1 u2 : Value) (l : Fs) (i : Nat) (k : Nat) (v : Value) (w w' : World) (h : WoF W sv u1 u2 l i k v w) (hb : Below w.heap.size w w') : WoF W sv u1 u2 l i k v w' := by
  match k with
  | 1 | 2 | 3 | 5 | 6 | 7 | 8 => exact h
  | 0 => obtain ⟨g, h1, h2, h3⟩ := h; exact ⟨g, h1, (hb.block g (lt_of_block h2)).trans h2, h3⟩
  | 4 => exact Own.below (t := 98) h hb
  | _ + 9 => exact trivial

set_option maxHeartbeats 1000000 in
set_option maxRecDepth 10000 in
theorem without_any (w : World) (sv : Value) (l : Fs) (i : Nat) (h : Rd w encF sv l) (hi : i < l.length) (hl : l.length ≤ 100000) :
    Calls Try.prog 99 #[sv, .int .i64 i] w fun e w' => ∃ u, e = .returned u ∧ Own w' w.heap.size 98 2 encF u (l.eraseIdx i) ∧ Below w.heap.size w w' := by
  obtain ⟨u1, hu1, hr1⟩ := h.upto encF_ok und_files' size_file i (by omega)
  obtain ⟨u2, hu2, hr2⟩ := h.rest encF_ok und_files' size_file (i + 1) (by omega)
  rw [show ((i + 1 : Nat) : Int) = (i : Int) + 1 from rfl] at hu2
  obtain ⟨i0, hi0, hz0, hz1, hz2⟩ := info_parts info_file
  obtain ⟨ad, cp, hv, hcp⟩ := h.form
  have h1 : (l.take i).length = i := by rw [List.length_take]; omega
  have h2 : (l.drop (i + 1)).length = l.length - (i + 1) := List.length_drop
  have hle : (l.take i).length + (l.drop (i + 1)).length ≤ 100000 := by omega
  have hE := List.eraseIdx_eq_take_drop_succ l i
  obtain ⟨L1, hL1⟩ : ∃ L, l.take i = L := ⟨_, rfl⟩
  obtain ⟨L2, hL2⟩ : ∃ L, l.drop (i + 1) = L := ⟨_, rfl⟩
  rw [hL1] at hE hr1 h1 hle
  rw [hL2] at hE hr2 h2 hle
  have HE := Lib.hid hE
  have q1 : IntKind.i64.wrap ((i : Int) + 1) = (i : Int) + 1 := IntWalk.i64_in _ (by omega)
  have HR1 := Lib.hid hr1
  have HR2 := Lib.hid hr2
  have HLE := Lib.hid hle
  have H1 := Lib.hid h1
  subst hv
  clear h hr1 hr2 h2 h1 hle hE hL1 hL2
  go_enter Try.func99, Try.ntmps99
  go_wp2_with fail
  refine wp_region_facts 9 (WoF w (.slice ad l.length cp) u1 u2 L1 i) (by kernel_rfl) (by kernel_rfl) (by rfl) (WoF.stable _ _ _ _ _ _) ?_ ?_
  · intro k o hk0 ho1 x w1 hb1 hd1
    have hc : k = 0 ∨ k = 1 ∨ k = 2 ∨ k = 3 ∨ k = 4 ∨ k = 5 ∨ k = 6 ∨ k = 7 ∨ k = 8 := by omega
    have hsr1 := (HR1.out.below hb1).src encF_ok
    have hsz := hb1.size
    simp only [List.take_succ_cons, List.take_zero, putFrom, Act.put, List.setIfInBounds_toArray, List.set_cons_succ, List.set_cons_zero, Nat.zero_add, Nat.reduceAdd]
    clear hb1 HR1 HR2
    rcases hc with rfl | rfl | rfl | rfl | rfl | rfl | rfl | rfl | rfl
    all_goals
      simp only [List.getElem?_cons_succ, List.getElem?_cons_zero, Option.some.injEq] at ho1
      subst ho1
      simp [Needs, Region.binds, WoF] at hd1
    all_goals clear hk0
    · clear hsr1
      have HS := Lib.hid hsz
      clear hsz
      go_wp2_with fail
      exact ⟨rfl, rfl, ⟨_, rfl, heap_alloc_new _ _, HS.out⟩, (Below.refl _ _).alloc (Nat.le_refl _) _⟩
    · go_wp2_with fail
      exact ⟨rfl, rfl, rfl, Below.refl _ _⟩
    · go_wp2_with fail
      exact ⟨rfl, rfl, rfl, Below.refl _ _⟩
    · obtain ⟨hd1, hd2⟩ := hd1
      go_wp2_with fail
      exact ⟨rfl, rfl, rfl, Below.refl _ _⟩
    · obtain ⟨⟨g0, h0, hg0, hl0⟩, h3⟩ := hd1
      rw [← h3] at hsr1
      have HH := Lib.hid (show L1.length ≤ 100000 by have := HLE.out; omega)
      clear h3 hu1 hu2
      go_wp2_with (at_builtin; refine wpList_append_fresh rfl _ _ _ rfl w.heap.size 98 i0 _ 2 32 und_files hi0 hz0 hz1 hz2 rfl (by decide) g0 h0 hg0 hl0 hsz (x 3) L1.length (L1.flatMap encF) rfl hsr1 ?ap1 ?ap2 ?_)
      case ap1 => have := HH.out; unfold maxLen; omega
      case ap2 => have := HH.out; omega
      intro v' w4 hown hb _
      have HO := Lib.hid hown
      have HB := Lib.hid hb
      clear hown hb
      go_wp2_with fail
      exact ⟨rfl, rfl, HO.out, HB.out⟩
    · go_wp2_with fail
      exact ⟨rfl, rfl, rfl, Below.refl _ _⟩
    · go_wp2_with fail
      exact ⟨rfl, rfl, rfl, Below.refl _ _⟩
    · go_wp2_with fail
      exact ⟨rfl, rfl, rfl, Below.refl _ _⟩
    · obtain ⟨hd1, hd2⟩ := hd1
      go_wp2_with fail
      exact ⟨rfl, rfl, rfl, Below.refl _ _⟩
  · intro x w1 hb1 hf
    have f4 := hf 4 (by omega)
    have f8 := hf 8 (by omega)
    simp only [WoF] at f4 f8
    have hsr2 := (HR2.out.below hb1).src encF_ok
    have hsz := hb1.size
    have HB1 := Lib.hid hb1
    have hle := HLE.out
    simp only [List.take_succ_cons, List.take_zero, List.drop_succ_cons, List.drop_zero, putFrom, Act.put, List.setIfInBounds_toArray, List.set_cons_succ, List.set_cons_zero, Nat.zero_add, Nat.reduceAdd, f8]
    have f4' : w1.ownsRow w.heap.size 98 2 (x 4) L1.length (L1.flatMap encF) := f4
    clear hf hb1 hu1 hu2 HR1 HR2 f8 f4
    go_wp2_with (at_builtin; refine wpList_append_any rfl _ _ _ rfl w.heap.size 98 i0 _ 2 32 und_files hi0 hz0 hz1 hz2 rfl (by decide) _ L1.length (L1.flatMap encF) rfl f4' _ L2.length (L2.flatMap encF) rfl hsr2 ?ap1 ?ap2 hsz ?_)
    case ap1 => unfold maxLen; omega
    case ap2 => omega
    intro v' w4 ha
    have ho := Own.apd (m := L2) f4' rfl rfl rfl rfl ha
    have HO := Lib.hid ho
    have HB := Lib.hid (HB1.out.grown ha.grown hsz fun k hk => (f4'.lt k hk).1)
    clear ho ha f4' hsr2 hsz hle
    go_wp2
    go_ret
    exact ⟨_, rfl, by rw [HE.out]; exact HO.out, HB.out⟩

end Go.Proofs.Ytbfgkcgnhgfkmaa.Dk
