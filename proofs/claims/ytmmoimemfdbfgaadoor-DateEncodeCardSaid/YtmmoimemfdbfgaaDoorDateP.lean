/-
  The contract of Parse: it returns what ParseTime returns.
-/
import Derived.Test.YtmmoimemfdbfgaaDoorDateSep
import Derived.Deep.QuietTactic
namespace Go.Proofs.YtmmoimemfdbfgaaDoor
open Go.RowKit
set_option linter.unusedSimpArgs false

theorem belowN {B : Nat} {a w : World} (h : Below B a w) (n : Nat) : Below B a (w.drewN n) := ⟨h.os, h.tape, h.output, h.size, h.block⟩
def pairsB (c : ByteArray) : Nat → ByteArray
  | 0 => ⟨#[]⟩
  | k + 1 => pairsB c k ++ c.extract (5 + 3 * k) (7 + 3 * k)
theorem pairsB_size (c : ByteArray) (h : c.size = 19) : ∀ k, k ≤ 5 → (pairsB c k).size = 2 * k
  | 0, _ => rfl
  | k + 1, hk => by
    rw [pairsB, ByteArray.size_append, pairsB_size c h k (by omega), ByteArray.size_extract]; omega
theorem pairsB_pr (c : ByteArray) (h : c.size = 19) : pr (pairsB c 5) 0 = pr c 5 ∧ pr (pairsB c 5) 2 = pr c 8 ∧ pr (pairsB c 5) 4 = pr c 11 ∧ pr (pairsB c 5) 6 = pr c 14 ∧ pr (pairsB c 5) 8 = pr c 17 := by
  have hl : c.data.toList.length = 19 := by simpa using h
  have e := nineteen c.data.toList hl
  have e5 : (pairsB c 5).data.toList = (((((c.data.toList.drop 5).take 2 ++ (c.data.toList.drop 8).take 2) ++ (c.data.toList.drop 11).take 2) ++ (c.data.toList.drop 14).take 2) ++ (c.data.toList.drop 17).take 2) := by
    simp only [pairsB, ByteArray.data_append, Array.toList_append, ext_list]
    rfl
  unfold pr
  simp only [ext_list, e5]
  rw [e]
  exact ⟨rfl, rfl, rfl, rfl, rfl⟩
theorem byte_ix (c : ByteArray) (k : Nat) (x : Int) (hx : x = k) (h : k < c.size) (w : World) : (Instr.index 9 (.string c) (.int .i64 x)).run Tryd.prog w = .ok (.int .u8 ((c.data.toList.getD k 0).toNat : Nat)) w := by
  subst hx
  have e : (c.data.toList.getD k 0) = c[k] := by
    rw [List.getD_eq_getElem?_getD, List.getElem?_eq_getElem (by simpa using h)]; rfl
  rw [e]
  simp [Instr.index, run_underlying Tryd.underlying9, go_sem, h]
theorem sep_ix (k : Nat) (hk : k < 5) (w : World) : (Instr.index 9 (.string ⟨#[45, 45, 32, 58, 58]⟩) (.int .i64 (k : Int))).run Tryd.prog w = .ok (.int .u8 (Dig.sep k).toNat) w := by
  have h := byte_ix ⟨#[45, 45, 32, 58, 58]⟩ k k rfl (by show k < 5; exact hk) w
  have e : (⟨#[45, 45, 32, 58, 58]⟩ : ByteArray).data.toList.getD k 0 = Dig.sep k := by
    have : k = 0 ∨ k = 1 ∨ k = 2 ∨ k = 3 ∨ k = 4 := by omega
    rcases this with rfl | rfl | rfl | rfl | rfl <;> rfl
  rw [e] at h
  exact h
theorem slice_at (s : ByteArray) (x y : Int) (lo hi : Nat) (hx : x = lo) (hy : y = hi) (h1 : lo ≤ hi) (h2 : hi ≤ s.size) (w : World) :
    (Instr.slice 9 (.string s) (some (.int .i64 x)) (some (.int .i64 y)) none).run Tryd.prog w = .ok (.string (s.extract lo hi)) w := by
  subst hx hy; exact slice_lh s lo hi h1 h2 w

theorem parse_size (c : ByteArray) (w : World) (h : c.size ≠ 19) :
    Calls Tryd.prog 20 #[.string c] w fun e w' => e = .returned (.tuple #[.int .i64 0, .int .i64 12]) ∧ Below w.heap.size w w' := by
  have d : ((c.size : Int) != 19) = true := by rw [bne_iff_ne]; omega
  clear h
  go_enter Tryd.func20, Tryd.ntmps20
  go_wp2
  go_ret2
  exact ⟨rfl, Below.refl _ _⟩

def ParseRel (c : ByteArray) (w : World) (s i : Value) (wr : World) : Prop :=
  ∃ k : Nat, k ≤ 5 ∧ i = .int .i64 k ∧ s = .string (pairsB c k) ∧ (∀ j, j < k → c.data.toList.getD (4 + 3 * j) 0 = Dig.sep j) ∧ Below w.heap.size w wr

set_option maxHeartbeats 1000000 in
theorem parse_19 (c : ByteArray) (w : World) (ht : Tab w) (h : c.size = 19) :
    Calls Tryd.prog 20 #[.string c] w fun e w' => e = .returned (.tuple #[.int .i64 (pV c), .int .i64 (pE c)]) ∧ Below w.heap.size w w' := by
  have d : ((c.size : Int) != 19) = false := by rw [bne_eq_false_iff_eq]; omega
  have H := Lib.hid h
  have hl2 : c.size ≤ 19 := by omega
  have hl3 : 19 ≤ c.size := by omega
  have bad : (¬ PV c ∨ ¬ Seps c) → pV c = 0 ∧ pE c = 12 := fun q => by
    have : ¬ (PV c ∧ (⟨(pTxt c).toArray⟩ : ByteArray) = c) := fun ⟨a, b⟩ => q.elim (fun n => n a) (fun n => n ((txt_seps c h a).1 b))
    exact ⟨by unfold pV; exact if_neg this, by unfold pE; exact if_neg this⟩
  have good : PV c → Seps c → pV c = pSec c ∧ pE c = 0 := fun a q => by
    have : PV c ∧ (⟨(pTxt c).toArray⟩ : ByteArray) = c := ⟨a, (txt_seps c h a).2 q⟩
    exact ⟨by unfold pV; exact if_pos this, by unfold pE; exact if_pos this⟩
  have BAD := Lib.hid bad
  have GOOD := Lib.hid good
  clear bad good h
  go_enter Tryd.func20, Tryd.ntmps20
  go_wp2
  go_loopw [4, 5] (fun s i wr => ParseRel c w s i wr) (fun _ i _ => 5 - (intOf i).toNat)
  case atStart => exact ⟨0, by omega, rfl, rfl, fun j hj => absurd hj (by omega), Below.refl _ _⟩
  case round =>
    obtain ⟨k, hk, rfl, rfl, hs, hB⟩ := hrel
    by_cases hlt : k < 5
    · have x1 := byte_ix c (4 + 3 * k) (4 + 3 * (k : Int)) (by omega) (by omega)
      have x2 := sep_ix k hlt
      by_cases hq : c.data.toList.getD (4 + 3 * k) 0 = Dig.sep k
      · have hs' : ∀ j, j < k + 1 → c.data.toList.getD (4 + 3 * j) 0 = Dig.sep j := fun j hj => by
          by_cases e : j = k
          · rw [e]; exact hq
          · exact hs j (by omega)
        rw [hq] at x1
        have HS := Lib.hid hs'
        have x3 := slice_at c (4 + 3 * (k : Int) + 1) (4 + 3 * (k : Int) + 3) (5 + 3 * k) (7 + 3 * k) (by omega) (by omega) (by omega) (by omega)
        have z1 := pairsB_size c H.out k (by omega)
        have a1 := fun W : World => run_string_add_sum (P := Tryd.prog) W (pairsB c k) (c.extract (5 + 3 * k) (7 + 3 * k)) (by rw [z1, ByteArray.size_extract]; omega)
        have eP : pairsB c k ++ c.extract (5 + 3 * k) (7 + 3 * k) = pairsB c (k + 1) := rfl
        rw [eP] at a1
        clear hs hq hs' z1 eP
        generalize pairsB c k = Pk at *
        generalize hPk : pairsB c (k + 1) = Pk1 at *
        have HP := Lib.hid hPk
        clear hPk
        generalize c.extract (5 + 3 * k) (7 + 3 * k) = E at *
        generalize Dig.sep k = S at *
        go_wp2
        go_quiet (fail)
        go_wp2
        go_roundw
        case rel => exact ⟨k + 1, by omega, by go_num, by rw [HP.out], HS.out, belowN hB _⟩
        case measure => simp [intOf]; omega
      · have t1 : (((c.data.toList.getD (4 + 3 * k) 0).toNat : Int) != (Dig.sep k).toNat) = true := by
          rw [bne_iff_ne]; intro e; exact hq (UInt8.toNat_inj.1 (by omega))
        have E := Lib.hid (BAD.out (.inr fun q => hq (q k hlt)))
        clear hs hq BAD GOOD
        generalize c.data.toList.getD (4 + 3 * k) 0 = S1 at *
        generalize Dig.sep k = S2 at *
        go_wp2
        go_quiet (fail)
        go_wp2
        go_ret2
        exact ⟨by rw [E.out.1, E.out.2]; rfl, belowN hB _⟩
    · obtain rfl : k = 5 := by omega
      have x1 : ∀ W, (Instr.slice 9 (.string c) none (some (.int .i64 4)) none).run Tryd.prog W = .ok (.string (c.extract 0 4)) W := fun W => by
        have := run_slice_string_h (P := Tryd.prog) (w := W) (t := 9) (ht := Tryd.underlying9) (s := c) (h := 4) (h0 := by omega) (h2 := by omega)
        exact this _
      have hN := fun W => number_any (c.extract 0 4) W (by rw [ByteArray.size_extract]; omega)
      have hsz := pairsB_size c H.out 5 (by omega)
      have hP := fun W => parts_any (yr c 4) (pairsB c 5) W (by omega)
      obtain ⟨q0, q2, q4, q6, q8⟩ := pairsB_pr c H.out
      rw [q0, q2, q4, q6, q8] at hP
      clear q0 q2 q4 q6 q8 hsz
      change ∀ W, Calls _ _ _ W (fun e w' => e = .returned (.int .i64 (yr c 4)) ∧ _) at hN
      generalize pairsB c 5 = PB at *
      by_cases hy : yr c 4 < 0
      · have t1 : decide (yr c 4 < 0) = true := by simp; omega
        have E := Lib.hid (BAD.out (.inl fun q => by have := q.y1; omega))
        clear hy BAD GOOD hs hP
        generalize yr c 4 = y at *
        go_wp2_with fail
        go_at_call 29
        refine (hN _).mono ?_
        rintro _ w1 ⟨rfl, hb⟩
        have hB := hB.trans (hb.mono hB.size)
        clear hb hN
        go_wp2
        go_ret2
        exact ⟨by rw [E.out.1, E.out.2]; rfl, hB⟩
      · have t1 : decide (yr c 4 < 0) = false := by simp; omega
        have hE : secV (yr c 4) (pr c 5) (pr c 8) (pr c 11) (pr c 14) (pr c 17) = pV c ∧ secE (yr c 4) (pr c 5) (pr c 8) (pr c 11) (pr c 14) (pr c 17) = pE c := by
          by_cases hv : PV c
          · obtain ⟨e1, e2⟩ := GOOD.out hv hs
            rw [e1, e2]
            exact ⟨rfl, by unfold secE; exact if_pos hv⟩
          · obtain ⟨e1, e2⟩ := BAD.out (.inl hv)
            rw [e1, e2]
            exact ⟨by unfold secV; exact if_neg hv, by unfold secE; exact if_neg hv⟩
        have hS := secs_any (yr c 4) (pr c 5) (pr c 8) (pr c 11) (pr c 14) (pr c 17)
        rw [hE.1, hE.2] at hS
        clear hy BAD GOOD hs hE
        generalize yr c 4 = y at *
        go_wp2_with fail
        go_at_call 29
        refine (hN _).mono ?_
        rintro _ w1 ⟨rfl, hb⟩
        have hB := hB.trans (hb.mono hB.size)
        clear hb hN
        go_wp2_with fail
        go_at_call 30
        refine (hP _).mono ?_
        rintro _ w2 ⟨rfl, hb⟩
        have hB := hB.trans (hb.mono hB.size)
        clear hb hP
        go_wp2_with fail
        go_at_call 12
        refine (hS _ (ht.below hB)).mono ?_
        rintro _ w3 ⟨rfl, hb⟩
        have hB := hB.trans (hb.mono hB.size)
        clear hb hS
        go_wp2
        go_ret2
        exact ⟨rfl, hB⟩

theorem parse_any (c : ByteArray) (w : World) (ht : Tab w) :
    Calls Tryd.prog 20 #[.string c] w fun e w' => e = .returned (.tuple #[.int .i64 (parV c), .int .i64 (parE c)]) ∧ Below w.heap.size w w' := by
  unfold parV parE
  by_cases h : c.size = 19
  · rw [if_pos h, if_pos h]; exact parse_19 c w ht h
  · rw [if_neg h, if_neg h]; exact parse_size c w h

end Go.Proofs.YtmmoimemfdbfgaaDoor
