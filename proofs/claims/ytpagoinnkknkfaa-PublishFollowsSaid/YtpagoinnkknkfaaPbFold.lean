/-
  text.Fold, certpathref01.Lower, certpathref01.Fold.
-/
/-
  certpathref01.Lower, certpathref01.Fold.
-/
import Derived.Test.YtpagoinnkknkfaaPbData
import Derived.Test.YtpagoinnkknkfaaGrow
import Derived.Test.YtpagoinnkknkfaaBytes
import Derived.Deep.QuietTactic
import Derived.IntWalk
import Derived.Lib.Hide
import Derived.Deep.DeepCutAuto
namespace Go.Proofs.Ytpagoinnkknkfaa.Pb
open Go Go.RowKit Go.Proofs.Ytpagoinnkknkfaa.Slc
set_option linter.unusedVariables false
set_option linter.unusedSimpArgs false

structure Bx (p : Prop) : Prop where
  out : p
def encU (c : UInt8) : List Value := [.int .u8 (c.toNat : Int)]
theorem encU_ok : Enc 1 encU := ⟨fun c => rfl, fun c u hu => by simp [encU] at hu; subst hu; rfl, by decide⟩
theorem und_bytes : Try.prog.underlying 92 = some (.slice 5) := by kernel_rfl
theorem info_u8 : (Try.prog.info? 5).map (fun i => (i.zero, i.size, i.bytes)) = some (some (.int .u8 0), 1, 1) := by kernel_rfl
theorem flat_encU (l : B) : l.flatMap encU = l.map fun c => .int .u8 (c.toNat : Int) := by
  induction l with
  | nil => rfl
  | cons x l ih => simp [encU, List.flatMap_cons, ih]
/-- the bytes of an own slice, as a string -/
theorem back_u {w : World} {v : Value} {l : List UInt8} (h : Rd w encU v l) :
    (convert 92 9 v).run Try.prog w = .ok (.string (bstr l)) w := by
  rcases Nat.eq_zero_or_pos l.length with h0 | hl
  · obtain rfl : l = [] := List.eq_nil_of_length_eq_zero h0
    obtain ⟨ad, c, rfl, -⟩ := h.form
    show (convert 92 9 (.slice ad 0 c)).run Try.prog w = _
    rw [run_convert_bytes_string w _ _ 5 ad 0 c Try.underlying92 Try.underlying5 Try.underlying9]
    cases ad <;> rfl
  · obtain ⟨b, o, c, rfl, hc, hb, hcell⟩ := h.cells encU_ok hl
    refine run_convert_bytes_back w _ _ _ _ c l Try.underlying92 Try.underlying5 Try.underlying9 ?_
    intro j hj
    have := hcell w (fun _ _ => rfl) j (by simpa using hj) 0 _ (by omega) rfl
    rw [add_at]
    rw [show o + (j * 1 + 0) = o + j by omega] at this
    rw [this]
theorem low_int (c : UInt8) : ((low c).toNat : Int) = if 65 ≤ (c.toNat : Int) ∧ (c.toNat : Int) ≤ 90 then (c.toNat : Int) + 32 else (c.toNat : Int) := by
  unfold low
  by_cases h : 65 ≤ c ∧ c ≤ 90
  · have h1 := UInt8.le_iff_toNat_le.1 h.1
    have h2 := UInt8.le_iff_toNat_le.1 h.2
    simp at h1 h2
    rw [if_pos h, if_pos (by omega), UInt8.toNat_add]
    simp only [UInt8.reduceToNat]
    omega
  · rw [if_neg h, if_neg]
    intro q; apply h
    refine ⟨UInt8.le_iff_toNat_le.2 (by simp; omega), UInt8.le_iff_toNat_le.2 (by simp; omega)⟩
theorem eq32 (c : UInt8) : (c = 32) ↔ (c.toNat : Int) = 32 := by
  constructor
  · rintro rfl; rfl
  · intro h
    apply UInt8.toNat_inj.1
    simp; omega

theorem foldP_len : ∀ (s out : B) (gap : Bool), (foldP s out gap).length ≤ out.length + (if gap then 1 else 0) + 2 * s.length
  | [], out, gap => by simp [foldP]
  | c :: s, out, gap => by
    rw [foldP]
    split
    · have := foldP_len s out (decide (0 < out.length))
      have h2 : (if decide (0 < out.length) then 1 else 0) ≤ 1 := by split <;> omega
      simp only [List.length_cons]; omega
    · have := foldP_len s ((if gap then out ++ [32] else out) ++ [low c]) false
      have e : ((if gap = true then out ++ [32] else out) ++ [low c]).length = out.length + (if gap then 1 else 0) + 1 := by split <;> simp
      rw [e] at this
      simp only [List.length_cons, Bool.false_eq_true, if_false] at this ⊢; omega

set_option maxRecDepth 10000 in
set_option maxHeartbeats 4000000 in
theorem fold_any (w : World) (x : B) (hx : x.length ≤ 1000000) :
    Calls Try.prog 107 #[.string (bstr x)] w fun e w' => e = .returned (.string (bstr (foldP x [] false))) ∧ Below w.heap.size w w' := by
  obtain ⟨i0, hi0, hz0, hz1, hz2⟩ := info_parts info_u8
  obtain ⟨R, hR⟩ : ∃ R, R = foldP x [] false := ⟨_, rfl⟩
  rw [← hR]
  have HR := Bx.mk hR
  have hcv := By.bytes_of w (bstr x)
  have hsz := bstr_size x
  rw [hsz] at hcv
  have HCELL := Bx.mk (show ∀ k (h : k < x.length), (By.bytesWorld w (bstr x)).cell? ⟨w.heap.size, k, none⟩ = some (.int .u8 ((x[k]).toNat : Int)) from fun k h => By.bytes_cell w (bstr x) k (by rw [hsz]; exact h))
  have HBEL := Bx.mk (By.bytes_below w (bstr x))
  have hlt : w.heap.size + 1 = (By.bytesWorld w (bstr x)).heap.size := by unfold By.bytesWorld; simp
  have HLT := Bx.mk hlt
  clear hR hlt hsz
  generalize By.bytesWorld w (bstr x) = W at *
  generalize By.capOf w (bstr x) = cap at *
  generalize hbs : bstr x = bs at *
  clear hbs
  obtain ⟨p, hp⟩ : ∃ p, p = w.heap.size := ⟨_, rfl⟩
  rw [← hp] at hcv
  rw [← hp] at HCELL HBEL HLT
  rw [← hp]
  have HP := Bx.mk hp
  clear hp
  go_enter Try.func107, Try.ntmps107
  go_wp2
  go_loopw [3, 4, 10] (fun v g i wr => ∃ (k : Nat) (l : B) (gap : Bool), k ≤ x.length ∧ i = .int .i64 k ∧ g = .bool gap ∧ l.length + (if gap then 1 else 0) ≤ 2 * k ∧ Gr W (p + 1) 5 1 encU wr v l ∧ Bx (foldP (x.drop k) l gap = R)) (fun _ _ i _ => x.length - (intOf i).toNat)
  case atStart => exact ⟨0, [], false, by omega, rfl, rfl, by simp, Gr.nil _ _ (by rw [HLT.out]; omega), ⟨by rw [List.drop_zero]; exact HR.out.symm⟩⟩
  case round =>
    obtain ⟨k, l, gap, hk, rfl, rfl, hlen, hG, hF⟩ := hrel
    obtain ⟨av, cv, rfl, -⟩ := hG.form
    have HG := Bx.mk hG
    clear hG
    by_cases hlt : k < x.length
    · have hcell : wr.cell? ⟨p, k, none⟩ = some (.int .u8 ((x[k]).toNat : Int)) := (HG.out.bel.cell (p := ⟨p, k, none⟩) (by simp)).trans (HCELL.out k hlt)
      have hst : x.drop k = x[k] :: x.drop (k + 1) := List.drop_eq_getElem_cons hlt
      rw [hst, foldP] at hF
      have h32 := eq32 x[k]
      have hlow := low_int x[k]
      have hb0 : 0 ≤ ((x[k]).toNat : Int) := by omega
      have hb1 : ((x[k]).toNat : Int) ≤ 255 := by have := (x[k]).toNat_lt; omega
      generalize x[k] = c at *
      generalize hz : ((c).toNat : Int) = z at *
      by_cases h : z = 32
      · rw [if_pos (h32.2 h)] at hF
        have t0 : (z == 32) = true := by simp [h]
        have hlen' : l.length ≤ 2 * k := by split at hlen <;> omega
        clear hlow h32 hz hst hlen h hb0 hb1
        have HLEN := Bx.mk hlen'
        clear hlen'
        go_wp2
        go_roundw
        case rel => exact ⟨k + 1, l, decide (0 < l.length), by omega, by go_num, by simp, by have := HLEN.out; split <;> omega, HG.out, hF⟩
        case measure => simp [intOf]; omega
      · rw [if_neg (fun q => h (h32.1 q))] at hF
        have t0 : (z == 32) = false := by simpa using h
        clear h32 hst
        have HBEL2 := HG.out
        obtain ⟨y, hy, t1, t2, t3⟩ : ∃ y : Int, ((low c).toNat : Int) = y ∧ (65 ≤ z ∧ z ≤ 90 → y = z + 32) ∧ (¬ 65 ≤ z → y = z) ∧ (¬ z ≤ 90 → y = z) := ⟨_, rfl, fun h => by rw [hlow, if_pos h], fun h => by rw [hlow, if_neg (by omega)], fun h => by rw [hlow, if_neg (by omega)]⟩
        have T1 := Bx.mk t1
        have T2 := Bx.mk t2
        have T3 := Bx.mk t3
        have hyb : (.cells #[.int .u8 y] 5 (0, 0) : Obj) = .cells (encU (low c)).toArray 5 (0, 0) := by rw [← hy]; rfl
        have HYB := Bx.mk hyb
        clear hlow hz h t1 t2 t3 hy hyb
        obtain ⟨HGW, hHGW⟩ : ∃ q, q = wr := ⟨_, rfl⟩
        subst hHGW
        cases gap with
        | true =>
          simp only [if_true] at hlen hF
          have HLEN := Bx.mk hlen
          clear hlen
          have hown := (HG.out.below ((Below.refl _ _).alloc (Nat.le_refl _) (.cells #[.int .u8 32] 5))).own
          have hsrc : SrcV (HGW.alloc (.cells #[.int .u8 32] 5)) 1 (.slice (some ⟨HGW.heap.size, 0, none⟩) 1 1) 1 ([(32 : UInt8)].flatMap encU) := src_new encU_ok (heap_alloc_new _ _)
          have hbz : p + 1 ≤ (HGW.alloc (.cells #[.int .u8 32] 5)).heap.size := by have := HG.out.sz; simp; omega
          have HOWN := Bx.mk hown
          clear hown
          go_wp2_with (refine wpList_append_any rfl _ _ _ rfl (p + 1) 5 i0 _ 1 1 und_bytes hi0 hz0 hz1 hz2 rfl (by decide) _ l.length (l.flatMap encU) rfl HOWN.out _ 1 ([(32 : UInt8)].flatMap encU) rfl hsrc (by have := HLEN.out; unfold maxLen; omega) (by have := HLEN.out; omega) hbz ?_)
          intro v2 HG2W hapd
          have HG2 := Bx.mk ((HG.out.below ((Below.refl _ _).alloc (Nat.le_refl _) (.cells #[.int .u8 32] 5))).apd (m := [32]) rfl rfl rfl rfl hapd)
          clear hapd hsrc hbz HOWN
          obtain ⟨l2, hl2⟩ : ∃ l2, l2 = l ++ [32] := ⟨_, rfl⟩
          rw [← hl2] at HG2 hF
          have HLEN2 := Bx.mk (show l2.length ≤ 2 * k by rw [hl2]; have := HLEN.out; simp; omega)
          clear hl2 HLEN
          obtain ⟨av2, cv2, hv2, -⟩ := HG2.out.form
          subst hv2
          by_cases hu1 : 65 ≤ z
          · by_cases hu2 : z ≤ 90
            · have e : y = z + 32 := T1.out ⟨hu1, hu2⟩
              subst e
              have hbz2 : p + 1 ≤ (HG2W.alloc (.cells #[.int .u8 (z + 32)] 5)).heap.size := by have := HG2.out.sz; simp; omega
              have hown2 := (HG2.out.below ((Below.refl _ _).alloc (Nat.le_refl _) (.cells #[.int .u8 (z + 32)] 5))).own
              have hsrc2 : SrcV (HG2W.alloc (.cells #[.int .u8 (z + 32)] 5)) 1 (.slice (some ⟨HG2W.heap.size, 0, none⟩) 1 1) 1 ([low c].flatMap encU) := src_new encU_ok (by rw [heap_alloc_new, HYB.out])
              have HOWN2 := Bx.mk hown2
              clear hown2
              go_wp2_with (refine wpList_append_any rfl _ _ _ rfl (p + 1) 5 i0 _ 1 1 und_bytes hi0 hz0 hz1 hz2 rfl (by decide) _ l2.length (l2.flatMap encU) rfl HOWN2.out _ 1 ([low c].flatMap encU) rfl hsrc2 (by have := HLEN2.out; unfold maxLen; simp; omega) (by have := HLEN2.out; simp; omega) hbz2 ?_)
              intro v3 w4 hapd3
              have HG3 := Bx.mk ((HG2.out.below ((Below.refl _ _).alloc (Nat.le_refl _) (.cells #[.int .u8 (z + 32)] 5))).apd (m := [low c]) rfl rfl rfl rfl hapd3)
              clear hapd3 hsrc2 hbz2 HOWN2
              go_wp2
              go_roundw
              case rel => exact ⟨k + 1, l2 ++ [low c], false, by omega, by go_num, rfl, by have := HLEN2.out; simp; omega, HG3.out, hF⟩
              case measure => simp [intOf]; omega
            · have e : y = z := T3.out (by omega)
              subst e
              have u2 : decide (y ≤ 90) = false := by simpa using hu2
              have hbz2 : p + 1 ≤ (HG2W.alloc (.cells #[.int .u8 (y)] 5)).heap.size := by have := HG2.out.sz; simp; omega
              have hown2 := (HG2.out.below ((Below.refl _ _).alloc (Nat.le_refl _) (.cells #[.int .u8 (y)] 5))).own
              have hsrc2 : SrcV (HG2W.alloc (.cells #[.int .u8 (y)] 5)) 1 (.slice (some ⟨HG2W.heap.size, 0, none⟩) 1 1) 1 ([low c].flatMap encU) := src_new encU_ok (by rw [heap_alloc_new, HYB.out])
              have HOWN2 := Bx.mk hown2
              clear hown2
              go_wp2_with (refine wpList_append_any rfl _ _ _ rfl (p + 1) 5 i0 _ 1 1 und_bytes hi0 hz0 hz1 hz2 rfl (by decide) _ l2.length (l2.flatMap encU) rfl HOWN2.out _ 1 ([low c].flatMap encU) rfl hsrc2 (by have := HLEN2.out; unfold maxLen; simp; omega) (by have := HLEN2.out; simp; omega) hbz2 ?_)
              intro v3 w4 hapd3
              have HG3 := Bx.mk ((HG2.out.below ((Below.refl _ _).alloc (Nat.le_refl _) (.cells #[.int .u8 (y)] 5))).apd (m := [low c]) rfl rfl rfl rfl hapd3)
              clear hapd3 hsrc2 hbz2 HOWN2
              go_wp2
              go_roundw
              case rel => exact ⟨k + 1, l2 ++ [low c], false, by omega, by go_num, rfl, by have := HLEN2.out; simp; omega, HG3.out, hF⟩
              case measure => simp [intOf]; omega
          · have e : y = z := T2.out (by omega)
            subst e
            have u1 : decide (65 ≤ y) = false := by simpa using hu1
            have hbz2 : p + 1 ≤ (HG2W.alloc (.cells #[.int .u8 (y)] 5)).heap.size := by have := HG2.out.sz; simp; omega
            have hown2 := (HG2.out.below ((Below.refl _ _).alloc (Nat.le_refl _) (.cells #[.int .u8 (y)] 5))).own
            have hsrc2 : SrcV (HG2W.alloc (.cells #[.int .u8 (y)] 5)) 1 (.slice (some ⟨HG2W.heap.size, 0, none⟩) 1 1) 1 ([low c].flatMap encU) := src_new encU_ok (by rw [heap_alloc_new, HYB.out])
            have HOWN2 := Bx.mk hown2
            clear hown2
            go_wp2_with (refine wpList_append_any rfl _ _ _ rfl (p + 1) 5 i0 _ 1 1 und_bytes hi0 hz0 hz1 hz2 rfl (by decide) _ l2.length (l2.flatMap encU) rfl HOWN2.out _ 1 ([low c].flatMap encU) rfl hsrc2 (by have := HLEN2.out; unfold maxLen; simp; omega) (by have := HLEN2.out; simp; omega) hbz2 ?_)
            intro v3 w4 hapd3
            have HG3 := Bx.mk ((HG2.out.below ((Below.refl _ _).alloc (Nat.le_refl _) (.cells #[.int .u8 (y)] 5))).apd (m := [low c]) rfl rfl rfl rfl hapd3)
            clear hapd3 hsrc2 hbz2 HOWN2
            go_wp2
            go_roundw
            case rel => exact ⟨k + 1, l2 ++ [low c], false, by omega, by go_num, rfl, by have := HLEN2.out; simp; omega, HG3.out, hF⟩
            case measure => simp [intOf]; omega

        | false =>
          simp only [Bool.false_eq_true, if_false, Nat.add_zero] at hlen hF
          have HLEN := Bx.mk hlen
          clear hlen
          by_cases hu1 : 65 ≤ z
          · by_cases hu2 : z ≤ 90
            · have e : y = z + 32 := T1.out ⟨hu1, hu2⟩
              subst e
              have hbz2 : p + 1 ≤ (HGW.alloc (.cells #[.int .u8 (z + 32)] 5)).heap.size := by have := HG.out.sz; simp; omega
              have hown2 := (HG.out.below ((Below.refl _ _).alloc (Nat.le_refl _) (.cells #[.int .u8 (z + 32)] 5))).own
              have hsrc2 : SrcV (HGW.alloc (.cells #[.int .u8 (z + 32)] 5)) 1 (.slice (some ⟨HGW.heap.size, 0, none⟩) 1 1) 1 ([low c].flatMap encU) := src_new encU_ok (by rw [heap_alloc_new, HYB.out])
              have HOWN2 := Bx.mk hown2
              clear hown2
              go_wp2_with (refine wpList_append_any rfl _ _ _ rfl (p + 1) 5 i0 _ 1 1 und_bytes hi0 hz0 hz1 hz2 rfl (by decide) _ (l).length ((l).flatMap encU) rfl HOWN2.out _ 1 ([low c].flatMap encU) rfl hsrc2 (by have := HLEN.out; unfold maxLen; simp; omega) (by have := HLEN.out; simp; omega) hbz2 ?_)
              intro v3 w4 hapd3
              have HG3 := Bx.mk ((HG.out.below ((Below.refl _ _).alloc (Nat.le_refl _) (.cells #[.int .u8 (z + 32)] 5))).apd (m := [low c]) rfl rfl rfl rfl hapd3)
              clear hapd3 hsrc2 hbz2 HOWN2
              go_wp2
              go_roundw
              case rel => exact ⟨k + 1, l ++ [low c], false, by omega, by go_num, rfl, by have := HLEN.out; simp; omega, HG3.out, hF⟩
              case measure => simp [intOf]; omega
            · have e : y = z := T3.out (by omega)
              subst e
              have u2 : decide (y ≤ 90) = false := by simpa using hu2
              have hbz2 : p + 1 ≤ (HGW.alloc (.cells #[.int .u8 (y)] 5)).heap.size := by have := HG.out.sz; simp; omega
              have hown2 := (HG.out.below ((Below.refl _ _).alloc (Nat.le_refl _) (.cells #[.int .u8 (y)] 5))).own
              have hsrc2 : SrcV (HGW.alloc (.cells #[.int .u8 (y)] 5)) 1 (.slice (some ⟨HGW.heap.size, 0, none⟩) 1 1) 1 ([low c].flatMap encU) := src_new encU_ok (by rw [heap_alloc_new, HYB.out])
              have HOWN2 := Bx.mk hown2
              clear hown2
              go_wp2_with (refine wpList_append_any rfl _ _ _ rfl (p + 1) 5 i0 _ 1 1 und_bytes hi0 hz0 hz1 hz2 rfl (by decide) _ (l).length ((l).flatMap encU) rfl HOWN2.out _ 1 ([low c].flatMap encU) rfl hsrc2 (by have := HLEN.out; unfold maxLen; simp; omega) (by have := HLEN.out; simp; omega) hbz2 ?_)
              intro v3 w4 hapd3
              have HG3 := Bx.mk ((HG.out.below ((Below.refl _ _).alloc (Nat.le_refl _) (.cells #[.int .u8 (y)] 5))).apd (m := [low c]) rfl rfl rfl rfl hapd3)
              clear hapd3 hsrc2 hbz2 HOWN2
              go_wp2
              go_roundw
              case rel => exact ⟨k + 1, l ++ [low c], false, by omega, by go_num, rfl, by have := HLEN.out; simp; omega, HG3.out, hF⟩
              case measure => simp [intOf]; omega
          · have e : y = z := T2.out (by omega)
            subst e
            have u1 : decide (65 ≤ y) = false := by simpa using hu1
            have hbz2 : p + 1 ≤ (HGW.alloc (.cells #[.int .u8 (y)] 5)).heap.size := by have := HG.out.sz; simp; omega
            have hown2 := (HG.out.below ((Below.refl _ _).alloc (Nat.le_refl _) (.cells #[.int .u8 (y)] 5))).own
            have hsrc2 : SrcV (HGW.alloc (.cells #[.int .u8 (y)] 5)) 1 (.slice (some ⟨HGW.heap.size, 0, none⟩) 1 1) 1 ([low c].flatMap encU) := src_new encU_ok (by rw [heap_alloc_new, HYB.out])
            have HOWN2 := Bx.mk hown2
            clear hown2
            go_wp2_with (refine wpList_append_any rfl _ _ _ rfl (p + 1) 5 i0 _ 1 1 und_bytes hi0 hz0 hz1 hz2 rfl (by decide) _ (l).length ((l).flatMap encU) rfl HOWN2.out _ 1 ([low c].flatMap encU) rfl hsrc2 (by have := HLEN.out; unfold maxLen; simp; omega) (by have := HLEN.out; simp; omega) hbz2 ?_)
            intro v3 w4 hapd3
            have HG3 := Bx.mk ((HG.out.below ((Below.refl _ _).alloc (Nat.le_refl _) (.cells #[.int .u8 (y)] 5))).apd (m := [low c]) rfl rfl rfl rfl hapd3)
            clear hapd3 hsrc2 hbz2 HOWN2
            go_wp2
            go_roundw
            case rel => exact ⟨k + 1, l ++ [low c], false, by omega, by go_num, rfl, by have := HLEN.out; simp; omega, HG3.out, hF⟩
            case measure => simp [intOf]; omega

    · obtain rfl : k = x.length := by omega
      have hb := back_u HG.out.own.rd
      have hres : l = R := by have := hF.out; rw [List.drop_length] at this; simpa [foldP] using this
      subst hres
      have HFIN := Bx.mk (HBEL.out.trans (HG.out.bel.mono (Nat.le_succ _)))
      clear hF hlen HR
      go_wp2
      go_ret
      exact ⟨rfl, HFIN.out⟩

end Go.Proofs.Ytpagoinnkknkfaa.Pb

namespace Go.Proofs.Ytpagoinnkknkfaa.Pb
open Go Go.RowKit Go.Proofs.Ytpagoinnkknkfaa.Slc
set_option linter.unusedVariables false
set_option linter.unusedSimpArgs false

theorem bytes_free (w : World) (s : ByteArray) (k : Nat) (h : k < s.size) : (By.bytesWorld w s).frozen? ⟨w.heap.size, k, none⟩ = false := by
  have hb : (By.bytesWorld w s).heap[w.heap.size]? = some (.cells (bytesRow s (By.capOf w s)) 5 ((bytesRow s (By.capOf w s)).size, (bytesRow s (By.capOf w s)).size + 1)) := heap_alloc_new w.drew _
  have hz : s.size ≤ (bytesRow s (By.capOf w s)).size := by unfold bytesRow; simp
  simp [World.frozen?, hb]; omega
/-- a row of bytes at the head of block p -/
structure Row (w : World) (p : Nat) (y : B) : Prop where
  cell : ∀ k (h : k < y.length), w.cell? ⟨p, k, none⟩ = some (.int .u8 ((y[k]).toNat : Int))
  free : ∀ k, k < y.length → w.frozen? ⟨p, k, none⟩ = false
theorem Row.set {w : World} {p : Nat} {y : B} (h : Row w p y) (k : Nat) (hk : k < y.length) (c : UInt8) : Row (w.setCell ⟨p, k, none⟩ (.int .u8 (c.toNat : Int))) p (y.set k c) := by
  refine ⟨fun j hj => ?_, fun j hj => ?_⟩
  · rw [List.length_set] at hj
    by_cases e : j = k
    · subst e
      rw [World.cell?_setCell_same' _ _ _ (by rw [h.cell j (by simpa using hj)]; rfl)]
      simp
    · have := h.cell j (by simpa using hj)
      rw [List.getElem_set_ne (by omega)]
      rw [← this]
      simp [e, Ne.symm e, go_sem]
  · rw [World.frozen?_setCell]; exact h.free j (by simpa using hj)

theorem low_state (x : B) (k : Nat) (hlt : k < x.length) : ((x.take k).map low ++ x.drop k)[k]? = some x[k] ∧ ((x.take k).map low ++ x.drop k).set k (low x[k]) = (x.take (k + 1)).map low ++ x.drop (k + 1) ∧ (low x[k] = x[k] → (x.take (k + 1)).map low ++ x.drop (k + 1) = (x.take k).map low ++ x.drop k) := by
  have hl : ((x.take k).map low).length = k := by simp; omega
  have e1 : (x.take (k + 1)).map low = (x.take k).map low ++ [low x[k]] := by rw [List.take_succ_eq_append_getElem hlt, List.map_append]; rfl
  rw [e1, List.drop_eq_getElem_cons hlt]
  generalize (x.take k).map low = a at *
  refine ⟨?_, ?_, ?_⟩
  · rw [List.getElem?_append_right (by omega)]; simp [hl]
  · rw [List.set_append_right _ _ (by omega), hl, Nat.sub_self, List.set_cons_zero]; simp only [List.append_assoc, List.singleton_append]
  · intro h; rw [h]; simp

set_option maxRecDepth 10000 in
set_option maxHeartbeats 4000000 in
theorem lower_any (w : World) (x : B) (hx : x.length ≤ 1000000) :
    Calls Try.prog 106 #[.string (bstr x)] w fun e w' => e = .returned (.string (bstr (x.map low))) ∧ Below w.heap.size w w' := by
  have hcv := By.bytes_of w (bstr x)
  have hsz := bstr_size x
  rw [hsz] at hcv
  have HROW := Bx.mk (show Row (By.bytesWorld w (bstr x)) w.heap.size x from ⟨fun k h => By.bytes_cell w (bstr x) k (by rw [hsz]; exact h), fun k h => bytes_free w (bstr x) k (by rw [hsz]; exact h)⟩)
  have HBEL := Bx.mk (By.bytes_below w (bstr x))
  clear hsz
  generalize By.bytesWorld w (bstr x) = W at *
  generalize By.capOf w (bstr x) = cap at *
  generalize hbs : bstr x = bs at *
  clear hbs
  obtain ⟨p, hp⟩ : ∃ p, p = w.heap.size := ⟨_, rfl⟩
  rw [← hp] at hcv HROW HBEL
  rw [← hp]
  clear hp
  go_enter Try.func106, Try.ntmps106
  go_wp2
  go_loopw [9] (fun i wr => ∃ (k : Nat) (y : B), k ≤ x.length ∧ i = .int .i64 k ∧ Bx (y = (x.take k).map low ++ x.drop k) ∧ Row wr p y ∧ Below p w wr) (fun i _ => x.length - (intOf i).toNat)
  case atStart => exact ⟨0, x, by omega, rfl, ⟨by simp⟩, HROW.out, HBEL.out⟩
  case round =>
    obtain ⟨k, y, hk, rfl, hy, hrow, hbel⟩ := hrel
    have hyl : y.length = x.length := by rw [hy.out]; simp; omega
    have HR := Bx.mk hrow
    have HB := Bx.mk hbel
    clear hrow hbel
    by_cases hlt : k < x.length
    · obtain ⟨s1, s2, s3⟩ := low_state x k hlt
      rw [← hy.out] at s1 s2 s3
      have hcell : wr.cell? ⟨p, k, none⟩ = some (.int .u8 ((x[k]).toNat : Int)) := by
        have := HR.out.cell k (by omega)
        rw [this]
        rw [List.getElem?_eq_getElem (by omega)] at s1
        rw [Option.some.inj s1]
      have hfr := HR.out.free k (by omega)
      have hnext := s2.symm
      have hsame : low x[k] = x[k] → y.set k (low x[k]) = y := fun e => by rw [s2]; exact s3 e
      clear s1 s2 s3
      have hrs := HR.out.set k (by omega) (low x[k])
      have hlow := low_int x[k]
      have hb0 : 0 ≤ ((x[k]).toNat : Int) := by omega
      have hb1 : ((x[k]).toNat : Int) ≤ 255 := by have := (x[k]).toNat_lt; omega
      have hle : (¬ (65 ≤ ((x[k]).toNat : Int) ∧ ((x[k]).toNat : Int) ≤ 90)) → low x[k] = x[k] := fun h => by
        apply UInt8.toNat_inj.1
        rw [if_neg h] at hlow; omega
      generalize low x[k] = lc at *
      generalize x[k] = c at *
      have HN := Bx.mk hnext
      have HS := Bx.mk hsame
      have HRS := Bx.mk hrs
      have HLE := Bx.mk hle
      have HYL := Bx.mk hyl
      clear hnext hsame hrs hle hy hyl
      generalize ((c).toNat : Int) = z at *
      by_cases hu : 65 ≤ z ∧ z ≤ 90
      · rw [if_pos hu] at hlow
        obtain ⟨hu1, hu2⟩ := hu
        have HRS2 : Bx (Row (wr.setCell ⟨p, k, none⟩ (.int .u8 (z + 32))) p (y.set k lc)) := by rw [← hlow]; exact HRS
        clear HRS hlow
        go_wp2
        go_roundw
        case rel => exact ⟨k + 1, y.set k lc, by omega, by go_num, ⟨HN.out.symm⟩, HRS2.out, HB.out.setCell (p := ⟨p, k, none⟩) (Nat.le_refl _) _⟩
        case measure => simp [intOf]; omega
      · have e := HS.out (HLE.out hu)
        have HE := Bx.mk e
        clear hlow HRS e
        by_cases hu1 : 65 ≤ z
        · have hu2 : ¬ z ≤ 90 := fun h => hu ⟨hu1, h⟩
          have u2 : decide (z ≤ 90) = false := by simpa using hu2
          clear hu hu2
          go_wp2
          go_roundw
          case rel => exact ⟨k + 1, y, by omega, by go_num, ⟨by rw [HN.out, HE.out]⟩, HR.out, HB.out⟩
          case measure => simp [intOf]; omega
        · have u1 : decide (65 ≤ z) = false := by simpa using hu1
          clear hu
          go_wp2
          go_roundw
          case rel => exact ⟨k + 1, y, by omega, by go_num, ⟨by rw [HN.out, HE.out]⟩, HR.out, HB.out⟩
          case measure => simp [intOf]; omega
    · obtain rfl : k = x.length := by omega
      have hres : y = x.map low := by rw [hy.out]; simp
      have hb : (convert 92 9 (.slice (some ⟨p, 0, none⟩) x.length cap)).run Try.prog wr = .ok (.string (bstr (x.map low))) wr := by
        rw [← hyl]
        refine (run_convert_bytes_back wr _ _ _ _ cap y Try.underlying92 Try.underlying5 Try.underlying9 ?_).trans ?_
        · intro j hj
          rw [add_at, Nat.zero_add, HR.out.cell j hj]
        · rw [← hres]; rfl
      clear hy hyl hres
      go_wp2
      go_ret
      exact ⟨rfl, HB.out⟩


set_option maxRecDepth 10000 in
set_option maxHeartbeats 600000 in
theorem rfold_any (w : World) (x : B) (hx : x.length ≤ 1000000) :
    Calls Try.prog 104 #[.string (bstr x)] w fun e w' => e = .returned (.string (bstr (foldP x [] false))) ∧ Below w.heap.size w w' := by
  obtain ⟨i0, hi0, hz0, hz1, hz2⟩ := info_parts info_u8
  obtain ⟨R, hR⟩ : ∃ R, R = foldP x [] false := ⟨_, rfl⟩
  rw [← hR]
  have HR := Bx.mk (hR.trans (fold_eq x).symm)
  clear hR
  have hlow := lower_any w x hx
  generalize bstr x = bs at *
  go_enter Try.func104, Try.ntmps104
  go_wp2_with (go_at_call 106; refine hlow.mono ?_; rintro e W ⟨rfl, hbW⟩)
  have HBW := Bx.mk hbW
  have hsz := bstr_size (x.map low)
  rw [List.length_map] at hsz
  have hget : ∀ k (h : k < x.length), (bstr (x.map low)).data.toList[k]? = some (low x[k]) := by
    intro k h
    have : (bstr (x.map low)).data.toList = x.map low := by simp [bstr]
    rw [this, List.getElem?_map, List.getElem?_eq_getElem h]; rfl
  have HGET := Bx.mk hget
  clear hget hbW hlow
  generalize bstr (x.map low) = ys at *
  go_loopw [3, 4] (fun v i wr => ∃ (k : Nat) (l : B), k ≤ x.length ∧ i = .int .i64 k ∧ l.length ≤ k ∧ Gr W W.heap.size 5 1 encU wr v l ∧ Bx (strip (foldR (x.drop k) l) = R)) (fun _ i _ => x.length - (intOf i).toNat)
  case atStart => exact ⟨0, [], by omega, rfl, by simp, Gr.nil _ _ (Nat.le_refl _), ⟨by rw [List.drop_zero]; exact HR.out.symm⟩⟩
  case round =>
    obtain ⟨k, l, hk, rfl, hlen, hG, hF⟩ := hrel
    obtain ⟨av, cv, rfl, -⟩ := hG.form
    have HG := Bx.mk hG
    have HLEN := Bx.mk hlen
    have HM1 := Bx.mk (show l.length + 1 ≤ maxLen by unfold maxLen; omega)
    have HM2 := Bx.mk (show (l.length + 1) * 1 ≤ 140737488355328 by omega)
    have HM3 := Bx.mk (show l.length ≤ k + 1 by omega)
    have HM4 := Bx.mk (show l.length + 1 ≤ k + 1 by omega)
    clear hG hlen
    by_cases hlt : k < x.length
    · have hst : x.drop k = x[k] :: x.drop (k + 1) := List.drop_eq_getElem_cons hlt
      rw [hst, foldR] at hF
      have hgk := HGET.out k hlt
      have h32 := eq32 (low x[k])
      generalize low x[k] = c at *
      have hkz : k < ys.size := by omega
      have hgk2 : ((ys[k]'hkz).toNat : Int) = (c.toNat : Int) := by
        have : ys.data.toList[k]? = some (ys[k]'hkz) := by rw [List.getElem?_eq_getElem (by simpa using hkz)]; rfl
        rw [this] at hgk
        rw [Option.some.inj hgk]
      have HYB := Bx.mk (show (.cells #[.int .u8 ((c.toNat : Int))] 5 (0, 0) : Obj) = .cells (encU c).toArray 5 (0, 0) from rfl)
      have HLAST := Bx.mk (show ∀ (h : 0 < l.length), l.getLast? = some (l[l.length - 1]'(by omega)) from fun h => by rw [List.getLast?_eq_getElem?, List.getElem?_eq_getElem (by omega)])
      have HC := Bx.mk hF.out
      clear hgk hst hF
      generalize hz : ((c).toNat : Int) = z at *
      by_cases h : z = 32
      · have hc32 : c = 32 := h32.2 h
        have t0 : (z == 32) = true := by simp [h]
        have t0' : (z != 32) = false := by simp [h]
        by_cases hn : l = []
        · have hc2 := HC.out
          rw [if_neg (by rw [hn]; simp [hc32])] at hc2
          have HC2 := Bx.mk hc2
          have hl0 : decide (0 < l.length) = false := by rw [hn]; rfl
          have hl1 : decide ((l.length : Int) > 0) = false := by rw [hn]; rfl
          clear hc2 hn hc32 h32 HC h
          go_wp2
          try clear hw1
          go_roundw
          case rel => exact ⟨k + 1, l, hlt, by go_num, HM3.out, HG.out, ⟨HC2.out⟩⟩
          case measure => simp [intOf]; omega
        · have hp : 0 < l.length := List.length_pos_iff.2 hn
          obtain ⟨b, o, cc, hvf, -, hbl, hcell⟩ := HG.out.own.rd.cells encU_ok hp
          simp only [Value.slice.injEq, true_and] at hvf
          obtain ⟨rfl, rfl⟩ := hvf
          have hcl := hcell wr (fun k hk => rfl) (l.length - 1) (by omega) 0 _ (by omega) rfl
          rw [show (l.length - 1) * 1 + 0 = l.length - 1 by omega] at hcl
          clear hcell
          have hla := HLAST.out hp
          have h32l := eq32 (l[l.length - 1]'(by omega))
          generalize (l[l.length - 1]'(by omega)) = lc at *
          obtain ⟨n1, hn1⟩ : ∃ n1, n1 = l.length - 1 := ⟨_, rfl⟩
          rw [← hn1] at hcl
          have hn1l : n1 < l.length := by omega
          have hsub : ((l.length : Int) - 1) = (n1 : Int) := by omega
          have hw1 : wrap64 (n1 : Int) = (n1 : Int) := IntWalk.wrap64_in _ (by have := HLEN.out; omega)
          clear hn1
          have hl0 : decide (0 < l.length) = true := by simpa using hp
          by_cases hl : lc = 32
          · have hc2 := HC.out
            rw [if_neg (by rw [hla, hl]; simp [hc32])] at hc2
            have HC2 := Bx.mk hc2
            have tl : ((lc.toNat : Int) != 32) = false := by simp [h32l.1 hl]
            clear hc2 hn hc32 h32 HC h hla h32l hl
            generalize (lc.toNat : Int) = lz at *
            go_wp2
            try clear hw1
            go_roundw
            case rel => exact ⟨k + 1, l, hlt, by go_num, HM3.out, HG.out, ⟨HC2.out⟩⟩
            case measure => simp [intOf]; omega
          · have hc2 := HC.out
            rw [if_pos (.inr ⟨hp, by rw [hla]; simpa using hl⟩)] at hc2
            have HC2 := Bx.mk hc2
            have tl : ((lc.toNat : Int) != 32) = true := by
              simp only [bne_iff_ne, ne_eq]; exact fun q => hl (h32l.2 q)
            clear hc2 hn hc32 h32 HC h hla h32l hl
            generalize (lc.toNat : Int) = lz at *
            have hbz2 : W.heap.size ≤ (wr.alloc (.cells #[.int .u8 (z)] 5)).heap.size := by have := HG.out.sz; simp; omega
            have hown2 := (HG.out.below ((Below.refl _ _).alloc (Nat.le_refl _) (.cells #[.int .u8 (z)] 5))).own
            have hsrc2 : SrcV (wr.alloc (.cells #[.int .u8 (z)] 5)) 1 (.slice (some ⟨wr.heap.size, 0, none⟩) 1 1) 1 ([c].flatMap encU) := src_new encU_ok (by rw [heap_alloc_new, HYB.out])
            have HOWN2 := Bx.mk hown2
            clear hown2
            go_wp2_with (refine wpList_append_any rfl _ _ _ rfl W.heap.size 5 i0 _ 1 1 und_bytes hi0 hz0 hz1 hz2 rfl (by decide) _ l.length (l.flatMap encU) rfl HOWN2.out _ 1 ([c].flatMap encU) rfl hsrc2 HM1.out HM2.out hbz2 ?_)
            intro v3 w4 hapd3
            have HG3 := Bx.mk ((HG.out.below ((Below.refl _ _).alloc (Nat.le_refl _) (.cells #[.int .u8 (z)] 5))).apd (m := [c]) rfl rfl rfl rfl hapd3)
            clear hapd3 hsrc2 hbz2 HOWN2
            go_wp2
            try clear hw1
            go_roundw
            case rel => exact ⟨k + 1, l ++ [c], hlt, by go_num, by rw [List.length_append]; exact HM4.out, HG3.out, ⟨HC2.out⟩⟩
            case measure => simp [intOf]; omega
      · have hc2 := HC.out
        rw [if_pos (.inl fun q => h (h32.1 q))] at hc2
        have HC2 := Bx.mk hc2
        have t0 : (z == 32) = false := by simpa using h
        have t0' : (z != 32) = true := by simpa using h
        clear hc2 h32 HC h
        have hbz2 : W.heap.size ≤ (wr.alloc (.cells #[.int .u8 (z)] 5)).heap.size := by have := HG.out.sz; simp; omega
        have hown2 := (HG.out.below ((Below.refl _ _).alloc (Nat.le_refl _) (.cells #[.int .u8 (z)] 5))).own
        have hsrc2 : SrcV (wr.alloc (.cells #[.int .u8 (z)] 5)) 1 (.slice (some ⟨wr.heap.size, 0, none⟩) 1 1) 1 ([c].flatMap encU) := src_new encU_ok (by rw [heap_alloc_new, HYB.out])
        have HOWN2 := Bx.mk hown2
        clear hown2
        go_wp2_with (refine wpList_append_any rfl _ _ _ rfl W.heap.size 5 i0 _ 1 1 und_bytes hi0 hz0 hz1 hz2 rfl (by decide) _ l.length (l.flatMap encU) rfl HOWN2.out _ 1 ([c].flatMap encU) rfl hsrc2 HM1.out HM2.out hbz2 ?_)
        intro v3 w4 hapd3
        have HG3 := Bx.mk ((HG.out.below ((Below.refl _ _).alloc (Nat.le_refl _) (.cells #[.int .u8 (z)] 5))).apd (m := [c]) rfl rfl rfl rfl hapd3)
        clear hapd3 hsrc2 hbz2 HOWN2
        go_wp2
        try clear hw1
        go_roundw
        case rel => exact ⟨k + 1, l ++ [c], hlt, by go_num, by rw [List.length_append]; exact HM4.out, HG3.out, ⟨HC2.out⟩⟩
        case measure => simp [intOf]; omega
    · obtain rfl : k = x.length := by omega
      have hF2 := hF.out
      rw [List.drop_length, foldR] at hF2
      have HF2 := Bx.mk hF2
      clear hF hF2
      have HLAST := Bx.mk (show ∀ (h : 0 < l.length), l.getLast? = some (l[l.length - 1]'(by omega)) from fun h => by rw [List.getLast?_eq_getElem?, List.getElem?_eq_getElem (by omega)])
      have HFIN := Bx.mk (HBW.out.trans (HG.out.bel.mono HBW.out.size))
      by_cases hn : l = []
      · have hres : R = [] := by have := HF2.out; rw [hn] at this; exact this.symm
        subst hres
        have hb := back_u HG.out.own.rd
        rw [hn] at hb
        have hl0 : decide (0 < l.length) = false := by rw [hn]; rfl
        have hz : l.length = 0 := by rw [hn]; rfl
        have hb2 : (convert 92 9 (.slice av 0 cv)).run Try.prog wr = .ok (.string (bstr [])) wr := hb
        clear hn hb hl0 HR HF2
        go_wp2
        go_ret
        exact ⟨rfl, HFIN.out⟩
      · have hp : 0 < l.length := List.length_pos_iff.2 hn
        have hl0 : decide (0 < l.length) = true := by simpa using hp
        obtain ⟨b, o, cc, hvf, -, hbl, hcell⟩ := HG.out.own.rd.cells encU_ok hp
        simp only [Value.slice.injEq, true_and] at hvf
        obtain ⟨rfl, rfl⟩ := hvf
        have hcl := hcell wr (fun k hk => rfl) (l.length - 1) (by omega) 0 _ (by omega) rfl
        rw [show (l.length - 1) * 1 + 0 = l.length - 1 by omega] at hcl
        clear hcell
        have hla := HLAST.out hp
        have h32l := eq32 (l[l.length - 1]'(by omega))
        generalize (l[l.length - 1]'(by omega)) = lc at *
        obtain ⟨n1, hn1⟩ : ∃ n1, n1 = l.length - 1 := ⟨_, rfl⟩
        have hdl : l.dropLast = l.take n1 := by rw [List.dropLast_eq_take, hn1]
        rw [← hn1] at hcl
        have hn1l : n1 < l.length := by omega
        have hsub : ((l.length : Int) - 1) = (n1 : Int) := by omega
        have hw1 : wrap64 (n1 : Int) = (n1 : Int) := IntWalk.wrap64_in _ (by have := HLEN.out; omega)
        have HDL := Bx.mk hdl
        clear hn1 hdl
        by_cases hl : lc = 32
        · have hres : R = l.take n1 := by rw [← HF2.out, ← HDL.out]; unfold strip; rw [hla, hl]; rfl
          obtain ⟨u, hrun, hrd⟩ := HG.out.own.rd.upto (P := Try.prog) (T := 92) encU_ok (by kernel_rfl) (fun W => by kernel_rfl) n1 (by omega)
          have hr2 := hrun wr
          have hb := back_u hrd
          rw [← hres] at hb
          clear hres
          have tl : ((lc.toNat : Int) == 32) = true := by simp [h32l.1 hl]
          clear HR HF2 h32l hl hla hrun hrd hn
          generalize (lc.toNat : Int) = lz at *
          go_wp2
          go_ret
          exact ⟨rfl, HFIN.out⟩
        · have hres : R = l := by rw [← HF2.out]; unfold strip; rw [hla, if_neg (by simpa using hl)]
          subst hres
          have hb := back_u HG.out.own.rd
          have tl : ((lc.toNat : Int) == 32) = false := by
            simp only [beq_eq_false_iff_ne, ne_eq]; exact fun q => hl (h32l.2 q)
          clear HR HF2 h32l hl hla hn
          generalize (lc.toNat : Int) = lz at *
          go_wp2
          go_ret
          exact ⟨rfl, HFIN.out⟩
end Go.Proofs.Ytpagoinnkknkfaa.Pb
