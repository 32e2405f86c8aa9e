/-
  text.Fold, certpathref01.Lower, certpathref01.Fold.
-/
import Derived.Test.YtpagoinnkknkfaaPbData
import Derived.Test.YtpagoinnkknkfaaGrow
import Derived.Test.YtpagoinnkknkfaaBytes
import Derived.Deep.QuietTactic
import Derived.IntWalk
import Derived.Lib.Hide
import Derived.Deep.DeepCutAuto
namespace Go.Proofs.Ytpagoinnkknkfaa.Pb
open Go Go.RowKit Go.Proofs.Ytpagoinnkknkfaa.Slc
set_option linter.unusedVariables false
set_option linter.unusedSimpArgs false

structure Bx (p : Prop) : Prop where
  out : p
def encU (c : UInt8) : List Value := [.int .u8 (c.toNat : Int)]
theorem encU_ok : Enc 1 encU := ⟨fun c => rfl, fun c u hu => by simp [encU] at hu; subst hu; rfl, by decide⟩
theorem und_bytes : Try.prog.underlying 92 = some (.slice 5) := by kernel_rfl
theorem info_u8 : (Try.prog.info? 5).map (fun i => (i.zero, i.size, i.bytes)) = some (some (.int .u8 0), 1, 1) := by kernel_rfl
theorem flat_encU (l : B) : l.flatMap encU = l.map fun c => .int .u8 (c.toNat : Int) := by
  induction l with
  | nil => rfl
  | cons x l ih => simp [encU, List.flatMap_cons, ih]
/-- the bytes of an own slice, as a string -/
theorem back_u {w : World} {v : Value} {l : List UInt8} (h : Rd w encU v l) :
    (convert 92 9 v).run Try.prog w = .ok (.string (bstr l)) w := by
  rcases Nat.eq_zero_or_pos l.length with h0 | hl
  · obtain rfl : l = [] := List.eq_nil_of_length_eq_zero h0
    obtain ⟨ad, c, rfl, -⟩ := h.form
    show (convert 92 9 (.slice ad 0 c)).run Try.prog w = _
    rw [run_convert_bytes_string w _ _ 5 ad 0 c Try.underlying92 Try.underlying5 Try.underlying9]
    cases ad <;> rfl
  · obtain ⟨b, o, c, rfl, hc, hb, hcell⟩ := h.cells encU_ok hl
    refine run_convert_bytes_back w _ _ _ _ c l Try.underlying92 Try.underlying5 Try.underlying9 ?_
    intro j hj
    have := hcell w (fun _ _ => rfl) j (by simpa using hj) 0 _ (by omega) rfl
    rw [add_at]
    rw [show o + (j * 1 + 0) = o + j by omega] at this
    rw [this]
theorem low_int (c : UInt8) : ((low c).toNat : Int) = if 65 ≤ (c.toNat : Int) ∧ (c.toNat : Int) ≤ 90 then (c.toNat : Int) + 32 else (c.toNat : Int) := by
  unfold low
  by_cases h : 65 ≤ c ∧ c ≤ 90
  · have h1 := UInt8.le_iff_toNat_le.1 h.1
    have h2 := UInt8.le_iff_toNat_le.1 h.2
    simp at h1 h2
    rw [if_pos h, if_pos (by omega), UInt8.toNat_add]
    simp only [UInt8.reduceToNat]
    omega
  · rw [if_neg h, if_neg]
    intro q; apply h
    refine ⟨UInt8.le_iff_toNat_le.2 (by simp; omega), UInt8.le_iff_toNat_le.2 (by simp; omega)⟩
theorem eq32 (c : UInt8) : (c = 32) ↔ (c.toNat : Int) = 32 := by
  constructor
  · rintro rfl; rfl
  · intro h
    apply UInt8.toNat_inj.1
    simp; omega

theorem foldP_len : ∀ (s out : B) (gap : Bool), (foldP s out gap).length ≤ out.length + (if gap then 1 else 0) + 2 * s.length
  | [], out, gap => by simp [foldP]
  | c :: s, out, gap => by
    rw [foldP]
    split
    · have := foldP_len s out (decide (0 < out.length))
      have h2 : (if decide (0 < out.length) then 1 else 0) ≤ 1 := by split <;> omega
      simp only [List.length_cons]; omega
    · have := foldP_len s ((if gap then out ++ [32] else out) ++ [low c]) false
      have e : ((if gap = true then out ++ [32] else out) ++ [low c]).length = out.length + (if gap then 1 else 0) + 1 := by split <;> simp
      rw [e] at this
      simp only [List.length_cons, Bool.false_eq_true, if_false] at this ⊢; omega

set_option maxRecDepth 10000 in
set_option maxHeartbeats 4000000 in
theorem fold_any (w : World) (x : B) (hx : x.length ≤ 1000000) :
    Calls Try.prog 107 #[.string (bstr x)] w fun e w' => e = .returned (.string (bstr (foldP x [] false))) ∧ Below w.heap.size w w' := by
  obtain ⟨i0, hi0, hz0, hz1, hz2⟩ := info_parts info_u8
  obtain ⟨R, hR⟩ : ∃ R, R = foldP x [] false := ⟨_, rfl⟩
  rw [← hR]
  have HR := Bx.mk hR
  have hcv := By.bytes_of w (bstr x)
  have hsz := bstr_size x
  rw [hsz] at hcv
  have HCELL := Bx.mk (show ∀ k (h : k < x.length), (By.bytesWorld w (bstr x)).cell? ⟨w.heap.size, k, none⟩ = some (.int .u8 ((x[k]).toNat : Int)) from fun k h => By.bytes_cell w (bstr x) k (by rw [hsz]; exact h))
  have HBEL := Bx.mk (By.bytes_below w (bstr x))
  have hlt : w.heap.size + 1 = (By.bytesWorld w (bstr x)).heap.size := by unfold By.bytesWorld; simp
  have HLT := Bx.mk hlt
  clear hR hlt hsz
  generalize By.bytesWorld w (bstr x) = W at *
  generalize By.capOf w (bstr x) = cap at *
  generalize hbs : bstr x = bs at *
  clear hbs
  obtain ⟨p, hp⟩ : ∃ p, p = w.heap.size := ⟨_, rfl⟩
  rw [← hp] at hcv
  rw [← hp] at HCELL HBEL HLT
  rw [← hp]
  have HP := Bx.mk hp
  clear hp
  go_enter Try.func107, Try.ntmps107
  go_wp2
  go_loopw [3, 4, 10] (fun v g i wr => ∃ (k : Nat) (l : B) (gap : Bool), k ≤ x.length ∧ i = .int .i64 k ∧ g = .bool gap ∧ l.length + (if gap then 1 else 0) ≤ 2 * k ∧ Gr W (p + 1) 5 1 encU wr v l ∧ Bx (foldP (x.drop k) l gap = R)) (fun _ _ i _ => x.length - (intOf i).toNat)
  case atStart => exact ⟨0, [], false, by omega, rfl, rfl, by simp, Gr.nil _ _ (by rw [HLT.out]; omega), ⟨by rw [List.drop_zero]; exact HR.out.symm⟩⟩
  case round =>
    obtain ⟨k, l, gap, hk, rfl, rfl, hlen, hG, hF⟩ := hrel
    obtain ⟨av, cv, rfl, -⟩ := hG.form
    have HG := Bx.mk hG
    clear hG
    by_cases hlt : k < x.length
    · have hcell : wr.cell? ⟨p, k, none⟩ = some (.int .u8 ((x[k]).toNat : Int)) := (HG.out.bel.cell (p := ⟨p, k, none⟩) (by simp)).trans (HCELL.out k hlt)
      have hst : x.drop k = x[k] :: x.drop (k + 1) := List.drop_eq_getElem_cons hlt
      rw [hst, foldP] at hF
      have h32 := eq32 x[k]
      have hlow := low_int x[k]
      have hb0 : 0 ≤ ((x[k]).toNat : Int) := by omega
      have hb1 : ((x[k]).toNat : Int) ≤ 255 := by have := (x[k]).toNat_lt; omega
      generalize x[k] = c at *
      generalize hz : ((c).toNat : Int) = z at *
      by_cases h : z = 32
      · rw [if_pos (h32.2 h)] at hF
        have t0 : (z == 32) = true := by simp [h]
        have hlen' : l.length ≤ 2 * k := by split at hlen <;> omega
        clear hlow h32 hz hst hlen h hb0 hb1
        have HLEN := Bx.mk hlen'
        clear hlen'
        go_wp2
        go_roundw
        case rel => exact ⟨k + 1, l, decide (0 < l.length), by omega, by go_num, by simp, by have := HLEN.out; split <;> omega, HG.out, hF⟩
        case measure => simp [intOf]; omega
      · rw [if_neg (fun q => h (h32.1 q))] at hF
        have t0 : (z == 32) = false := by simpa using h
        clear h32 hst
        have HBEL2 := HG.out
        obtain ⟨y, hy, t1, t2, t3⟩ : ∃ y : Int, ((low c).toNat : Int) = y ∧ (65 ≤ z ∧ z ≤ 90 → y = z + 32) ∧ (¬ 65 ≤ z → y = z) ∧ (¬ z ≤ 90 → y = z) := ⟨_, rfl, fun h => by rw [hlow, if_pos h], fun h => by rw [hlow, if_neg (by omega)], fun h => by rw [hlow, if_neg (by omega)]⟩
        have T1 := Bx.mk t1
        have T2 := Bx.mk t2
        have T3 := Bx.mk t3
        have hyb : (.cells #[.int .u8 y] 5 (0, 0) : Obj) = .cells (encU (low c)).toArray 5 (0, 0) := by rw [← hy]; rfl
        have HYB := Bx.mk hyb
        clear hlow hz h t1 t2 t3 hy hyb
        obtain ⟨HGW, hHGW⟩ : ∃ q, q = wr := ⟨_, rfl⟩
        subst hHGW
        cases gap with
        | true =>
          simp only [if_true] at hlen hF
          have HLEN := Bx.mk hlen
          clear hlen
          have hown := (HG.out.below ((Below.refl _ _).alloc (Nat.le_refl _) (.cells #[.int .u8 32] 5))).own
          have hsrc : SrcV (HGW.alloc (.cells #[.int .u8 32] 5)) 1 (.slice (some ⟨HGW.heap.size, 0, none⟩) 1 1) 1 ([(32 : UInt8)].flatMap encU) := src_new encU_ok (heap_alloc_new _ _)
          have hbz : p + 1 ≤ (HGW.alloc (.cells #[.int .u8 32] 5)).heap.size := by have := HG.out.sz; simp; omega
          have HOWN := Bx.mk hown
          clear hown
          go_wp2_with (refine wpList_append_any rfl _ _ _ rfl (p + 1) 5 i0 _ 1 1 und_bytes hi0 hz0 hz1 hz2 rfl (by decide) _ l.length (l.flatMap encU) rfl HOWN.out _ 1 ([(32 : UInt8)].flatMap encU) rfl hsrc (by have := HLEN.out; unfold maxLen; omega) (by have := HLEN.out; omega) hbz ?_)
          intro v2 HG2W hapd
          have HG2 := Bx.mk ((HG.out.below ((Below.refl _ _).alloc (Nat.le_refl _) (.cells #[.int .u8 32] 5))).apd (m := [32]) rfl rfl rfl rfl hapd)
          clear hapd hsrc hbz HOWN
          obtain ⟨l2, hl2⟩ : ∃ l2, l2 = l ++ [32] := ⟨_, rfl⟩
          rw [← hl2] at HG2 hF
          have HLEN2 := Bx.mk (show l2.length ≤ 2 * k by rw [hl2]; have := HLEN.out; simp; omega)
          clear hl2 HLEN
          obtain ⟨av2, cv2, hv2, -⟩ := HG2.out.form
          subst hv2
          by_cases hu1 : 65 ≤ z
          · by_cases hu2 : z ≤ 90
            · have e : y = z + 32 := T1.out ⟨hu1, hu2⟩
              subst e
              have hbz2 : p + 1 ≤ (HG2W.alloc (.cells #[.int .u8 (z + 32)] 5)).heap.size := by have := HG2.out.sz; simp; omega
              have hown2 := (HG2.out.below ((Below.refl _ _).alloc (Nat.le_refl _) (.cells #[.int .u8 (z + 32)] 5))).own
              have hsrc2 : SrcV (HG2W.alloc (.cells #[.int .u8 (z + 32)] 5)) 1 (.slice (some ⟨HG2W.heap.size, 0, none⟩) 1 1) 1 ([low c].flatMap encU) := src_new encU_ok (by rw [heap_alloc_new, HYB.out])
              have HOWN2 := Bx.mk hown2
              clear hown2
              go_wp2_with (refine wpList_append_any rfl _ _ _ rfl (p + 1) 5 i0 _ 1 1 und_bytes hi0 hz0 hz1 hz2 rfl (by decide) _ l2.length (l2.flatMap encU) rfl HOWN2.out _ 1 ([low c].flatMap encU) rfl hsrc2 (by have := HLEN2.out; unfold maxLen; simp; omega) (by have := HLEN2.out; simp; omega) hbz2 ?_)
              intro v3 w4 hapd3
              have HG3 := Bx.mk ((HG2.out.below ((Below.refl _ _).alloc (Nat.le_refl _) (.cells #[.int .u8 (z + 32)] 5))).apd (m := [low c]) rfl rfl rfl rfl hapd3)
              clear hapd3 hsrc2 hbz2 HOWN2
              go_wp2
              go_roundw
              case rel => exact ⟨k + 1, l2 ++ [low c], false, by omega, by go_num, rfl, by have := HLEN2.out; simp; omega, HG3.out, hF⟩
              case measure => simp [intOf]; omega
            · have e : y = z := T3.out (by omega)
              subst e
              have u2 : decide (y ≤ 90) = false := by simpa using hu2
              have hbz2 : p + 1 ≤ (HG2W.alloc (.cells #[.int .u8 (y)] 5)).heap.size := by have := HG2.out.sz; simp; omega
              have hown2 := (HG2.out.below ((Below.refl _ _).alloc (Nat.le_refl _) (.cells #[.int .u8 (y)] 5))).own
              have hsrc2 : SrcV (HG2W.alloc (.cells #[.int .u8 (y)] 5)) 1 (.slice (some ⟨HG2W.heap.size, 0, none⟩) 1 1) 1 ([low c].flatMap encU) := src_new encU_ok (by rw [heap_alloc_new, HYB.out])
              have HOWN2 := Bx.mk hown2
              clear hown2
              go_wp2_with (refine wpList_append_any rfl _ _ _ rfl (p + 1) 5 i0 _ 1 1 und_bytes hi0 hz0 hz1 hz2 rfl (by decide) _ l2.length (l2.flatMap encU) rfl HOWN2.out _ 1 ([low c].flatMap encU) rfl hsrc2 (by have := HLEN2.out; unfold maxLen; simp; omega) (by have := HLEN2.out; simp; omega) hbz2 ?_)
              intro v3 w4 hapd3
              have HG3 := Bx.mk ((HG2.out.below ((Below.refl _ _).alloc (Nat.le_refl _) (.cells #[.int .u8 (y)] 5))).apd (m := [low c]) rfl rfl rfl rfl hapd3)
              clear hapd3 hsrc2 hbz2 HOWN2
              go_wp2
              go_roundw
              case rel => exact ⟨k + 1, l2 ++ [low c], false, by omega, by go_num, rfl, by have := HLEN2.out; simp; omega, HG3.out, hF⟩
              case measure => simp [intOf]; omega
          · have e : y = z := T2.out (by omega)
            subst e
            have u1 : decide (65 ≤ y) = false := by simpa using hu1
            have hbz2 : p + 1 ≤ (HG2W.alloc (.cells #[.int .u8 (y)] 5)).heap.size := by have := HG2.out.sz; simp; omega
            have hown2 := (HG2.out.below ((Below.refl _ _).alloc (Nat.le_refl _) (.cells #[.int .u8 (y)] 5))).own
            have hsrc2 : SrcV (HG2W.alloc (.cells #[.int .u8 (y)] 5)) 1 (.slice (some ⟨HG2W.heap.size, 0, none⟩) 1 1) 1 ([low c].flatMap encU) := src_new encU_ok (by rw [heap_alloc_new, HYB.out])
            have HOWN2 := Bx.mk hown2
            clear hown2
            go_wp2_with (refine wpList_append_any rfl _ _ _ rfl (p + 1) 5 i0 _ 1 1 und_bytes hi0 hz0 hz1 hz2 rfl (by decide) _ l2.length (l2.flatMap encU) rfl HOWN2.out _ 1 ([low c].flatMap encU) rfl hsrc2 (by have := HLEN2.out; unfold maxLen; simp; omega) (by have := HLEN2.out; simp; omega) hbz2 ?_)
            intro v3 w4 hapd3
            have HG3 := Bx.mk ((HG2.out.below ((Below.refl _ _).alloc (Nat.le_refl _) (.cells #[.int .u8 (y)] 5))).apd (m := [low c]) rfl rfl rfl rfl hapd3)
            clear hapd3 hsrc2 hbz2 HOWN2
            go_wp2
            go_roundw
            case rel => exact ⟨k + 1, l2 ++ [low c], false, by omega, by go_num, rfl, by have := HLEN2.out; simp; omega, HG3.out, hF⟩
            case measure => simp [intOf]; omega

        | false =>
          simp only [Bool.false_eq_true, if_false, Nat.add_zero] at hlen hF
          have HLEN := Bx.mk hlen
          clear hlen
          by_cases hu1 : 65 ≤ z
          · by_cases hu2 : z ≤ 90
            · have e : y = z + 32 := T1.out ⟨hu1, hu2⟩
              subst e
              have hbz2 : p + 1 ≤ (HGW.alloc (.cells #[.int .u8 (z + 32)] 5)).heap.size := by have := HG.out.sz; simp; omega
              have hown2 := (HG.out.below ((Below.refl _ _).alloc (Nat.le_refl _) (.cells #[.int .u8 (z + 32)] 5))).own
              have hsrc2 : SrcV (HGW.alloc (.cells #[.int .u8 (z + 32)] 5)) 1 (.slice (some ⟨HGW.heap.size, 0, none⟩) 1 1) 1 ([low c].flatMap encU) := src_new encU_ok (by rw [heap_alloc_new, HYB.out])
              have HOWN2 := Bx.mk hown2
              clear hown2
              go_wp2_with (refine wpList_append_any rfl _ _ _ rfl (p + 1) 5 i0 _ 1 1 und_bytes hi0 hz0 hz1 hz2 rfl (by decide) _ (l).length ((l).flatMap encU) rfl HOWN2.out _ 1 ([low c].flatMap encU) rfl hsrc2 (by have := HLEN.out; unfold maxLen; simp; omega) (by have := HLEN.out; simp; omega) hbz2 ?_)
              intro v3 w4 hapd3
              have HG3 := Bx.mk ((HG.out.below ((Below.refl _ _).alloc (Nat.le_refl _) (.cells #[.int .u8 (z + 32)] 5))).apd (m := [low c]) rfl rfl rfl rfl hapd3)
              clear hapd3 hsrc2 hbz2 HOWN2
              go_wp2
              go_roundw
              case rel => exact ⟨k + 1, l ++ [low c], false, by omega, by go_num, rfl, by have := HLEN.out; simp; omega, HG3.out, hF⟩
              case measure => simp [intOf]; omega
            · have e : y = z := T3.out (by omega)
              subst e
              have u2 : decide (y ≤ 90) = false := by simpa using hu2
              have hbz2 : p + 1 ≤ (HGW.alloc (.cells #[.int .u8 (y)] 5)).heap.size := by have := HG.out.sz; simp; omega
              have hown2 := (HG.out.below ((Below.refl _ _).alloc (Nat.le_refl _) (.cells #[.int .u8 (y)] 5))).own
              have hsrc2 : SrcV (HGW.alloc (.cells #[.int .u8 (y)] 5)) 1 (.slice (some ⟨HGW.heap.size, 0, none⟩) 1 1) 1 ([low c].flatMap encU) := src_new encU_ok (by rw [heap_alloc_new, HYB.out])
              have HOWN2 := Bx.mk hown2
              clear hown2
              go_wp2_with (refine wpList_append_any rfl _ _ _ rfl (p + 1) 5 i0 _ 1 1 und_bytes hi0 hz0 hz1 hz2 rfl (by decide) _ (l).length ((l).flatMap encU) rfl HOWN2.out _ 1 ([low c].flatMap encU) rfl hsrc2 (by have := HLEN.out; unfold maxLen; simp; omega) (by have := HLEN.out; simp; omega) hbz2 ?_)
              intro v3 w4 hapd3
              have HG3 := Bx.mk ((HG.out.below ((Below.refl _ _).alloc (Nat.le_refl _) (.cells #[.int .u8 (y)] 5))).apd (m := [low c]) rfl rfl rfl rfl hapd3)
              clear hapd3 hsrc2 hbz2 HOWN2
              go_wp2
              go_roundw
              case rel => exact ⟨k + 1, l ++ [low c], false, by omega, by go_num, rfl, by have := HLEN.out; simp; omega, HG3.out, hF⟩
              case measure => simp [intOf]; omega
          · have e : y = z := T2.out (by omega)
            subst e
            have u1 : decide (65 ≤ y) = false := by simpa using hu1
            have hbz2 : p + 1 ≤ (HGW.alloc (.cells #[.int .u8 (y)] 5)).heap.size := by have := HG.out.sz; simp; omega
            have hown2 := (HG.out.below ((Below.refl _ _).alloc (Nat.le_refl _) (.cells #[.int .u8 (y)] 5))).own
            have hsrc2 : SrcV (HGW.alloc (.cells #[.int .u8 (y)] 5)) 1 (.slice (some ⟨HGW.heap.size, 0, none⟩) 1 1) 1 ([low c].flatMap encU) := src_new encU_ok (by rw [heap_alloc_new, HYB.out])
            have HOWN2 := Bx.mk hown2
            clear hown2
            go_wp2_with (refine wpList_append_any rfl _ _ _ rfl (p + 1) 5 i0 _ 1 1 und_bytes hi0 hz0 hz1 hz2 rfl (by decide) _ (l).length ((l).flatMap encU) rfl HOWN2.out _ 1 ([low c].flatMap encU) rfl hsrc2 (by have := HLEN.out; unfold maxLen; simp; omega) (by have := HLEN.out; simp; omega) hbz2 ?_)
            intro v3 w4 hapd3
            have HG3 := Bx.mk ((HG.out.below ((Below.refl _ _).alloc (Nat.le_refl _) (.cells #[.int .u8 (y)] 5))).apd (m := [low c]) rfl rfl rfl rfl hapd3)
            clear hapd3 hsrc2 hbz2 HOWN2
            go_wp2
            go_roundw
            case rel => exact ⟨k + 1, l ++ [low c], false, by omega, by go_num, rfl, by have := HLEN.out; simp; omega, HG3.out, hF⟩
            case measure => simp [intOf]; omega

    · obtain rfl : k = x.length := by omega
      have hb := back_u HG.out.own.rd
      have hres : l = R := by have := hF.out; rw [List.drop_length] at this; simpa [foldP] using this
      subst hres
      have HFIN := Bx.mk (HBEL.out.trans (HG.out.bel.mono (Nat.le_succ _)))
      clear hF hlen HR
      go_wp2
      go_ret
      exact ⟨rfl, HFIN.out⟩

end Go.Proofs.Ytpagoinnkknkfaa.Pb
