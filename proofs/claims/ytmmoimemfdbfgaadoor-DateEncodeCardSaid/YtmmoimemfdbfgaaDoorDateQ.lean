/-
  Parse inverts Format: in plain Lean. Both texts of Format at every time.
-/
import Derived.Test.YtmmoimemfdbfgaaDoorDateP
import Derived.Test.YtmmoimemfdbfgaaDoorLawCivilWalk
namespace Go.Proofs.YtmmoimemfdbfgaaDoor
open Go.RowKit

theorem Dig.isd_dg (a : Int) (h0 : 0 ≤ a) (h1 : a ≤ 9) : Dig.isd (Dig.dg a) = true := by
  rw [Dig.isd_iff]; have := Dig.dg_toNat a h0 h1; omega
theorem Dig.num_two (a b : Int) (a0 : 0 ≤ a) (a1 : a ≤ 9) (b0 : 0 ≤ b) (b1 : b ≤ 9) : Dig.num [Dig.dg a, Dig.dg b] = 10 * a + b := by
  have h1 := Dig.dg_toNat a a0 a1
  have h2 := Dig.dg_toNat b b0 b1
  simp [Dig.num, Dig.isd_dg a a0 a1, Dig.isd_dg b b0 b1, Dig.val]
  omega
theorem Dig.num_four (a b c d : Int) (a0 : 0 ≤ a) (a1 : a ≤ 9) (b0 : 0 ≤ b) (b1 : b ≤ 9) (c0 : 0 ≤ c) (c1 : c ≤ 9) (d0 : 0 ≤ d) (d1 : d ≤ 9) : Dig.num [Dig.dg a, Dig.dg b, Dig.dg c, Dig.dg d] = 1000 * a + 100 * b + 10 * c + d := by
  have h1 := Dig.dg_toNat a a0 a1
  have h2 := Dig.dg_toNat b b0 b1
  have h3 := Dig.dg_toNat c c0 c1
  have h4 := Dig.dg_toNat d d0 d1
  simp [Dig.num, Dig.isd_dg a a0 a1, Dig.isd_dg b b0 b1, Dig.isd_dg c c0 c1, Dig.isd_dg d d0 d1, Dig.val]
  omega
theorem Dig.num_low2 (v : Int) (h0 : 0 ≤ v) (h1 : v ≤ 99) : Dig.num (Dig.low 2 v) = v := by
  simp only [Dig.low]
  rw [Dig.num_two _ _ (by omega) (by omega) (by omega) (by omega)]
  omega
theorem Dig.num_low4 (v : Int) (h0 : 0 ≤ v) (h1 : v ≤ 9999) : Dig.num (Dig.low 4 v) = v := by
  simp only [Dig.low]
  rw [Dig.num_four _ _ _ _ (by omega) (by omega) (by omega) (by omega) (by omega) (by omega) (by omega) (by omega)]
  omega

theorem parse_txt {x y m d h n s : Int} (v : Cal.Vld y m d h n s) (hs : Cal.sec y m d h n s = x) :
    parV ⟨(Dig.txt y m d h n s 5).toArray⟩ = x ∧ parE ⟨(Dig.txt y m d h n s 5).toArray⟩ = 0 := by
  have hsz : (⟨(Dig.txt y m d h n s 5).toArray⟩ : ByteArray).size = 19 := by
    show (Dig.txt y m d h n s 5).toArray.size = 19
    rw [List.size_toArray, Dig.txt_length]
  have md := Cal.mlen_bd y m
  have ey : yr ⟨(Dig.txt y m d h n s 5).toArray⟩ 4 = y := by
    unfold yr; rw [ext_list]; show Dig.num (Dig.low 4 y) = y
    exact Dig.num_low4 y (by have := v.y1; omega) v.y2
  have em : pr ⟨(Dig.txt y m d h n s 5).toArray⟩ 5 = m := by
    unfold pr; rw [ext_list]; show Dig.num (Dig.low 2 m) = m
    exact Dig.num_low2 m (by have := v.m1; omega) (by have := v.m2; omega)
  have ed : pr ⟨(Dig.txt y m d h n s 5).toArray⟩ 8 = d := by
    unfold pr; rw [ext_list]; show Dig.num (Dig.low 2 d) = d
    exact Dig.num_low2 d (by have := v.d1; omega) (by have := v.d2; omega)
  have eh : pr ⟨(Dig.txt y m d h n s 5).toArray⟩ 11 = h := by
    unfold pr; rw [ext_list]; show Dig.num (Dig.low 2 h) = h
    exact Dig.num_low2 h v.h1 (by have := v.h2; omega)
  have en : pr ⟨(Dig.txt y m d h n s 5).toArray⟩ 14 = n := by
    unfold pr; rw [ext_list]; show Dig.num (Dig.low 2 n) = n
    exact Dig.num_low2 n v.n1 (by have := v.n2; omega)
  have es : pr ⟨(Dig.txt y m d h n s 5).toArray⟩ 17 = s := by
    unfold pr; rw [ext_list]; show Dig.num (Dig.low 2 s) = s
    exact Dig.num_low2 s v.s1 (by have := v.s2; omega)
  have hpv : PV ⟨(Dig.txt y m d h n s 5).toArray⟩ := by unfold PV; rw [ey, em, ed, eh, en, es]; exact v
  have hpt : pTxt ⟨(Dig.txt y m d h n s 5).toArray⟩ = Dig.txt y m d h n s 5 := by unfold pTxt; rw [ey, em, ed, eh, en, es]
  have hps : pSec ⟨(Dig.txt y m d h n s 5).toArray⟩ = x := by unfold pSec secV; rw [ey, em, ed, eh, en, es, if_pos v]; exact hs
  unfold parV parE pV pE
  rw [if_pos hsz, if_pos hsz, if_pos ⟨hpv, by rw [hpt]⟩, if_pos ⟨hpv, by rw [hpt]⟩]
  exact ⟨hps, rfl⟩

/-- both texts of Format at one time -/
structure FormatBoth (x : Int) (T : ByteArray) (r : Int) : Prop where
  left : ∀ w, Tab w → Calls Tryd.prog 18 #[.int .i64 x] w fun e w' => e = .returned (.tuple #[.string T, .int .i64 r]) ∧ Below w.heap.size w w'
  right : ∀ w, Calls Tryd.prog 19 #[.int .i64 x] w fun e w' => e = .returned (.tuple #[.string T, .int .i64 r]) ∧ Below w.heap.size w w'
theorem format_both_bad (x : Int) (h : ¬ (0 ≤ x ∧ x ≤ 254033452799)) : FormatBoth x ⟨#[]⟩ 1 :=
  ⟨fun w _ => format_bad x w (by omega), fun w => rformat_bad x w (by omega)⟩
theorem format_both_good (x : Int) (h0 : 0 ≤ x) (h1 : x ≤ 254033452799) : ∃ T : ByteArray, T.size = 19 ∧ parV T = x ∧ parE T = 0 ∧ FormatBoth x T 0 := by
  obtain ⟨y, m, d, h, n, s, v, hs, _⟩ := civil_both_good x h0 h1
  obtain ⟨p1, p2⟩ := parse_txt v hs
  refine ⟨⟨(Dig.txt y m d h n s 5).toArray⟩, ?_, p1, p2, ⟨fun w ht => ?_, fun w => rformat_at w v hs⟩⟩
  · show (Dig.txt y m d h n s 5).toArray.size = 19
    rw [List.size_toArray, Dig.txt_length]
  · refine (format_good x w ht h0 h1).mono ?_
    rintro e w' ⟨y', m', d', h', n', s', v', hs', rfl, hb⟩
    obtain ⟨rfl, rfl, rfl, rfl, rfl, rfl⟩ := Cal.sec_inj v' v (hs'.trans hs.symm)
    exact ⟨rfl, hb⟩

end Go.Proofs.YtmmoimemfdbfgaaDoor
