/-
  Decode inverts Encode.
-/
import Derived.Test.YtmmoimemfdbfgaaDoorDateS
import Derived.Test.YtmmoimemfdbfgaaDoorLawTextWalk
namespace Go.Proofs.YtmmoimemfdbfgaaDoor
open Go.RowKit
set_option linter.unusedSimpArgs false

theorem encC_lo {y m d h n s : Int} (q : y < 2050) : encC y m d h n s = Dig.low 2 (y % 100) ++ encR m d h n s := by unfold encC; rw [if_pos q]
theorem encC_hi {y m d h n s : Int} (q : ¬ y < 2050) : encC y m d h n s = Dig.low 4 y ++ encR m d h n s := by unfold encC; rw [if_neg q]
theorem decode_enc {x y m d h n s : Int} (v : Cal.Vld y m d h n s) (hs : Cal.sec y m d h n s = x) (w : World) (ht : Tab w) :
    Calls Tryd.prog 16 #[.int .i64 (encT y), .string ⟨(encC y m d h n s).toArray⟩] w fun e w' => e = .returned (.tuple #[.int .i64 x, .int .i64 0]) ∧ Below w.heap.size w w' := by
  have md := Cal.mlen_bd y m
  have nm := Dig.num_low2 m (by have := v.m1; omega) (by have := v.m2; omega)
  have nd := Dig.num_low2 d (by have := v.d1; omega) (by have := v.d2; omega)
  have nh := Dig.num_low2 h v.h1 (by have := v.h2; omega)
  have nn := Dig.num_low2 n v.n1 (by have := v.n2; omega)
  have ns := Dig.num_low2 s v.s1 (by have := v.s2; omega)
  have hx : secV y m d h n s = x ∧ secE y m d h n s = 0 := ⟨by unfold secV; rw [if_pos v]; exact hs, by unfold secE; exact if_pos v⟩
  by_cases q : y < 2050
  · rw [encC_lo q, show encT y = 23 from if_pos q]
    have ny := Dig.num_low2 (y % 100) (by omega) (by omega)
    have ey : yr ⟨(Dig.low 2 (y % 100) ++ encR m d h n s).toArray⟩ 2 = y % 100 := by unfold yr; rw [ext_list]; exact ny
    have em : prs ⟨(Dig.low 2 (y % 100) ++ encR m d h n s).toArray⟩ 2 0 = m := by unfold prs; rw [ext_list]; exact nm
    have ed : prs ⟨(Dig.low 2 (y % 100) ++ encR m d h n s).toArray⟩ 2 2 = d := by unfold prs; rw [ext_list]; exact nd
    have eh : prs ⟨(Dig.low 2 (y % 100) ++ encR m d h n s).toArray⟩ 2 4 = h := by unfold prs; rw [ext_list]; exact nh
    have en : prs ⟨(Dig.low 2 (y % 100) ++ encR m d h n s).toArray⟩ 2 6 = n := by unfold prs; rw [ext_list]; exact nn
    have es : prs ⟨(Dig.low 2 (y % 100) ++ encR m d h n s).toArray⟩ 2 8 = s := by unfold prs; rw [ext_list]; exact ns
    have hz : (⟨(Dig.low 2 (y % 100) ++ encR m d h n s).toArray⟩ : ByteArray).size = 13 := rfl
    by_cases q5 : 50 ≤ y % 100
    · have := decode23_hi ⟨(Dig.low 2 (y % 100) ++ encR m d h n s).toArray⟩ w ht hz.symm rfl (by rw [ey]; exact q5)
      unfold dresV dresE at this
      rw [ey, em, ed, eh, en, es, show y % 100 + 1900 = y by have := v.y1; omega, hx.1, hx.2] at this
      exact this
    · have := decode23_lo ⟨(Dig.low 2 (y % 100) ++ encR m d h n s).toArray⟩ w ht hz.symm rfl (by rw [ey]; omega) (by rw [ey]; omega)
      unfold dresV dresE at this
      rw [ey, em, ed, eh, en, es, show y % 100 + 2000 = y by have := v.y1; omega, hx.1, hx.2] at this
      exact this
  · rw [encC_hi q, show encT y = 24 from if_neg q]
    have ny := Dig.num_low4 y (by omega) v.y2
    have ey : yr ⟨(Dig.low 4 y ++ encR m d h n s).toArray⟩ 4 = y := by unfold yr; rw [ext_list]; exact ny
    have em : prs ⟨(Dig.low 4 y ++ encR m d h n s).toArray⟩ 4 0 = m := by unfold prs; rw [ext_list]; exact nm
    have ed : prs ⟨(Dig.low 4 y ++ encR m d h n s).toArray⟩ 4 2 = d := by unfold prs; rw [ext_list]; exact nd
    have eh : prs ⟨(Dig.low 4 y ++ encR m d h n s).toArray⟩ 4 4 = h := by unfold prs; rw [ext_list]; exact nh
    have en : prs ⟨(Dig.low 4 y ++ encR m d h n s).toArray⟩ 4 6 = n := by unfold prs; rw [ext_list]; exact nn
    have es : prs ⟨(Dig.low 4 y ++ encR m d h n s).toArray⟩ 4 8 = s := by unfold prs; rw [ext_list]; exact ns
    have hz : (⟨(Dig.low 4 y ++ encR m d h n s).toArray⟩ : ByteArray).size = 15 := rfl
    have := decode24_hi ⟨(Dig.low 4 y ++ encR m d h n s).toArray⟩ w ht hz.symm rfl (by rw [ey]; omega)
    unfold dresV dresE at this
    rw [ey, em, ed, eh, en, es, hx.1, hx.2] at this
    exact this

/-- both texts of Encode at one time; and Decode -/
structure EncBoth (x : Int) (T : ByteArray) (r : Int) : Prop where
  left : ∀ w, Tab w → Calls Tryd.prog 22 #[.int .i64 x] w fun e w' => e = .returned (.tuple #[.string T, .int .i64 r]) ∧ Below w.heap.size w w'
  right : ∀ w, Calls Tryd.prog 23 #[.int .i64 x] w fun e w' => e = .returned (.tuple #[.string T, .int .i64 r]) ∧ Below w.heap.size w w'
theorem enc_both_bad (x : Int) (h : ¬ (0 ≤ x ∧ x ≤ 254033452799)) : EncBoth x ⟨#[]⟩ 1 :=
  ⟨fun w _ => encode_bad x w (by omega), fun w => rencode_bad x w (by omega)⟩
structure EncGood (x : Int) (T C : ByteArray) (g : Int) : Prop where
  both : EncBoth x T 0
  size : 2 ≤ T.size
  small : T.size ≤ 100
  tag : ∀ w, (Instr.index 9 (.string T) (.int .i64 0)).run Tryd.prog w = .ok (.int .u8 g) w
  rest : ∀ w, (Instr.slice 9 (.string T) (some (.int .i64 2)) none none).run Tryd.prog w = .ok (.string C) w
  g0 : 0 ≤ g
  g1 : g ≤ 255
  dec : ∀ w, Tab w → Calls Tryd.prog 16 #[.int .i64 g, .string C] w fun e w' => e = .returned (.tuple #[.int .i64 x, .int .i64 0]) ∧ Below w.heap.size w w'
theorem enc_both_good (x : Int) (h0 : 0 ≤ x) (h1 : x ≤ 254033452799) : ∃ T C g, EncGood x T C g := by
  obtain ⟨y, m, d, h, n, s, v, hs, _⟩ := civil_both_good x h0 h1
  have hC : (encC y m d h n s).length ≤ 15 := by unfold encC; rw [List.length_append, encR_length]; split <;> rw [Dig.low_length] <;> omega
  have hE : Tl.elem (encT y) (encC y m d h n s) = Tl.b8 (encT y) :: Tl.b8 (encC y m d h n s).length :: encC y m d h n s := by rw [Tl.elem, Tl.lenB_1 _ (by omega)]; rfl
  have hsz : (encE y m d h n s).size = 2 + (encC y m d h n s).length := by
    show (Tl.elem (encT y) (encC y m d h n s)).toArray.size = _
    rw [List.size_toArray, hE]; simp; omega
  have ht : encT y = 23 ∨ encT y = 24 := by unfold encT; split <;> omega
  refine ⟨encE y m d h n s, ⟨(encC y m d h n s).toArray⟩, encT y, ⟨⟨fun w ht => ?_, fun w => ?_⟩, by omega, by omega, fun w => ?_, fun w => ?_, by omega, by omega, fun w ht => decode_enc v hs w ht⟩⟩
  · refine (encode_good x w ht h0 h1).mono ?_
    rintro e w' ⟨y', m', d', h', n', s', v', hs', rfl, hb⟩
    obtain ⟨rfl, rfl, rfl, rfl, rfl, rfl⟩ := Cal.sec_inj v' v (hs'.trans hs.symm)
    exact ⟨rfl, hb⟩
  · refine (rencode_good x w h0 h1).mono ?_
    rintro e w' ⟨y', m', d', h', n', s', v', hs', rfl, hb⟩
    obtain ⟨rfl, rfl, rfl, rfl, rfl, rfl⟩ := Cal.sec_inj v' v (hs'.trans hs.symm)
    exact ⟨rfl, hb⟩
  · have := byte_ix (encE y m d h n s) 0 0 rfl (by omega) w
    have e : (encE y m d h n s).data.toList.getD 0 0 = Tl.b8 (encT y) := by
      show (Tl.elem (encT y) (encC y m d h n s)).getD 0 0 = _
      rw [hE]; rfl
    rw [e] at this
    have e2 : (((Tl.b8 (encT y)).toNat : Nat) : Int) = encT y := by rw [Tl.b8_toNat]; omega
    rw [e2] at this
    exact this
  · have := cut_l (encE y m d h n s) 2 2 rfl (by omega) w
    have e : (encE y m d h n s).extract 2 (encE y m d h n s).size = ⟨(encC y m d h n s).toArray⟩ := by
      apply ByteArray.ext
      apply Array.toList_inj.1
      rw [ext_list]
      show ((Tl.elem (encT y) (encC y m d h n s)).drop 2).take _ = encC y m d h n s
      rw [hE, hsz]
      simp
    rw [e] at this
    exact this

end Go.Proofs.YtmmoimemfdbfgaaDoor
