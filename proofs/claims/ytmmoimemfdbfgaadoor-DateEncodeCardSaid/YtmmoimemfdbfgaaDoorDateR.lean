/-
  The contract of EncodeTime.
-/
import Derived.Test.YtmmoimemfdbfgaaDoorDateQ
import Derived.Test.YtmmoimemfdbfgaaDoorTlvRWrap
namespace Go.Proofs.YtmmoimemfdbfgaaDoor
open Go.RowKit
set_option linter.unusedSimpArgs false

/-- the contents of the element for a date -/
def encR (m d h n s : Int) : List UInt8 := Dig.low 2 m ++ (Dig.low 2 d ++ (Dig.low 2 h ++ (Dig.low 2 n ++ (Dig.low 2 s ++ [90]))))
def encC (y m d h n s : Int) : List UInt8 := (if y < 2050 then Dig.low 2 (y % 100) else Dig.low 4 y) ++ encR m d h n s
def encT (y : Int) : Nat := if y < 2050 then 23 else 24
theorem encR_length (m d h n s : Int) : (encR m d h n s).length = 11 := by simp [encR, Dig.low_length]
def encE (y m d h n s : Int) : ByteArray := ⟨(Tl.elem (encT y) (encC y m d h n s)).toArray⟩
theorem enc_wrap (y m d h n s : Int) : wrapR (encT y) (encC y m d h n s) = .tuple #[.string (encE y m d h n s), .int .i64 0] := by
  have h1 : (encC y m d h n s).length ≤ 15 := by unfold encC; rw [List.length_append, encR_length]; split <;> rw [Dig.low_length] <;> omega
  have h2 : (encT y : Int) = 23 ∨ (encT y : Int) = 24 := by unfold encT; split <;> omega
  rw [wrapR, if_neg (by omega), wrapV, if_neg (by omega)]
  rfl
theorem enc_cat (m d h n s : Int) : ((((((⟨(Dig.low 2 m).toArray⟩ : ByteArray) ++ ⟨(Dig.low 2 d).toArray⟩) ++ ⟨(Dig.low 2 h).toArray⟩) ++ ⟨(Dig.low 2 n).toArray⟩) ++ ⟨(Dig.low 2 s).toArray⟩) ++ ⟨#[90]⟩) = ⟨(encR m d h n s).toArray⟩ := by
  apply ByteArray.ext
  simp [encR]
def EncPost (t : Int) (w : World) (e : Ending) (w' : World) : Prop :=
  ∃ y m d h n s, Cal.Vld y m d h n s ∧ Cal.sec y m d h n s = t ∧ e = .returned (.tuple #[.string (encE y m d h n s), .int .i64 0]) ∧ Below w.heap.size w w'

theorem one_strs (w : World) (x : ByteArray) : Strs (w.alloc (.cells #[.string x] 9)) (.slice (some ⟨w.heap.size, 0, none⟩) 1 1) [x] := by
  refine Strs.some w.heap.size 0 1 x [] (by simp) (by simp) (by unfold maxLen; simp) ?_
  intro j u hj
  rw [World.cell?_alloc_at _ _ _ _ rfl, Nat.zero_add]
  match j, hj with
  | 0, hj => simp at hj; subst hj; rfl
theorem rwrap_one (tag : Int) (l : List UInt8) (h : l.length ≤ 1000000) (w : World) (g : Nat) (hg : w.heap.size = g) :
    Calls Tryd.prog 35 #[.int .i64 tag, .slice (some ⟨g, 0, none⟩) 1 1] (w.alloc (.cells #[.string ⟨l.toArray⟩] 9)) fun e w' => e = .returned (wrapR tag l) ∧ Below (w.alloc (.cells #[.string ⟨l.toArray⟩] 9)).heap.size (w.alloc (.cells #[.string ⟨l.toArray⟩] 9)) w' := by
  subst hg
  have hf : Tl.flat [⟨l.toArray⟩] = l := by simp [Tl.flat]
  have := rwrap_any tag _ _ _ (one_strs w ⟨l.toArray⟩) (by simp) (by rw [hf]; exact h)
  rw [hf] at this
  exact this

theorem rencode_bad (t : Int) (w : World) (h : t < 0 ∨ 254033452799 < t) :
    Calls Tryd.prog 23 #[.int .i64 t] w fun e w' => e = .returned (.tuple #[.string ⟨#[]⟩, .int .i64 1]) ∧ Below w.heap.size w w' := by
  go_enter Tryd.func23, Tryd.ntmps23
  go_wp2_with fail
  go_at_call 11
  refine (rcivil_bad t _ h).mono ?_
  rintro e w1 ⟨rfl, hb⟩
  go_wp2
  go_ret2
  exact ⟨rfl, hb.alloc hb.size _⟩

set_option maxHeartbeats 1000000 in
theorem rencode_good (t : Int) (w : World) (t0 : 0 ≤ t) (t1 : t ≤ 254033452799) :
    Calls Tryd.prog 23 #[.int .i64 t] w (EncPost t w) := by
  go_enter Tryd.func23, Tryd.ntmps23
  go_wp2_with fail
  go_at_call 11
  refine (rcivil_good t _ t0 t1).mono ?_
  rintro e w1 ⟨y, m, d, h, n, s, rfl, v, hsec, hb⟩
  have hcs := date_cells y m d h n s w1
  have c0 := fun e => (hcs e).1
  have c1 := fun e => (hcs e).2.1
  have c2 := fun e => (hcs e).2.2.1
  have c3 := fun e => (hcs e).2.2.2.1
  have c4 := fun e => (hcs e).2.2.2.2.1
  have c5 := fun e => (hcs e).2.2.2.2.2
  have hB : ∀ e : Ext (w1.alloc (dateBlock y m d h n s)), Below w.heap.size w e.out := fun e => hb.trans ((box_below w1 _ e).mono hb.size)
  have hfin : ∀ w', Below w.heap.size w w' → EncPost t w (.returned (.tuple #[.string (encE y m d h n s), .int .i64 0])) w' := fun w' hb => ⟨y, m, d, h, n, s, v, hsec, rfl, hb⟩
  obtain ⟨y1, y2, m1, m2, d1, d2, h1, h2, n1, n2, s1, s2⟩ := v
  have md := Cal.mlen_bd y m
  have lm : (Dig.low 2 m).length ≤ 2 := by rw [Dig.low_length]; omega
  have ld : (Dig.low 2 d).length ≤ 2 := by rw [Dig.low_length]; omega
  have lh : (Dig.low 2 h).length ≤ 2 := by rw [Dig.low_length]; omega
  have ln : (Dig.low 2 n).length ≤ 2 := by rw [Dig.low_length]; omega
  have ls : (Dig.low 2 s).length ≤ 2 := by rw [Dig.low_length]; omega
  have HF := Lib.hid hfin
  have HC := Lib.hid (enc_cat m d h n s)
  have HL := encR_length m d h n s
  have HW := enc_wrap y m d h n s
  clear hcs hfin hsec hb
  go_wp2_with fail
  change Code.wp _ _ _ _ (w1.alloc (dateBlock y m d h n s))
  generalize w1.alloc (dateBlock y m d h n s) = W at *
  refine wp_region_self (by kernel_rfl) (by kernel_rfl) ?_
  repeat (go_big_quiet_step (fail))
  go_big_quiet_step ((go_at_call 33; exact ext_of (pad2 m _ (by omega) (by omega))))
  repeat (go_big_quiet_step (fail))
  go_big_quiet_step ((go_at_call 33; exact ext_of (pad2 d _ (by omega) (by omega))))
  repeat (go_big_quiet_step (fail))
  go_big_quiet_step ((go_at_call 33; exact ext_of (pad2 h _ (by omega) (by omega))))
  repeat (go_big_quiet_step (fail))
  go_big_quiet_step ((go_at_call 33; exact ext_of (pad2 n _ (by omega) (by omega))))
  repeat (go_big_quiet_step (fail))
  go_big_quiet_step ((go_at_call 33; exact ext_of (pad2 s _ (by omega) (by omega))))
  repeat (go_big_quiet_step (fail))
  refine wpQuiet_nil ?_
  rintro _ ⟨e1, rfl⟩
  rw [HC.out]
  clear HC lm ld lh ln ls
  by_cases q : y < 2050
  · have u1 : decide (y < 2050) = true := by simp; omega
    have hT : encT y = 23 := by unfold encT; exact if_pos q
    have HW' : wrapR 23 (encC y m d h n s) = .tuple #[.string (encE y m d h n s), .int .i64 0] := by have := HW; rw [hT] at this; exact this
    have hlen : (encC y m d h n s).length ≤ 1000000 := by unfold encC; rw [List.length_append, HL]; split <;> rw [Dig.low_length] <;> omega
    have hcat : (⟨(Dig.low 2 (y % 100)).toArray⟩ : ByteArray) ++ ⟨(encR m d h n s).toArray⟩ = ⟨(encC y m d h n s).toArray⟩ := by
      unfold encC; rw [if_pos q]; apply ByteArray.ext; simp
    have hWr := fun W => rwrap_one 23 (encC y m d h n s) hlen W W.heap.size rfl
    rw [HW', ← hcat] at hWr
    have hP := fun W => pad2 ((y % 100)) W (by omega) (by omega)
    have z1 : (⟨(Dig.low 2 (y % 100)).toArray⟩ : ByteArray).size = 2 := by show (Dig.low 2 (y % 100)).toArray.size = 2; rw [List.size_toArray, Dig.low_length]
    have z2 : (⟨(encR m d h n s).toArray⟩ : ByteArray).size = 11 := by show (encR m d h n s).toArray.size = 11; rw [List.size_toArray, HL]
    have a1 := fun W : World => run_string_add_sum (P := Tryd.prog) W ⟨(Dig.low 2 (y % 100)).toArray⟩ ⟨(encR m d h n s).toArray⟩ (by omega)
    have g1 : ¬ 9223372036854775807 < (⟨(Dig.low 2 (y % 100)).toArray⟩ : ByteArray).size + (⟨(encR m d h n s).toArray⟩ : ByteArray).size := by omega
    have HZ := Lib.hid (And.intro z1 z2)
    clear HW HW' hT hlen hcat z1 z2 q HL
    generalize encE y m d h n s = E at *
    generalize (⟨(Dig.low 2 (y % 100)).toArray⟩ : ByteArray) = A1 at *
    generalize (⟨(encR m d h n s).toArray⟩ : ByteArray) = R1 at *
    go_wp2_with fail
    go_at_call 33
    refine (hP _).mono ?_
    rintro _ w2 ⟨rfl, hb2⟩
    obtain ⟨e2, rfl⟩ := e1.next hb2
    clear hb2 hP
    go_wp2_with fail
    go_at_call 35
    refine (hWr _).mono ?_
    rintro _ w3 ⟨rfl, hb3⟩
    have hb4 := (hB e2).trans (hb3.mono (by have := (hB e2).size; simp; omega) |> fun q => ((Below.refl _ _).alloc (Nat.le_refl _) _).mono (by have := (hB e2).size; omega) |>.trans q)
    clear hb3 hWr
    go_wp2
    go_ret2
    exact HF.out _ hb4
  · have u1 : decide (y < 2050) = false := by simp; omega
    have hT : encT y = 24 := by unfold encT; exact if_neg q
    have HW' : wrapR 24 (encC y m d h n s) = .tuple #[.string (encE y m d h n s), .int .i64 0] := by have := HW; rw [hT] at this; exact this
    have hlen : (encC y m d h n s).length ≤ 1000000 := by unfold encC; rw [List.length_append, HL]; split <;> rw [Dig.low_length] <;> omega
    have hcat : (⟨(Dig.low 4 y).toArray⟩ : ByteArray) ++ ⟨(encR m d h n s).toArray⟩ = ⟨(encC y m d h n s).toArray⟩ := by
      unfold encC; rw [if_neg q]; apply ByteArray.ext; simp
    have hWr := fun W => rwrap_one 24 (encC y m d h n s) hlen W W.heap.size rfl
    rw [HW', ← hcat] at hWr
    have hP := fun W => pad4 (y) W (by omega) (by omega)
    have z1 : (⟨(Dig.low 4 y).toArray⟩ : ByteArray).size = 4 := by show (Dig.low 4 y).toArray.size = 4; rw [List.size_toArray, Dig.low_length]
    have z2 : (⟨(encR m d h n s).toArray⟩ : ByteArray).size = 11 := by show (encR m d h n s).toArray.size = 11; rw [List.size_toArray, HL]
    have a1 := fun W : World => run_string_add_sum (P := Tryd.prog) W ⟨(Dig.low 4 y).toArray⟩ ⟨(encR m d h n s).toArray⟩ (by omega)
    have g1 : ¬ 9223372036854775807 < (⟨(Dig.low 4 y).toArray⟩ : ByteArray).size + (⟨(encR m d h n s).toArray⟩ : ByteArray).size := by omega
    have HZ := Lib.hid (And.intro z1 z2)
    clear HW HW' hT hlen hcat z1 z2 q HL
    generalize encE y m d h n s = E at *
    generalize (⟨(Dig.low 4 y).toArray⟩ : ByteArray) = A1 at *
    generalize (⟨(encR m d h n s).toArray⟩ : ByteArray) = R1 at *
    go_wp2_with fail
    go_at_call 33
    refine (hP _).mono ?_
    rintro _ w2 ⟨rfl, hb2⟩
    obtain ⟨e2, rfl⟩ := e1.next hb2
    clear hb2 hP
    go_wp2_with fail
    go_at_call 35
    refine (hWr _).mono ?_
    rintro _ w3 ⟨rfl, hb3⟩
    have hb4 := (hB e2).trans (hb3.mono (by have := (hB e2).size; simp; omega) |> fun q => ((Below.refl _ _).alloc (Nat.le_refl _) _).mono (by have := (hB e2).size; omega) |>.trans q)
    clear hb3 hWr
    go_wp2
    go_ret2
    exact HF.out _ hb4

/-- EncodeTime returns some text, not a long one -/
def SomeStr (w : World) (e : Ending) (w' : World) : Prop := ∃ (x : ByteArray) (r : Int), e = .returned (.tuple #[.string x, .int .i64 r]) ∧ x.size ≤ 100 ∧ Below w.heap.size w w'
theorem encE_size (y m d h n s : Int) : (encE y m d h n s).size ≤ 100 := by
  show (Tl.elem (encT y) (encC y m d h n s)).toArray.size ≤ 100
  have h1 : (encC y m d h n s).length ≤ 15 := by unfold encC; rw [List.length_append, encR_length]; split <;> rw [Dig.low_length] <;> omega
  rw [List.size_toArray, Tl.elem, List.length_cons, List.length_append, Tl.lenB_1 _ (by omega)]
  simp; omega
theorem rencode_some (t : Int) (w : World) : Calls Tryd.prog 23 #[.int .i64 t] w (SomeStr w) := by
  by_cases h : 0 ≤ t ∧ t ≤ 254033452799
  · exact (rencode_good t w h.1 h.2).mono fun _ _ ⟨y, m, d, hh, n, s, _, _, he, hb⟩ => ⟨_, _, he, encE_size y m d hh n s, hb⟩
  · exact (rencode_bad t w (by omega)).mono fun _ _ ⟨he, hb⟩ => ⟨_, _, he, by decide, hb⟩

end Go.Proofs.YtmmoimemfdbfgaaDoor
