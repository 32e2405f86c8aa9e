/-
  The contracts of Decode and DecodeTime: both return the same.
-/
import Derived.Test.YtmmoimemfdbfgaaDoorDateJ
namespace Go.Proofs.YtmmoimemfdbfgaaDoor
open Go.RowKit

open Classical in
noncomputable def secV (y m d h n s : Int) : Int := if Cal.Vld y m d h n s then Cal.sec y m d h n s else 0
open Classical in
noncomputable def secE (y m d h n s : Int) : Int := if Cal.Vld y m d h n s then 0 else 12

theorem secs_any (y m d h n s : Int) (w : World) (ht : Tab w) :
    Calls Tryd.prog 12 #[.agg #[.int .i64 y, .int .i64 m, .int .i64 d, .int .i64 h, .int .i64 n, .int .i64 s]] w fun e w' => e = .returned (.tuple #[.int .i64 (secV y m d h n s), .int .i64 (secE y m d h n s)]) ∧ Below w.heap.size w w' := by
  by_cases v : Cal.Vld y m d h n s
  · rw [secV, secE, if_pos v, if_pos v]; exact secs_good y m d h n s w ht v
  · rw [secV, secE, if_neg v, if_neg v]; exact secs_bad y m d h n s w ht v
theorem rsecs_any (y m d h n s : Int) (w : World) :
    Calls Tryd.prog 14 #[.agg #[.int .i64 y, .int .i64 m, .int .i64 d, .int .i64 h, .int .i64 n, .int .i64 s]] w fun e w' => e = .returned (.tuple #[.int .i64 (secV y m d h n s), .int .i64 (secE y m d h n s)]) ∧ Below w.heap.size w w' := by
  by_cases v : Cal.Vld y m d h n s
  · rw [secV, secE, if_pos v, if_pos v]; exact rsecs_good y m d h n s w v
  · rw [secV, secE, if_neg v, if_neg v]; exact rsecs_bad y m d h n s w v

/-- the five pairs of digits from a place on -/
def prs (c : ByteArray) (n k : Nat) : Int := Dig.num (c.extract (n + k) (n + k + 2)).data.toList
theorem pr_prs (c : ByteArray) (n k : Nat) (h : n + k + 2 ≤ c.size) : pr (c.extract n c.size) k = prs c n k := by
  unfold pr prs
  have : (c.extract n c.size).extract k (k + 2) = c.extract (n + k) (n + k + 2) := by
    apply ByteArray.ext
    simp [ByteArray.data_extract, Array.extract_extract]
    congr 1
    have : c.data.size = c.size := rfl
    omega
  rw [this]
/-- what both return where the form is right and the year has been read -/
noncomputable def dresV (c : ByteArray) (n : Nat) (y : Int) : Int := secV y (prs c n 0) (prs c n 2) (prs c n 4) (prs c n 6) (prs c n 8)
noncomputable def dresE (c : ByteArray) (n : Nat) (y : Int) : Int := secE y (prs c n 0) (prs c n 2) (prs c n 4) (prs c n 6) (prs c n 8)
def yr (c : ByteArray) (n : Nat) : Int := Dig.num (c.extract 0 n).data.toList

theorem num_ge (l : List UInt8) : -1 ≤ Dig.num l := by
  unfold Dig.num
  split
  · rename_i h; have := Dig.fold_bd l 0 (by omega) h; unfold Dig.val; omega
  · omega
theorem num_lt (l : List UInt8) (h : l.length ≤ 4) : Dig.num l ≤ 9999 := by
  unfold Dig.num
  split
  · rename_i ha
    have h1 := Dig.val_bd l ha
    have : l.length = 0 ∨ l.length = 1 ∨ l.length = 2 ∨ l.length = 3 ∨ l.length = 4 := by omega
    rcases this with q | q | q | q | q <;> rw [q] at h1 <;> simp at h1 <;> omega
  · omega
theorem yr_bd (c : ByteArray) (n : Nat) (h : n ≤ 4) : -1 ≤ yr c n ∧ yr c n ≤ 9999 := ⟨num_ge _, num_lt _ (by simp; omega)⟩

theorem decode_tag (tag : Int) (c : ByteArray) (w : World) (h1 : tag ≠ 23) (h2 : tag ≠ 24) :
    Calls Tryd.prog 16 #[.int .i64 tag, .string c] w fun e w' => e = .returned (.tuple #[.int .i64 0, .int .i64 5]) ∧ w = w' := by
  have d1 : (tag == 23) = false := by simp [h1]
  have d2 : (tag == 24) = false := by simp [h2]
  clear h1 h2
  go_enter Tryd.func16, Tryd.ntmps16
  go_wp2
  go_ret2
  exact ⟨rfl, rfl⟩
theorem rdecode_tag (tag : Int) (c : ByteArray) (w : World) (h1 : tag ≠ 23) (h2 : tag ≠ 24) :
    Calls Tryd.prog 17 #[.int .i64 tag, .string c] w fun e w' => e = .returned (.tuple #[.int .i64 0, .int .i64 5]) ∧ w = w' := by
  have d1 : (tag != 23) = true := by simp [h1]
  have d2 : (tag != 24) = true := by simp [h2]
  clear h1 h2
  go_enter Tryd.func17, Tryd.ntmps17
  go_wp2
  go_ret2
  exact ⟨rfl, rfl⟩

theorem decode23_size (c : ByteArray) (w : World) (h : c.size ≠ 13) :
    Calls Tryd.prog 16 #[.int .i64 23, .string c] w fun e w' => e = .returned (.tuple #[.int .i64 0, .int .i64 12]) ∧ w = w' := by
  have d : ((c.size : Int) != 13) = true := by rw [bne_iff_ne]; omega
  clear h
  go_enter Tryd.func16, Tryd.ntmps16
  go_wp2
  go_ret2
  exact ⟨rfl, rfl⟩

theorem decode23_z (c : ByteArray) (w : World) (h : 13 = c.size) (hz : c[12]'(by omega) ≠ 90) :
    Calls Tryd.prog 16 #[.int .i64 23, .string c] w fun e w' => e = .returned (.tuple #[.int .i64 0, .int .i64 12]) ∧ w = w' := by
  have d : ((c.size : Int) != 13) = false := by rw [bne_eq_false_iff_eq]; omega
  have hl : 12 < c.size := by omega
  have z : (((c[12].toNat : Nat) : Int) != 90) = true := by
    rw [bne_iff_ne]; intro e; apply hz; apply UInt8.toNat_inj.1; have : (90 : UInt8).toNat = 90 := rfl; omega
  clear h hz
  go_enter Tryd.func16, Tryd.ntmps16
  go_wp2
  go_ret2
  exact ⟨rfl, rfl⟩

theorem decode23_y (c : ByteArray) (w : World) (h : 13 = c.size) (hz : c[12]'(by omega) = 90) (hy : yr c 2 < 0) :
    Calls Tryd.prog 16 #[.int .i64 23, .string c] w fun e w' => e = .returned (.tuple #[.int .i64 0, .int .i64 12]) ∧ Below w.heap.size w w' := by
  have d : ((c.size : Int) != 13) = false := by rw [bne_eq_false_iff_eq]; omega
  have hl : 12 < c.size := by omega
  have hl2 : c.size ≤ 13 := by omega
  have z : (((c[12].toNat : Nat) : Int) != 90) = false := by rw [hz]; rfl
  have hp0 := pr_prs c 2 0 (by omega)
  have hp2 := pr_prs c 2 2 (by omega)
  have hp4 := pr_prs c 2 4 (by omega)
  have hp6 := pr_prs c 2 6 (by omega)
  have hp8 := pr_prs c 2 8 (by omega)
  have hes : 10 ≤ (c.extract 2 c.size).size := by rw [ByteArray.size_extract]; omega
  have HE := Lib.hid hes
  have HP := Lib.hid (And.intro hp0 (And.intro hp2 (And.intro hp4 (And.intro hp6 hp8))))
  have hyb := yr_bd c 2 (by omega)
  clear h hz hp0 hp2 hp4 hp6 hp8 hes
  have t1 : decide (yr c 2 < 0) = true := by simp; omega
  go_enter Tryd.func16, Tryd.ntmps16
  go_wp2_with fail
  go_at_call 29
  refine (number_any (c.extract 0 2) _ (by simp; omega)).mono ?_
  rintro e w1 ⟨rfl, hb1⟩
  have hyr : Dig.num (c.extract 0 2).data.toList = yr c 2 := rfl
  rw [hyr]; clear hyr
  go_wp2
  go_ret2
  exact ⟨rfl, hb1⟩

theorem decode23_hi (c : ByteArray) (w : World) (ht : Tab w) (h : 13 = c.size) (hz : c[12]'(by omega) = 90) (hy : 50 ≤ yr c 2) :
    Calls Tryd.prog 16 #[.int .i64 23, .string c] w fun e w' => e = .returned (.tuple #[.int .i64 (dresV c 2 (yr c 2 + 1900)), .int .i64 (dresE c 2 (yr c 2 + 1900))]) ∧ Below w.heap.size w w' := by
  have d : ((c.size : Int) != 13) = false := by rw [bne_eq_false_iff_eq]; omega
  have hl : 12 < c.size := by omega
  have hl2 : c.size ≤ 13 := by omega
  have z : (((c[12].toNat : Nat) : Int) != 90) = false := by rw [hz]; rfl
  have hp0 := pr_prs c 2 0 (by omega)
  have hp2 := pr_prs c 2 2 (by omega)
  have hp4 := pr_prs c 2 4 (by omega)
  have hp6 := pr_prs c 2 6 (by omega)
  have hp8 := pr_prs c 2 8 (by omega)
  have hes : 10 ≤ (c.extract 2 c.size).size := by rw [ByteArray.size_extract]; omega
  have HE := Lib.hid hes
  have HP := Lib.hid (And.intro hp0 (And.intro hp2 (And.intro hp4 (And.intro hp6 hp8))))
  have hyb := yr_bd c 2 (by omega)
  clear h hz hp0 hp2 hp4 hp6 hp8 hes
  have t1 : decide (yr c 2 < 0) = false := by simp; omega
  have t2 : decide (50 ≤ yr c 2) = true := by simp; omega
  go_enter Tryd.func16, Tryd.ntmps16
  go_wp2_with fail
  go_at_call 29
  refine (number_any (c.extract 0 2) _ (by simp; omega)).mono ?_
  rintro e w1 ⟨rfl, hb1⟩
  have hyr : Dig.num (c.extract 0 2).data.toList = yr c 2 := rfl
  rw [hyr]; clear hyr
  go_wp2_with fail
  go_at_call 30
  refine (parts_any _ (c.extract 2 c.size) _ HE.out).mono ?_
  rintro e w2 ⟨rfl, hb2⟩
  rw [HP.out.1, HP.out.2.1, HP.out.2.2.1, HP.out.2.2.2.1, HP.out.2.2.2.2]
  go_wp2_with fail
  go_at_call 12
  have hb12 := hb1.trans (hb2.mono hb1.size)
  refine (secs_any _ _ _ _ _ _ _ (ht.below hb12)).mono ?_
  rintro e w3 ⟨rfl, hb3⟩
  go_wp2
  go_ret2
  exact ⟨rfl, hb12.trans (hb3.mono hb12.size)⟩

theorem decode23_lo (c : ByteArray) (w : World) (ht : Tab w) (h : 13 = c.size) (hz : c[12]'(by omega) = 90) (hy0 : 0 ≤ yr c 2) (hy : yr c 2 < 50) :
    Calls Tryd.prog 16 #[.int .i64 23, .string c] w fun e w' => e = .returned (.tuple #[.int .i64 (dresV c 2 (yr c 2 + 2000)), .int .i64 (dresE c 2 (yr c 2 + 2000))]) ∧ Below w.heap.size w w' := by
  have d : ((c.size : Int) != 13) = false := by rw [bne_eq_false_iff_eq]; omega
  have hl : 12 < c.size := by omega
  have hl2 : c.size ≤ 13 := by omega
  have z : (((c[12].toNat : Nat) : Int) != 90) = false := by rw [hz]; rfl
  have hp0 := pr_prs c 2 0 (by omega)
  have hp2 := pr_prs c 2 2 (by omega)
  have hp4 := pr_prs c 2 4 (by omega)
  have hp6 := pr_prs c 2 6 (by omega)
  have hp8 := pr_prs c 2 8 (by omega)
  have hes : 10 ≤ (c.extract 2 c.size).size := by rw [ByteArray.size_extract]; omega
  have HE := Lib.hid hes
  have HP := Lib.hid (And.intro hp0 (And.intro hp2 (And.intro hp4 (And.intro hp6 hp8))))
  have hyb := yr_bd c 2 (by omega)
  clear h hz hp0 hp2 hp4 hp6 hp8 hes
  have t1 : decide (yr c 2 < 0) = false := by simp; omega
  have t2 : decide (50 ≤ yr c 2) = false := by simp; omega
  go_enter Tryd.func16, Tryd.ntmps16
  go_wp2_with fail
  go_at_call 29
  refine (number_any (c.extract 0 2) _ (by simp; omega)).mono ?_
  rintro e w1 ⟨rfl, hb1⟩
  have hyr : Dig.num (c.extract 0 2).data.toList = yr c 2 := rfl
  rw [hyr]; clear hyr
  go_wp2_with fail
  go_at_call 30
  refine (parts_any _ (c.extract 2 c.size) _ HE.out).mono ?_
  rintro e w2 ⟨rfl, hb2⟩
  rw [HP.out.1, HP.out.2.1, HP.out.2.2.1, HP.out.2.2.2.1, HP.out.2.2.2.2]
  go_wp2_with fail
  go_at_call 12
  have hb12 := hb1.trans (hb2.mono hb1.size)
  refine (secs_any _ _ _ _ _ _ _ (ht.below hb12)).mono ?_
  rintro e w3 ⟨rfl, hb3⟩
  go_wp2
  go_ret2
  exact ⟨rfl, hb12.trans (hb3.mono hb12.size)⟩

theorem decode24_size (c : ByteArray) (w : World) (h : c.size ≠ 15) :
    Calls Tryd.prog 16 #[.int .i64 24, .string c] w fun e w' => e = .returned (.tuple #[.int .i64 0, .int .i64 12]) ∧ w = w' := by
  have d : ((c.size : Int) != 15) = true := by rw [bne_iff_ne]; omega
  clear h
  go_enter Tryd.func16, Tryd.ntmps16
  go_wp2
  go_ret2
  exact ⟨rfl, rfl⟩

theorem decode24_z (c : ByteArray) (w : World) (h : 15 = c.size) (hz : c[14]'(by omega) ≠ 90) :
    Calls Tryd.prog 16 #[.int .i64 24, .string c] w fun e w' => e = .returned (.tuple #[.int .i64 0, .int .i64 12]) ∧ w = w' := by
  have d : ((c.size : Int) != 15) = false := by rw [bne_eq_false_iff_eq]; omega
  have hl : 14 < c.size := by omega
  have z : (((c[14].toNat : Nat) : Int) != 90) = true := by
    rw [bne_iff_ne]; intro e; apply hz; apply UInt8.toNat_inj.1; have : (90 : UInt8).toNat = 90 := rfl; omega
  clear h hz
  go_enter Tryd.func16, Tryd.ntmps16
  go_wp2
  go_ret2
  exact ⟨rfl, rfl⟩

theorem decode24_y (c : ByteArray) (w : World) (h : 15 = c.size) (hz : c[14]'(by omega) = 90) (hy : yr c 4 < 0) :
    Calls Tryd.prog 16 #[.int .i64 24, .string c] w fun e w' => e = .returned (.tuple #[.int .i64 0, .int .i64 12]) ∧ Below w.heap.size w w' := by
  have d : ((c.size : Int) != 15) = false := by rw [bne_eq_false_iff_eq]; omega
  have hl : 14 < c.size := by omega
  have hl2 : c.size ≤ 15 := by omega
  have z : (((c[14].toNat : Nat) : Int) != 90) = false := by rw [hz]; rfl
  have hp0 := pr_prs c 4 0 (by omega)
  have hp2 := pr_prs c 4 2 (by omega)
  have hp4 := pr_prs c 4 4 (by omega)
  have hp6 := pr_prs c 4 6 (by omega)
  have hp8 := pr_prs c 4 8 (by omega)
  have hes : 10 ≤ (c.extract 4 c.size).size := by rw [ByteArray.size_extract]; omega
  have HE := Lib.hid hes
  have HP := Lib.hid (And.intro hp0 (And.intro hp2 (And.intro hp4 (And.intro hp6 hp8))))
  have hyb := yr_bd c 4 (by omega)
  clear h hz hp0 hp2 hp4 hp6 hp8 hes
  have t1 : decide (yr c 4 < 0) = true := by simp; omega
  go_enter Tryd.func16, Tryd.ntmps16
  go_wp2_with fail
  go_at_call 29
  refine (number_any (c.extract 0 4) _ (by simp; omega)).mono ?_
  rintro e w1 ⟨rfl, hb1⟩
  have hyr : Dig.num (c.extract 0 4).data.toList = yr c 4 := rfl
  rw [hyr]; clear hyr
  go_wp2
  go_ret2
  exact ⟨rfl, hb1⟩

theorem decode24_low (c : ByteArray) (w : World) (h : 15 = c.size) (hz : c[14]'(by omega) = 90) (hy0 : 0 ≤ yr c 4) (hy : yr c 4 < 2050) :
    Calls Tryd.prog 16 #[.int .i64 24, .string c] w fun e w' => e = .returned (.tuple #[.int .i64 0, .int .i64 12]) ∧ Below w.heap.size w w' := by
  have d : ((c.size : Int) != 15) = false := by rw [bne_eq_false_iff_eq]; omega
  have hl : 14 < c.size := by omega
  have hl2 : c.size ≤ 15 := by omega
  have z : (((c[14].toNat : Nat) : Int) != 90) = false := by rw [hz]; rfl
  have hp0 := pr_prs c 4 0 (by omega)
  have hp2 := pr_prs c 4 2 (by omega)
  have hp4 := pr_prs c 4 4 (by omega)
  have hp6 := pr_prs c 4 6 (by omega)
  have hp8 := pr_prs c 4 8 (by omega)
  have hes : 10 ≤ (c.extract 4 c.size).size := by rw [ByteArray.size_extract]; omega
  have HE := Lib.hid hes
  have HP := Lib.hid (And.intro hp0 (And.intro hp2 (And.intro hp4 (And.intro hp6 hp8))))
  have hyb := yr_bd c 4 (by omega)
  clear h hz hp0 hp2 hp4 hp6 hp8 hes
  have t1 : decide (yr c 4 < 0) = false := by simp; omega
  have t2 : decide (yr c 4 < 2050) = true := by simp; omega
  go_enter Tryd.func16, Tryd.ntmps16
  go_wp2_with fail
  go_at_call 29
  refine (number_any (c.extract 0 4) _ (by simp; omega)).mono ?_
  rintro e w1 ⟨rfl, hb1⟩
  have hyr : Dig.num (c.extract 0 4).data.toList = yr c 4 := rfl
  rw [hyr]; clear hyr
  go_wp2
  go_ret2
  exact ⟨rfl, hb1⟩

theorem decode24_hi (c : ByteArray) (w : World) (ht : Tab w) (h : 15 = c.size) (hz : c[14]'(by omega) = 90) (hy : 2050 ≤ yr c 4) :
    Calls Tryd.prog 16 #[.int .i64 24, .string c] w fun e w' => e = .returned (.tuple #[.int .i64 (dresV c 4 (yr c 4)), .int .i64 (dresE c 4 (yr c 4))]) ∧ Below w.heap.size w w' := by
  have d : ((c.size : Int) != 15) = false := by rw [bne_eq_false_iff_eq]; omega
  have hl : 14 < c.size := by omega
  have hl2 : c.size ≤ 15 := by omega
  have z : (((c[14].toNat : Nat) : Int) != 90) = false := by rw [hz]; rfl
  have hp0 := pr_prs c 4 0 (by omega)
  have hp2 := pr_prs c 4 2 (by omega)
  have hp4 := pr_prs c 4 4 (by omega)
  have hp6 := pr_prs c 4 6 (by omega)
  have hp8 := pr_prs c 4 8 (by omega)
  have hes : 10 ≤ (c.extract 4 c.size).size := by rw [ByteArray.size_extract]; omega
  have HE := Lib.hid hes
  have HP := Lib.hid (And.intro hp0 (And.intro hp2 (And.intro hp4 (And.intro hp6 hp8))))
  have hyb := yr_bd c 4 (by omega)
  clear h hz hp0 hp2 hp4 hp6 hp8 hes
  have t1 : decide (yr c 4 < 0) = false := by simp; omega
  have t2 : decide (yr c 4 < 2050) = false := by simp; omega
  go_enter Tryd.func16, Tryd.ntmps16
  go_wp2_with fail
  go_at_call 29
  refine (number_any (c.extract 0 4) _ (by simp; omega)).mono ?_
  rintro e w1 ⟨rfl, hb1⟩
  have hyr : Dig.num (c.extract 0 4).data.toList = yr c 4 := rfl
  rw [hyr]; clear hyr
  go_wp2_with fail
  go_at_call 30
  refine (parts_any _ (c.extract 4 c.size) _ HE.out).mono ?_
  rintro e w2 ⟨rfl, hb2⟩
  rw [HP.out.1, HP.out.2.1, HP.out.2.2.1, HP.out.2.2.2.1, HP.out.2.2.2.2]
  go_wp2_with fail
  go_at_call 12
  have hb12 := hb1.trans (hb2.mono hb1.size)
  refine (secs_any _ _ _ _ _ _ _ (ht.below hb12)).mono ?_
  rintro e w3 ⟨rfl, hb3⟩
  go_wp2
  go_ret2
  exact ⟨rfl, hb12.trans (hb3.mono hb12.size)⟩

end Go.Proofs.YtmmoimemfdbfgaaDoor