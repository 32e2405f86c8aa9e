/-
  The order of the texts of dates is that of the times: no program in sight.
-/
import Derived.Test.YtmmoimemfdbfgaaDoorDateCal
import Derived.Test.YtmmoimemfdbfgaaDoorDigits
import GoSem.Op.String
namespace Go.Proofs.YtmmoimemfdbfgaaDoor.Lex
open Go

theorem less_append : ∀ (a c b d : List UInt8), a.length = c.length → Op.bytesLess (a ++ b) (c ++ d) = (Op.bytesLess a c || (a == c && Op.bytesLess b d))
  | [], [], b, d, _ => by simp [Op.bytesLess]
  | x :: a, y :: c, b, d, h => by
    have ih := less_append a c b d (by simpa using h)
    simp only [List.cons_append, Op.bytesLess, ih, List.cons_beq_cons]
    cases decide (x < y) <;> cases (x == y) <;> simp
  | [], _ :: _, _, _, h => by simp at h
  | _ :: _, [], _, _, h => by simp at h

theorem dg_lt (a b : Int) (a0 : 0 ≤ a) (a9 : a ≤ 9) (b0 : 0 ≤ b) (b9 : b ≤ 9) : decide (Dig.dg a < Dig.dg b) = decide (a < b) := by
  have h1 := Dig.dg_toNat a a0 a9
  have h2 := Dig.dg_toNat b b0 b9
  rw [decide_eq_decide, UInt8.lt_iff_toNat_lt]
  omega
theorem dg_eq (a b : Int) (a0 : 0 ≤ a) (a9 : a ≤ 9) (b0 : 0 ≤ b) (b9 : b ≤ 9) : (Dig.dg a == Dig.dg b) = decide (a = b) := by
  have h1 := Dig.dg_toNat a a0 a9
  have h2 := Dig.dg_toNat b b0 b9
  rw [Bool.eq_iff_iff, beq_iff_eq, decide_eq_true_eq]
  constructor
  · intro h; rw [h] at h1; omega
  · intro h; rw [h]

theorem low2 (n : Int) : Dig.low 2 n = [Dig.dg (n / 10 % 10), Dig.dg (n % 10)] := by simp [Dig.low]
theorem low4 (n : Int) : Dig.low 4 n = [Dig.dg (n / 1000 % 10), Dig.dg (n / 100 % 10), Dig.dg (n / 10 % 10), Dig.dg (n % 10)] := by simp [Dig.low]

theorem less2 (a b : Int) (a0 : 0 ≤ a) (a9 : a ≤ 99) (b0 : 0 ≤ b) (b9 : b ≤ 99) : Op.bytesLess (Dig.low 2 a) (Dig.low 2 b) = decide (a < b) := by
  rw [low2, low2]
  simp only [Op.bytesLess, dg_lt _ _ (show 0 ≤ a / 10 % 10 by omega) (by omega) (show 0 ≤ b / 10 % 10 by omega) (by omega), dg_lt _ _ (show 0 ≤ a % 10 by omega) (by omega) (show 0 ≤ b % 10 by omega) (by omega),
    dg_eq _ _ (show 0 ≤ a / 10 % 10 by omega) (by omega) (show 0 ≤ b / 10 % 10 by omega) (by omega)]
  rw [Bool.eq_iff_iff]; simp; omega
theorem eq2 (a b : Int) (a0 : 0 ≤ a) (a9 : a ≤ 99) (b0 : 0 ≤ b) (b9 : b ≤ 99) : (Dig.low 2 a == Dig.low 2 b) = decide (a = b) := by
  rw [low2, low2]
  simp only [List.cons_beq_cons, dg_eq _ _ (show 0 ≤ a / 10 % 10 by omega) (by omega) (show 0 ≤ b / 10 % 10 by omega) (by omega), dg_eq _ _ (show 0 ≤ a % 10 by omega) (by omega) (show 0 ≤ b % 10 by omega) (by omega)]
  rw [Bool.eq_iff_iff]; simp; omega
theorem low4_split (n : Int) : Dig.low 4 n = Dig.low 2 (n / 100) ++ Dig.low 2 (n % 100) := by
  rw [low4, low2, low2]
  have e1 : n / 100 / 10 % 10 = n / 1000 % 10 := by omega
  have e2 : n % 100 / 10 % 10 = n / 10 % 10 := by omega
  have e3 : n % 100 % 10 = n % 10 := by omega
  rw [e1, e2, e3]; rfl
theorem less4 (a b : Int) (a0 : 0 ≤ a) (a9 : a ≤ 9999) (b0 : 0 ≤ b) (b9 : b ≤ 9999) : Op.bytesLess (Dig.low 4 a) (Dig.low 4 b) = decide (a < b) := by
  rw [low4_split, low4_split, less_append _ _ _ _ (by simp [Dig.low_length]), less2 _ _ (by omega) (by omega) (by omega) (by omega), less2 _ _ (by omega) (by omega) (by omega) (by omega),
    eq2 _ _ (by omega) (by omega) (by omega) (by omega)]
  rw [Bool.eq_iff_iff]; simp only [Bool.or_eq_true, Bool.and_eq_true, decide_eq_true_eq]; omega
theorem eq4 (a b : Int) (a0 : 0 ≤ a) (a9 : a ≤ 9999) (b0 : 0 ≤ b) (b9 : b ≤ 9999) : (Dig.low 4 a == Dig.low 4 b) = decide (a = b) := by
  rw [low4, low4]
  simp only [List.cons_beq_cons, dg_eq _ _ (show 0 ≤ a / 1000 % 10 by omega) (by omega) (show 0 ≤ b / 1000 % 10 by omega) (by omega), dg_eq _ _ (show 0 ≤ a / 100 % 10 by omega) (by omega) (show 0 ≤ b / 100 % 10 by omega) (by omega),
    dg_eq _ _ (show 0 ≤ a / 10 % 10 by omega) (by omega) (show 0 ≤ b / 10 % 10 by omega) (by omega), dg_eq _ _ (show 0 ≤ a % 10 by omega) (by omega) (show 0 ≤ b % 10 by omega) (by omega)]
  rw [Bool.eq_iff_iff]; simp; omega

theorem beq_append : ∀ (a c b d : List UInt8), a.length = c.length → ((a ++ b) == (c ++ d)) = ((a == c) && (b == d))
  | [], [], b, d, _ => by simp
  | x :: a, y :: c, b, d, h => by
    have ih := beq_append a c b d (by simpa using h)
    simp only [List.cons_append, List.cons_beq_cons, ih, Bool.and_assoc]
  | [], _ :: _, _, _, h => by simp at h
  | _ :: _, [], _, _, h => by simp at h

theorem sep_less (c : UInt8) : Op.bytesLess [c] [c] = false := by simp [Op.bytesLess]

theorem fld_bd {y m d h n s : Int} (v : Cal.Vld y m d h n s) (k : Nat) : 0 ≤ Dig.fld m d h n s k ∧ Dig.fld m d h n s k ≤ 99 := by
  obtain ⟨y1, y2, m1, m2, d1, d2, h1, h2, n1, n2, s1, s2⟩ := v
  have := Cal.mlen_bd y m
  unfold Dig.fld
  split <;> omega

/-- the texts so far, compared -/
theorem txt_less {y m d h n s y' m' d' h' n' s' : Int} (v : Cal.Vld y m d h n s) (v' : Cal.Vld y' m' d' h' n' s') (k : Nat) :
    Op.bytesLess (Dig.txt y m d h n s (k + 1)) (Dig.txt y' m' d' h' n' s' (k + 1)) =
      (Op.bytesLess (Dig.txt y m d h n s k) (Dig.txt y' m' d' h' n' s' k) || ((Dig.txt y m d h n s k == Dig.txt y' m' d' h' n' s' k) && decide (Dig.fld m d h n s k < Dig.fld m' d' h' n' s' k))) := by
  show Op.bytesLess (Dig.txt y m d h n s k ++ [Dig.sep k] ++ Dig.low 2 _) (Dig.txt y' m' d' h' n' s' k ++ [Dig.sep k] ++ Dig.low 2 _) = _
  rw [less_append _ _ _ _ (by simp [Dig.txt_length]), less_append _ _ _ _ (by simp [Dig.txt_length]), sep_less, less2 _ _ (fld_bd v k).1 (fld_bd v k).2 (fld_bd v' k).1 (fld_bd v' k).2,
    beq_append _ _ _ _ (by simp [Dig.txt_length])]
  simp
theorem txt_beq {y m d h n s y' m' d' h' n' s' : Int} (v : Cal.Vld y m d h n s) (v' : Cal.Vld y' m' d' h' n' s') (k : Nat) :
    (Dig.txt y m d h n s (k + 1) == Dig.txt y' m' d' h' n' s' (k + 1)) = ((Dig.txt y m d h n s k == Dig.txt y' m' d' h' n' s' k) && decide (Dig.fld m d h n s k = Dig.fld m' d' h' n' s' k)) := by
  show ((Dig.txt y m d h n s k ++ [Dig.sep k] ++ Dig.low 2 _) == (Dig.txt y' m' d' h' n' s' k ++ [Dig.sep k] ++ Dig.low 2 _)) = _
  rw [beq_append _ _ _ _ (by simp [Dig.txt_length]), beq_append _ _ _ _ (by simp [Dig.txt_length]), eq2 _ _ (fld_bd v k).1 (fld_bd v k).2 (fld_bd v' k).1 (fld_bd v' k).2]
  simp

/-- the whole texts: the order of the six fields, one after the other -/
theorem text_eq {y m d h n s y' m' d' h' n' s' : Int} (v : Cal.Vld y m d h n s) (v' : Cal.Vld y' m' d' h' n' s') :
    (Dig.txt y m d h n s 5 == Dig.txt y' m' d' h' n' s' 5) = decide (y = y' ∧ m = m' ∧ d = d' ∧ h = h' ∧ n = n' ∧ s = s') := by
  have e0 : (Dig.txt y m d h n s 0 == Dig.txt y' m' d' h' n' s' 0) = decide (y = y') := eq4 _ _ (by have := v.y1; omega) v.y2 (by have := v'.y1; omega) v'.y2
  rw [txt_beq v v', txt_beq v v', txt_beq v v', txt_beq v v', txt_beq v v', e0]
  simp only [Dig.fld]
  rw [Bool.eq_iff_iff]; simp [and_assoc]
theorem text_less {y m d h n s y' m' d' h' n' s' : Int} (v : Cal.Vld y m d h n s) (v' : Cal.Vld y' m' d' h' n' s') :
    Op.bytesLess (Dig.txt y m d h n s 5) (Dig.txt y' m' d' h' n' s' 5) =
      decide (y < y' ∨ y = y' ∧ (m < m' ∨ m = m' ∧ (d < d' ∨ d = d' ∧ (h < h' ∨ h = h' ∧ (n < n' ∨ n = n' ∧ s < s'))))) := by
  have e0 : (Dig.txt y m d h n s 0 == Dig.txt y' m' d' h' n' s' 0) = decide (y = y') := eq4 _ _ (by have := v.y1; omega) v.y2 (by have := v'.y1; omega) v'.y2
  have l0 : Op.bytesLess (Dig.txt y m d h n s 0) (Dig.txt y' m' d' h' n' s' 0) = decide (y < y') := less4 _ _ (by have := v.y1; omega) v.y2 (by have := v'.y1; omega) v'.y2
  rw [txt_less v v', txt_less v v', txt_less v v', txt_less v v', txt_less v v']
  repeat rw [txt_beq v v']
  rw [e0, l0]
  simp only [Dig.fld]
  rw [Bool.eq_iff_iff]; simp only [Bool.or_eq_true, Bool.and_eq_true, decide_eq_true_eq]; omega

theorem sec_lt {y m d h n s y' m' d' h' n' s' : Int} (v : Cal.Vld y m d h n s) (v' : Cal.Vld y' m' d' h' n' s') :
    Cal.sec y m d h n s < Cal.sec y' m' d' h' n' s' ↔ (y < y' ∨ y = y' ∧ (m < m' ∨ m = m' ∧ (d < d' ∨ d = d' ∧ (h < h' ∨ h = h' ∧ (n < n' ∨ n = n' ∧ s < s'))))) := by
  have := v.h1; have := v.h2; have := v.n1; have := v.n2; have := v.s1; have := v.s2
  have := v'.h1; have := v'.h2; have := v'.n1; have := v'.n2; have := v'.s1; have := v'.s2
  have hday : Cal.dayno y m d < Cal.dayno y' m' d' ↔ (y < y' ∨ y = y' ∧ (m < m' ∨ m = m' ∧ d < d')) := by
    constructor
    · intro hlt
      have hy := Cal.year_le v v' (by omega)
      rcases (by omega : y < y' ∨ y = y') with q | q
      · exact .inl q
      · subst q
        have hm := Cal.month_le v.m1 v.m2 v'.m1 v'.m2 v.d1 v'.d2 (by omega : Cal.dayno y m d ≤ Cal.dayno y m' d')
        rcases (by omega : m < m' ∨ m = m') with q | q
        · exact .inr ⟨rfl, .inl q⟩
        · subst q; unfold Cal.dayno at hlt; exact .inr ⟨rfl, .inr ⟨rfl, by omega⟩⟩
    · intro hh
      rcases (by omega : Cal.dayno y m d < Cal.dayno y' m' d' ∨ Cal.dayno y' m' d' ≤ Cal.dayno y m d) with q | q
      · exact q
      · have hy := Cal.year_le v' v q
        rcases hh with h1 | ⟨rfl, h2⟩
        · omega
        · have hm := Cal.month_le v'.m1 v'.m2 v.m1 v.m2 v'.d1 v.d2 q
          rcases h2 with h2 | ⟨rfl, h3⟩
          · omega
          · unfold Cal.dayno at q; omega
  have hdeq : Cal.dayno y m d = Cal.dayno y' m' d' ↔ (y = y' ∧ m = m' ∧ d = d') := by
    constructor
    · intro he
      have hy : y = y' := by have := Cal.year_le v v' (by omega); have := Cal.year_le v' v (by omega); omega
      subst hy
      have hm : m = m' := by
        have := Cal.month_le v.m1 v.m2 v'.m1 v'.m2 v.d1 v'.d2 (by omega : Cal.dayno y m d ≤ Cal.dayno y m' d')
        have := Cal.month_le v'.m1 v'.m2 v.m1 v.m2 v'.d1 v.d2 (by omega : Cal.dayno y m' d' ≤ Cal.dayno y m d)
        omega
      subst hm
      unfold Cal.dayno at he
      exact ⟨rfl, rfl, by omega⟩
    · rintro ⟨rfl, rfl, rfl⟩; rfl
  unfold Cal.sec
  generalize Cal.dayno y m d = D at *
  generalize Cal.dayno y' m' d' = D' at *
  constructor
  · intro hlt
    rcases (by omega : D < D' ∨ D = D') with q | q
    · have := hday.1 q; omega
    · have := hdeq.1 q; omega
  · intro hh
    rcases (by omega : D < D' ∨ D = D' ∨ D' < D) with q | q | q
    · omega
    · have := hdeq.1 q; omega
    · exfalso
      have h1 : ¬ (D < D') := by omega
      have h2 : ¬ (D = D') := by omega
      rw [hday] at h1
      rw [hdeq] at h2
      omega

end Go.Proofs.YtmmoimemfdbfgaaDoor.Lex
