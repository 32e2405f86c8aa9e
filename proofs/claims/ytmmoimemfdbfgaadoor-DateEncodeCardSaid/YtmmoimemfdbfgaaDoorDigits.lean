/-
  Decimal digits, in plain Lean: the number that digits spell, or -1; the digits of a number. No program in sight.
-/
namespace Go.Proofs.YtmmoimemfdbfgaaDoor.Dig

def isd (c : UInt8) : Bool := decide (48 ≤ c.toNat) && decide (c.toNat ≤ 57)
def val (l : List UInt8) : Int := l.foldl (fun v c => 10 * v + ((c.toNat : Int) - 48)) 0
def num (l : List UInt8) : Int := if l.all isd then val l else -1

theorem val_snoc (l : List UInt8) (c : UInt8) : val (l ++ [c]) = 10 * val l + ((c.toNat : Int) - 48) := by simp [val, List.foldl_append]

theorem isd_iff (c : UInt8) : isd c = true ↔ 48 ≤ c.toNat ∧ c.toNat ≤ 57 := by simp [isd]

theorem fold_bd (l : List UInt8) : ∀ v : Int, 0 ≤ v → l.all isd = true →
    0 ≤ l.foldl (fun v c => 10 * v + ((c.toNat : Int) - 48)) v ∧ l.foldl (fun v c => 10 * v + ((c.toNat : Int) - 48)) v < (v + 1) * 10 ^ l.length := by
  induction l with
  | nil => intro v h _; simp; omega
  | cons c l ih =>
    intro v hv h
    simp only [List.all_cons, Bool.and_eq_true] at h
    have hc := (isd_iff c).1 h.1
    have h1 := ih (10 * v + ((c.toNat : Int) - 48)) (by omega) h.2
    simp only [List.foldl_cons, List.length_cons]
    refine ⟨h1.1, Int.lt_of_lt_of_le h1.2 ?_⟩
    have hp : (0 : Int) ≤ 10 ^ l.length := Int.pow_nonneg (by omega)
    rw [Int.pow_succ, Int.mul_comm (10 ^ l.length) 10, ← Int.mul_assoc]
    exact Int.mul_le_mul_of_nonneg_right (by omega) hp

theorem val_bd (l : List UInt8) (h : l.all isd = true) : 0 ≤ val l ∧ val l < 10 ^ l.length := by
  have := fold_bd l 0 (by omega) h
  simpa [val] using this

theorem pow_le (n : Nat) (h : n ≤ 15) : (10 : Int) ^ n ≤ 1000000000000000 := by
  have : ∀ m : Nat, (10 : Int) ^ n ≤ 10 ^ (n + m) := by
    intro m
    induction m with
    | zero => exact Int.le_refl _
    | succ m ih =>
      have hp : (0 : Int) ≤ 10 ^ (n + m) := Int.pow_nonneg (by omega)
      rw [← Nat.add_assoc, Int.pow_succ]; omega
  have h15 := this (15 - n)
  rw [show n + (15 - n) = 15 from by omega] at h15
  exact h15

theorem val_le (l : List UInt8) (h : l.all isd = true) (hl : l.length ≤ 15) : 0 ≤ val l ∧ val l < 1000000000000000 := by
  have a := val_bd l h
  have b := pow_le l.length hl
  omega

theorem take_snoc (l : List UInt8) (k : Nat) (h : k < l.length) : l.take (k + 1) = l.take k ++ [l[k]] := by
  rw [List.take_succ_eq_append_getElem h]

/-- the byte of one digit -/
def dg (x : Int) : UInt8 := UInt8.ofNat (48 + x).toNat
theorem dg_toNat (x : Int) (h0 : 0 ≤ x) (h1 : x ≤ 9) : ((dg x).toNat : Int) = 48 + x := by
  unfold dg
  rw [UInt8.toNat_ofNat']
  omega
/-- the last j digits of a number -/
def low : Nat → Int → List UInt8
  | 0, _ => []
  | j + 1, n => dg (n / 10 ^ j % 10) :: low j n
theorem low_length (j : Nat) (n : Int) : (low j n).length = j := by
  induction j with
  | zero => rfl
  | succ j ih => simp [low, ih]
theorem low_set (l : List UInt8) (d j : Nat) (n : Int) (h : j < d) :
    (l ++ (List.replicate (d - j) 48 ++ low j n)).set (l.length + d - 1 - j) (dg (n / 10 ^ j % 10)) = l ++ (List.replicate (d - (j + 1)) 48 ++ low (j + 1) n) := by
  rw [List.set_append_right _ _ (by omega)]
  congr 1
  have e1 : l.length + d - 1 - j - l.length = d - (j + 1) := by omega
  rw [e1, show d - j = d - (j + 1) + 1 from by omega, List.replicate_succ', List.append_assoc, List.set_append_right _ _ (by simp)]
  simp [low]

/-- the text of a date: what stands ahead of each field but the first, the fields, and the text so far -/
def sep : Nat → UInt8
  | 0 => 45
  | 1 => 45
  | 2 => 32
  | _ => 58
def fld (m d h n s : Int) : Nat → Int
  | 0 => m
  | 1 => d
  | 2 => h
  | 3 => n
  | _ => s
def txt (y m d h n s : Int) : Nat → List UInt8
  | 0 => low 4 y
  | k + 1 => txt y m d h n s k ++ [sep k] ++ low 2 (fld m d h n s k)
theorem txt_length (y m d h n s : Int) (k : Nat) : (txt y m d h n s k).length = 4 + 3 * k := by
  induction k with
  | zero => simp [txt, low_length]
  | succ k ih => simp [txt, low_length, ih]; omega

/-- a number has so many digits -/
def HasLen : Nat → Int → Prop
  | 0, _ => False
  | 1, v => 0 ≤ v ∧ v ≤ 9
  | j + 2, v => 10 ≤ v ∧ HasLen (j + 1) (v / 10)
theorem low_shift (j : Nat) (v : Int) : low (j + 1) v = low j (v / 10) ++ [dg (v % 10)] := by
  induction j with
  | zero => simp [low]
  | succ j ih =>
    rw [low, ih]
    simp only [low, List.cons_append]
    rw [Int.ediv_ediv_of_nonneg (by omega : (0 : Int) ≤ 10), ← Int.mul_comm (10 ^ j) 10, ← Int.pow_succ]
theorem low_one (v : Int) (h0 : 0 ≤ v) (h1 : v ≤ 9) : low 1 v = [dg v] := by
  simp [low]; rw [Int.emod_eq_of_lt h0 (by omega)]
theorem low_two (v : Int) (h0 : 0 ≤ v) (h1 : v ≤ 9) : low 2 v = [48, dg v] := by
  rw [low_shift, low_one _ (by omega) (by omega), Int.emod_eq_of_lt h0 (by omega)]
  have : v / 10 = 0 := by omega
  rw [this]; rfl
theorem has_two (v : Int) (h0 : 10 ≤ v) (h1 : v ≤ 99) : HasLen 2 v := ⟨h0, by show 0 ≤ v / 10 ∧ v / 10 ≤ 9; omega⟩
theorem has_four (v : Int) (h0 : 1000 ≤ v) (h1 : v ≤ 9999) : HasLen 4 v := ⟨by omega, by omega, by omega, by show 0 ≤ v / 10 / 10 / 10 ∧ v / 10 / 10 / 10 ≤ 9; omega⟩

end Go.Proofs.YtmmoimemfdbfgaaDoor.Dig
