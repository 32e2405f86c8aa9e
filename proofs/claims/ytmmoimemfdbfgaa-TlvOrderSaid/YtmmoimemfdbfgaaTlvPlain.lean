/-
  What Wrap writes: in plain Lean. No program in sight.
-/
namespace Go.Proofs.Ytmmoimemfdbfgaa.Tl

def b8 (x : Nat) : UInt8 := UInt8.ofNat x
/-- the octets of a length -/
def lenB (n : Nat) : List UInt8 :=
  if n < 128 then [b8 n] else if n < 256 then [129, b8 n] else if n < 65536 then [130, b8 (n / 256), b8 n] else [131, b8 (n / 65536), b8 (n / 256), b8 n]
theorem b8_toNat (x : Nat) : (b8 x).toNat = x % 256 := by unfold b8; rw [UInt8.toNat_ofNat']
theorem b8_int (x : Nat) : ((b8 x).toNat : Int) = (x : Int) % 256 := by rw [b8_toNat]; omega
theorem lenB_length (n : Nat) : (lenB n).length ≤ 4 := by
  unfold lenB
  split
  · simp
  · split
    · simp
    · split <;> simp
theorem lenB_1 (n : Nat) (h : n < 128) : lenB n = [b8 n] := by rw [lenB, if_pos h]
theorem lenB_2 (n : Nat) (h : 128 ≤ n) (h' : n < 256) : lenB n = [129, b8 n] := by rw [lenB, if_neg (by omega), if_pos h']
theorem lenB_3 (n : Nat) (h : 256 ≤ n) (h' : n < 65536) : lenB n = [130, b8 (n / 256), b8 n] := by rw [lenB, if_neg (by omega), if_neg (by omega), if_pos h']
theorem lenB_4 (n : Nat) (h : 65536 ≤ n) : lenB n = [131, b8 (n / 65536), b8 (n / 256), b8 n] := by rw [lenB, if_neg (by omega), if_neg (by omega), if_neg (by omega)]
/-- the whole element -/
def elem (tag : Nat) (c : List UInt8) : List UInt8 := b8 tag :: (lenB c.length ++ c)

/-- several contents, one after the other -/
def flat (xs : List ByteArray) : List UInt8 := (xs.map (·.data.toList)).flatten
theorem flat_take (xs : List ByteArray) (k : Nat) (h : k < xs.length) : flat (xs.take (k + 1)) = flat (xs.take k) ++ xs[k].data.toList := by
  unfold flat; rw [List.take_succ_eq_append_getElem h, List.map_append, List.flatten_append]; simp
theorem flat_le (xs : List ByteArray) (k : Nat) : (flat (xs.take k)).length ≤ (flat xs).length := by
  have h : flat xs = flat (xs.take k) ++ flat (xs.drop k) := by
    conv => lhs; rw [← List.take_append_drop k xs]
    simp only [flat, List.map_append, List.flatten_append]
  rw [h]; simp
def MAXB : Nat := 131072

end Go.Proofs.Ytmmoimemfdbfgaa.Tl
