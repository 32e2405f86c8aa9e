/-
  What Read reads: in plain Lean. No program in sight.
-/
namespace Go.Proofs.Ytmmoimemfdbfgaa.Tl

/-- a byte of a string -/
def byt (b : ByteArray) (k : Nat) : Nat := (b.data.toList.getD k 0).toNat
theorem byt_lt (b : ByteArray) (k : Nat) : byt b k < 256 := UInt8.toNat_lt _
theorem byt_get (b : ByteArray) (k : Nat) (h : k < b.size) : (b[k]).toNat = byt b k := by
  unfold byt
  rw [List.getD_eq_getElem?_getD, List.getElem?_eq_getElem (by simpa using h)]
  rfl
/-- the number that j octets from the third on spell -/
def beN (b : ByteArray) : Nat → Nat
  | 0 => 0
  | j + 1 => 256 * beN b j + byt b (2 + j)
theorem beN_lt (b : ByteArray) (j : Nat) (h : j ≤ 3) : beN b j < 16777216 := by
  have h0 := byt_lt b (2 + 0)
  have h1 := byt_lt b (2 + 1)
  have h2 := byt_lt b (2 + 2)
  have : j = 0 ∨ j = 1 ∨ j = 2 ∨ j = 3 := by omega
  rcases this with rfl | rfl | rfl | rfl <;> simp only [beN] <;> omega
def least : Nat → Nat
  | 1 => 128
  | 2 => 256
  | _ => 65536

inductive Res where
  | err (c : Int)
  | ok (at_ n : Nat)

def fin (b : ByteArray) (a n : Nat) : Res := if b.size < a + n then .err 3 else .ok a n
def long (b : ByteArray) (k : Nat) : Res := if b.size < 2 + k then .err 3 else if beN b k < least k ∨ 131072 < beN b k then .err 6 else fin b (2 + k) (beN b k)
def rd (b : ByteArray) : Res :=
  if b.size = 0 then .err 3 else if byt b 0 % 32 = 31 then .err 5 else if b.size = 1 then .err 3 else
  if byt b 1 = 128 ∨ 131 < byt b 1 then .err 6 else if byt b 1 < 128 then fin b 2 (byt b 1) else long b (byt b 1 - 128)

end Go.Proofs.Ytmmoimemfdbfgaa.Tl
