/-
  The bit operations that the code uses, as sums and remainders.
-/
import Derived.Test.YtbfgkcgnhgfkmaaGreatChecked
import Derived.Laws.Bits64b
import Derived.Laws.Bits128
namespace Go.Proofs.YtbfgkcgnhgfkmaaGreat
open Go

theorem bits_or_i64_nat (a b : Nat) (ha : a < 4611686018427387904) (hb : b < 4611686018427387904) : bits .or .i64 (a : Int) (b : Int) = ((a ||| b : Nat) : Int) := by
  have hx : a ||| b < 2 ^ 62 := Nat.or_lt_two_pow (by omega) (by omega)
  have h1 : (BitVec.ofInt 64 (a : Int)).toNat = a := by
    rw [BitVec.ofInt_natCast, BitVec.toNat_ofNat]; exact Nat.mod_eq_of_lt (by omega)
  have h2 : (BitVec.ofInt 64 (b : Int)).toNat = b := by
    rw [BitVec.ofInt_natCast, BitVec.toNat_ofNat]; exact Nat.mod_eq_of_lt (by omega)
  show IntKind.i64.wrap ((BitVec.ofInt 64 (a : Int) ||| BitVec.ofInt 64 (b : Int)).toNat : Int) = _
  rw [BitVec.toNat_or, h1, h2]
  rw [IntKind.wrap_i64]; omega
theorem i64_or_byte (m c : Nat) (hm : m < 1099511627776) (hc : c < 256) : bits .or .i64 ((m : Int) * 256) (c : Int) = (256 * m + c : Nat) := by
  have h : ((m : Int) * 256) = ((m * 256 : Nat) : Int) := by simp
  rw [h, bits_or_i64_nat _ _ (by omega) (by omega)]
  have e : m * 256 ||| c = m * 256 + c := by
    have := Nat.shiftLeft_add_eq_or_of_lt (i := 8) (b := c) (by omega) m
    rw [Nat.shiftLeft_eq] at this
    exact this.symm
  rw [e]; omega

end Go.Proofs.YtbfgkcgnhgfkmaaGreat
