/-
  The hash in plain Lean: words are integers, their operations the model's.
-/
/-
  The hash's padding and its digest in plain Lean.
-/
import Derived.WalkKit
namespace Go.Proofs.YtbfgkcgnhgfkmaaGreat.Hs
open Go
abbrev B := List UInt8
/-- a fact that no search looks into (Hid is unfolded by a failing unification: an equation on a function at a literal then runs without an end) -/
structure Bx (p : Prop) : Prop where
  out : p
/-- a word turned to the right -/
def turnZ (x n : Int) : Int := bits .or .u32 (x / 2 ^ n.toNat) (x * 2 ^ (32 - n).toNat % 4294967296)
def wd (x : Int) : Value := .int .u32 x
def h0s : List Int := [0x6a09e667, 0xbb67ae85, 0x3c6ef372, 0xa54ff53a, 0x510e527f, 0x9b05688c, 0x1f83d9ab, 0x5be0cd19]
def ks : List Int := [
  0x428a2f98, 0x71374491, 0xb5c0fbcf, 0xe9b5dba5, 0x3956c25b, 0x59f111f1, 0x923f82a4, 0xab1c5ed5,
  0xd807aa98, 0x12835b01, 0x243185be, 0x550c7dc3, 0x72be5d74, 0x80deb1fe, 0x9bdc06a7, 0xc19bf174,
  0xe49b69c1, 0xefbe4786, 0x0fc19dc6, 0x240ca1cc, 0x2de92c6f, 0x4a7484aa, 0x5cb0a9dc, 0x76f988da,
  0x983e5152, 0xa831c66d, 0xb00327c8, 0xbf597fc7, 0xc6e00bf3, 0xd5a79147, 0x06ca6351, 0x14292967,
  0x27b70a85, 0x2e1b2138, 0x4d2c6dfc, 0x53380d13, 0x650a7354, 0x766a0abb, 0x81c2c92e, 0x92722c85,
  0xa2bfe8a1, 0xa81a664b, 0xc24b8b70, 0xc76c51a3, 0xd192e819, 0xd6990624, 0xf40e3585, 0x106aa070,
  0x19a4c116, 0x1e376c08, 0x2748774c, 0x34b0bcb5, 0x391c0cb3, 0x4ed8aa4a, 0x5b9cca4f, 0x682e6ff3,
  0x748f82ee, 0x78a5636f, 0x84c87814, 0x8cc70208, 0x90befffa, 0xa4506ceb, 0xbef9a3f7, 0xc67178f2]
def zs (n : Nat) : List Int := List.replicate n 0
/-- a byte of a block -/
def byZ (l : B) (k : Nat) : Int := ((l.getD k 0).toNat : Int)
theorem byZ_bd (l : B) (k : Nat) : 0 ≤ byZ l k ∧ byZ l k ≤ 255 := by
  unfold byZ
  have := UInt8.toNat_lt (l.getD k 0)
  omega
/-- four bytes as a word -/
def wordZ (a b c d : Int) : Int := bits .or .u32 (bits .or .u32 (bits .or .u32 (a * 16777216) (b * 65536)) (c * 256)) d
/-- the words of a block, one after the other -/
def W1 (l : B) : Nat → List Int
  | 0 => zs 64
  | k + 1 => (W1 l k).set k (wordZ (byZ l (4 * k)) (byZ l (4 * k + 1)) (byZ l (4 * k + 2)) (byZ l (4 * k + 3)))
theorem W1_len (l : B) : ∀ k, (W1 l k).length = 64
  | 0 => rfl
  | k + 1 => by rw [W1, List.length_set]; exact W1_len l k
def sigA (x : Int) : Int := bits .xor .u32 (bits .xor .u32 (turnZ x 7) (turnZ x 18)) (x / 8)
def sigB (x : Int) : Int := bits .xor .u32 (bits .xor .u32 (turnZ x 17) (turnZ x 19)) (x / 1024)
def W2 (L : List Int) : Nat → List Int
  | 0 => L
  | k + 1 => (W2 L k).set (16 + k) (((W2 L k).getD k 0 + sigA ((W2 L k).getD (k + 1) 0) + (W2 L k).getD (k + 9) 0 + sigB ((W2 L k).getD (k + 14) 0)) % 4294967296)
theorem W2_len (L : List Int) (h : L.length = 64) : ∀ k, (W2 L k).length = 64
  | 0 => h
  | k + 1 => by rw [W2, List.length_set]; exact W2_len L h k
def sumE (x : Int) : Int := bits .xor .u32 (bits .xor .u32 (turnZ x 6) (turnZ x 11)) (turnZ x 25)
def sumA (x : Int) : Int := bits .xor .u32 (bits .xor .u32 (turnZ x 2) (turnZ x 13)) (turnZ x 22)
def chZ (e f g : Int) : Int := bits .xor .u32 (bits .and .u32 e f) (bits .and .u32 (bits .xor .u32 IntKind.u32.max e) g)
def majZ (a b c : Int) : Int := bits .xor .u32 (bits .xor .u32 (bits .and .u32 a b) (bits .and .u32 a c)) (bits .and .u32 b c)
def step8 (v : List Int) (k w : Int) : List Int :=
  [(v.getD 7 0 + sumE (v.getD 4 0) + chZ (v.getD 4 0) (v.getD 5 0) (v.getD 6 0) + k + w + sumA (v.getD 0 0) + majZ (v.getD 0 0) (v.getD 1 0) (v.getD 2 0)) % 4294967296, v.getD 0 0, v.getD 1 0, v.getD 2 0,
    (v.getD 3 0 + (v.getD 7 0 + sumE (v.getD 4 0) + chZ (v.getD 4 0) (v.getD 5 0) (v.getD 6 0) + k + w)) % 4294967296, v.getD 4 0, v.getD 5 0, v.getD 6 0]
def R8 (h W : List Int) : Nat → List Int
  | 0 => h
  | k + 1 => step8 (R8 h W k) (ks.getD k 0) (W.getD k 0)
theorem R8_len (h W : List Int) (hh : h.length = 8) : ∀ k, (R8 h W k).length = 8
  | 0 => hh
  | _ + 1 => rfl
def A8 (h v : List Int) : Nat → List Int
  | 0 => v
  | k + 1 => (A8 h v k).set k (((A8 h v k).getD k 0 + h.getD k 0) % 4294967296)
theorem A8_len (h v : List Int) (hh : v.length = 8) : ∀ k, (A8 h v k).length = 8
  | 0 => hh
  | k + 1 => by rw [A8, List.length_set]; exact A8_len h v hh k
theorem set8 (v : List Int) (hv : v.length = 8) (a b c d e f g h : Int) : ((((((((v.set 0 a).set 1 b).set 2 c).set 3 d).set 4 e).set 5 f).set 6 g).set 7 h) = [a, b, c, d, e, f, g, h] := by
  rcases v with _ | ⟨x0, _ | ⟨x1, _ | ⟨x2, _ | ⟨x3, _ | ⟨x4, _ | ⟨x5, _ | ⟨x6, _ | ⟨x7, _ | ⟨x8, t⟩⟩⟩⟩⟩⟩⟩⟩⟩ <;> simp at hv
  rfl
/-- one block -/
def blockZ (h : List Int) (l : B) : List Int := A8 h (R8 h (W2 (W1 l 16) 48) 64) 8
theorem blockZ_len (h : List Int) (l : B) (hh : h.length = 8) : (blockZ h l).length = 8 := A8_len _ _ (R8_len _ _ hh _) _
/-- the first k blocks of some bytes -/
def hs (h : List Int) (l : B) : Nat → List Int
  | 0 => h
  | k + 1 => blockZ (hs h l k) ((l.drop (64 * k)).take 64)
theorem hs_len (h : List Int) (l : B) (hh : h.length = 8) : ∀ k, (hs h l k).length = 8
  | 0 => hh
  | k + 1 => blockZ_len _ _ (hs_len h l hh k)
theorem ex8 (L : List Int) (hv : L.length = 8) : ∃ z0 z1 z2 z3 z4 z5 z6 z7, L = [z0, z1, z2, z3, z4, z5, z6, z7] := by
  rcases L with _ | ⟨x0, _ | ⟨x1, _ | ⟨x2, _ | ⟨x3, _ | ⟨x4, _ | ⟨x5, _ | ⟨x6, _ | ⟨x7, _ | ⟨x8, t⟩⟩⟩⟩⟩⟩⟩⟩⟩ <;> simp at hv
  exact ⟨x0, x1, x2, x3, x4, x5, x6, x7, rfl⟩
end Go.Proofs.YtbfgkcgnhgfkmaaGreat.Hs

namespace Go.Proofs.YtbfgkcgnhgfkmaaGreat.Hs
open Go
set_option linter.unusedVariables false
/-- the lowest byte of a number -/
def hbZ (x : Int) : UInt8 := UInt8.ofNat (x % 256).toNat
theorem hbZ_toNat (x : Int) : ((hbZ x).toNat : Int) = x % 256 := by unfold hbZ; rw [UInt8.toNat_ofNat']; omega
/-- a number's byte, counted from its end -/
def byA (m i : Nat) : UInt8 := UInt8.ofNat (m / 256 ^ i % 256)
theorem byA_toNat (m i : Nat) : (byA m i).toNat = m / 256 ^ i % 256 := by unfold byA; rw [UInt8.toNat_ofNat']; omega
/-- the first k of the j bytes of a number -/
def beN (m j : Nat) : Nat → B
  | 0 => []
  | k + 1 => beN m j k ++ [byA m (j - 1 - k)]
theorem beN_len (m j : Nat) : ∀ k, (beN m j k).length = k
  | 0 => rfl
  | k + 1 => by rw [beN, List.length_append, beN_len m j k]; rfl
/-- a number in so many bytes -/
def be (m j : Nat) : B := beN m j j
theorem be_len (m j : Nat) : (be m j).length = j := beN_len m j j
def zr (k : Nat) : B := List.replicate k 0
theorem zr_succ (k : Nat) : zr (k + 1) = zr k ++ [0] := List.replicate_succ'
/-- how many zeros come behind so many bytes and the first of the padding -/
def zn (r : Nat) : Nat := (119 - r % 64) % 64
def pad (r n : Nat) : B := ([128] ++ zr (zn r)) ++ be (8 * n) 8
theorem zn_end (r : Nat) : (r + 1 + zn r) % 64 = 56 := by unfold zn; omega
theorem zn_in (r j : Nat) (h : j < zn r) : (r + 1 + j) % 64 ≠ 56 := by unfold zn at h; omega
theorem zn_lt (r : Nat) : zn r < 64 := by unfold zn; omega
theorem zn_mod (r s : Nat) (h : r % 64 = s % 64) : zn r = zn s := by unfold zn; rw [h]
theorem pad_len (r n : Nat) : (r + (pad r n).length) % 64 = 0 := by
  unfold pad
  have := zn_end r
  simp only [List.length_append, be_len, zr, List.length_replicate, List.length_cons, List.length_nil]
  omega
/-- a word's bytes -/
def wb (x : Int) : B := [hbZ (x / 16777216), hbZ (x / 65536), hbZ (x / 256), hbZ x]
def bytesOf (h : List Int) : B := h.flatMap wb
theorem bytesOf_len (h : List Int) (hh : h.length = 8) : (bytesOf h).length = 32 := by
  obtain ⟨z0, z1, z2, z3, z4, z5, z6, z7, rfl⟩ := ex8 h hh
  rfl
/-- all blocks of some bytes -/
def all (h : List Int) (l : B) : List Int := hs h l (l.length / 64)
theorem all_len (h : List Int) (l : B) (hh : h.length = 8) : (all h l).length = 8 := hs_len h l hh _
/-- the digest -/
def sha (m : B) : B := bytesOf (all h0s (m ++ pad m.length m.length))
theorem sha_len (m : B) : (sha m).length = 32 := bytesOf_len _ (all_len _ _ rfl)

theorem hs_prefix (h : List Int) (l m : B) : ∀ k, 64 * k ≤ l.length → hs h (l ++ m) k = hs h l k
  | 0, _ => rfl
  | k + 1, hk => by
    rw [hs, hs, hs_prefix h l m k (by omega), List.drop_append_of_le_length (by omega), List.take_append_of_le_length (by rw [List.length_drop]; omega)]
theorem hs_add (h : List Int) (l : B) (i : Nat) : ∀ j, hs h l (i + j) = hs (hs h l i) (l.drop (64 * i)) j
  | 0 => rfl
  | j + 1 => by
    rw [show i + (j + 1) = (i + j) + 1 by omega, hs, hs, hs_add h l i j, List.drop_drop]
    congr 3
    omega
/-- what a stream holds behind some bytes: the state and the rest -/
def stH (h : List Int) (l : B) : List Int := all h l
def stR (l : B) : B := l.drop (64 * (l.length / 64))
theorem stR_len (l : B) : (stR l).length = l.length % 64 := by unfold stR; rw [List.length_drop]; omega
theorem all_cat (h : List Int) (l m : B) : all h (l ++ m) = all (all h l) (stR l ++ m) := by
  unfold all
  have e1 : (l ++ m).length / 64 = l.length / 64 + (stR l ++ m).length / 64 := by
    rw [List.length_append, List.length_append, stR_len]
    omega
  rw [e1, hs_add, hs_prefix h l m _ (by omega)]
  congr 1
  unfold stR
  rw [List.drop_append_of_le_length (by omega)]
theorem stR_cat (l m : B) : stR (l ++ m) = stR (stR l ++ m) := by
  have e1 : (l ++ m).length / 64 = l.length / 64 + (stR l ++ m).length / 64 := by
    rw [List.length_append, List.length_append, stR_len]
    omega
  have e2 : stR (stR l ++ m) = (stR l ++ m).drop (64 * ((stR l ++ m).length / 64)) := rfl
  rw [e2]
  unfold stR at e1 ⊢
  rw [e1, Nat.mul_add, ← List.drop_drop, List.drop_append_of_le_length (by omega)]
/-- the digest out of what a stream holds -/
theorem sha_of (m : B) : sha m = bytesOf (all (all h0s m) (stR m ++ pad (stR m).length m.length)) := by
  unfold sha
  rw [all_cat]
  have : pad m.length m.length = pad (stR m).length m.length := by
    unfold pad
    rw [zn_mod m.length (stR m).length (by rw [stR_len]; omega)]
  rw [this]
end Go.Proofs.YtbfgkcgnhgfkmaaGreat.Hs
