/-
  Numbers in bytes: wal.number, the reference's B8.
-/
/-
  Records: wal.frame, wal.Frame, the reference's Frame.
-/
/-
  What Scan reads, in plain Lean.
-/
/-
  The reference's Frame.
-/
import Derived.Test.YtbfgkcgnhgfkmaaGreatHsS
import Derived.Test.YtbfgkcgnhgfkmaaGreatBits
import Derived.Test.YtbfgkcgnhgfkmaaGreatFacts
namespace Go.Proofs.YtbfgkcgnhgfkmaaGreat.Wl
open Go Go.RowKit Go.Proofs.YtbfgkcgnhgfkmaaGreat.Slc Go.Proofs.YtbfgkcgnhgfkmaaGreat.Hs
open Go.Proofs.YtbfgkcgnhgfkmaaGreat.Dk (Fr ptr bstr bstr_size bstr_list)
set_option linter.unusedVariables false
set_option linter.unusedSimpArgs false

def numZ (m size : Nat) : Nat → B
  | 0 => zr size
  | i + 1 => (numZ m size i).set (size - 1 - i) (byA m i)
theorem numZ_len (m size : Nat) : ∀ i, (numZ m size i).length = size
  | 0 => by simp [numZ, zr]
  | i + 1 => by rw [numZ, List.length_set]; exact numZ_len m size i
theorem numZ_4 (m : Nat) : numZ m 4 4 = be m 4 := rfl
theorem numZ_8 (m : Nat) : numZ m 8 8 = be m 8 := rfl
def b8Z (m : Nat) : Nat → B
  | 0 => zr 8
  | i + 1 => (b8Z m i).set i (byA m (7 - i))
theorem b8Z_len (m : Nat) : ∀ i, (b8Z m i).length = 8
  | 0 => by simp [b8Z, zr]
  | i + 1 => by rw [b8Z, List.length_set]; exact b8Z_len m i
theorem b8Z_8 (m : Nat) : b8Z m 8 = be m 8 := rfl
theorem sh_byte (n k e : Nat) (he : e = 8 * k) : (n : Int) / 2 ^ e % 256 = ((byA n k).toNat : Int) := by
  subst he
  rw [byA_toNat, Int.pow_mul]
  have e2 : ((2 : Int) ^ 8) ^ k = ((256 ^ k : Nat) : Int) := by rw [Int.natCast_pow]; rfl
  rw [e2]
  generalize 256 ^ k = c
  rw [Int.natCast_emod, Int.natCast_ediv]
  rfl

set_option maxRecDepth 10000 in
set_option maxHeartbeats 1000000 in
theorem number_any (n size : Nat) (w : World) (hn : n ≤ 9223372036854775807) (hs : 1 ≤ size) (hs8 : size ≤ 8) :
    Calls Tryz.prog 72 #[.int .i64 n, .int .i64 size] w fun e w' => e = .returned (.string (bstr (numZ n size size))) ∧ Below w.heap.size w w' := by
  obtain ⟨i0, hi0, hz0, hz1, hz2⟩ := info_parts info_u8
  obtain ⟨RES, hRES⟩ : ∃ R, R = Ending.returned (.string (bstr (numZ n size size))) := ⟨_, rfl⟩
  rw [← hRES]
  have HRES := Bx.mk hRES
  clear hRES
  have hnI : (n : Int) ≤ 9223372036854775807 := by omega
  have hsI : (size : Int) ≤ 8 := by omega
  have hsJ : 1 ≤ (size : Int) := by omega
  go_enter Tryz.func72, Tryz.ntmps72
  go_wp2_with (at_make; refine wpList_make_full _ rfl _ _ _ rfl w.heap.size 5 i0 _ 1 und_bytes hi0 hz0 hz1 .i64 .i64 _ _ size rfl rfl rfl rfl (by rw [hz2]; omega) (by unfold maxLen; omega) (Nat.le_refl _) ?_)
  intro w2 ho2 hg2
  have hown0 : Own w2 w.heap.size 5 1 encU (.slice (some ⟨w.heap.size, 0, none⟩) size size) (numZ n size 0) := Own.of ho2 (by simp [numZ, zr]) (by
    rw [flat_encU]; first | (rw [toList_madeCells_one]; simp [numZ, zr]) | (simp [numZ, zr]; done))
  have hb2 : Below w.heap.size w w2 := ⟨hg2.os, hg2.tape, hg2.output, hg2.size, fun k hk => hg2.block k hk (by simp)⟩
  have HO := Lib.hid hown0
  have HB := Lib.hid hb2
  clear ho2 hg2 hown0 hb2
  generalize hg : w.heap.size = g at *
  have HG := Lib.hid hg
  clear hg
  go_wp2_with fail
  go_loopw [6, 11] (fun _ i wr => ∃ k : Nat, k ≤ size ∧ i = .int .i64 (k : Int) ∧ Own wr g 5 1 encU (.slice (some ⟨g, 0, none⟩) size size) (numZ n size k) ∧ Below g w wr) (fun _ i _ => size - (intOf i).toNat)
  case atStart => exact ⟨0, by omega, rfl, HO.out, HB.out⟩
  case round =>
    obtain ⟨k, hk, rfl, hown, hbel⟩ := hrel
    have hTl := numZ_len n size k
    by_cases hlt : k < size
    · obtain ⟨x, hx⟩ : ∃ x : Int, x = (k : Int) := ⟨_, rfl⟩
      rw [← hx]
      have hbyte := sh_byte n k (8 * x).toNat (by omega)
      obtain ⟨g', cp, hvg, hgb, hgl2, hfz, hown1, hgr⟩ := hown.set1 encU_ok (size - 1 - k) 0 (by omega) (by omega) (.int .u8 ((n : Int) / 2 ^ (8 * x).toNat % 256)) (byA n k) (by rw [hbyte]; rfl)
      rw [hTl] at hvg
      simp only [Value.slice.injEq, Option.some.injEq, Addr.mk.injEq, and_true, true_and] at hvg
      obtain ⟨rfl, rfl⟩ := hvg
      obtain ⟨u, hcl⟩ : ∃ u : Int, wr.cell? ⟨g, size - 1 - k, none⟩ = some (.int .u8 u) := ⟨_, by have := hown.cell encU_ok (size - 1 - k) (by omega) 0 (by omega) _ rfl; rw [Nat.mul_one, Nat.add_zero] at this; exact this⟩
      have HCL := Lib.hid hcl
      clear hcl
      have hcl := HCL.out
      have hf0 := hfz (size - 1 - k)
      simp only [Nat.mul_one, Nat.add_zero] at hown1 hgr
      have HO2 := Lib.hid (show Own (wr.setCell ⟨g, size - 1 - k, none⟩ (.int .u8 ((n : Int) / 2 ^ (8 * x).toNat % 256))) g 5 1 encU (.slice (some ⟨g, 0, none⟩) size size) (numZ n size (k + 1)) from hown1)
      have HB3 := Lib.hid (show Below g w (wr.setCell ⟨g, size - 1 - k, none⟩ (.int .u8 ((n : Int) / 2 ^ (8 * x).toNat % 256))) from hbel.setCell (by simp) _)
      have HX := Lib.hid hx
      have x0 : 0 ≤ x := by omega
      have x7 : x < (size : Int) := by omega
      have i0' : (((size : Int) - 1) - x).toNat = size - 1 - k := by omega
      have i1 : 0 ≤ ((size : Int) - 1) - x := by omega
      have i2 : x ≤ (size : Int) - 1 := by omega
      have i3 : ((size : Int) - 1) - x < size := by omega
      clear hx hown hbel hTl hfz hown1 hgr hbyte hgb
      go_wp2_with fail
      go_roundw
      case rel => exact ⟨k + 1, by omega, by rw [HX.out]; go_num, HO2.out, HB3.out⟩
      case measure => rw [HX.out]; simp [intOf]; omega
    · obtain rfl : k = size := by omega
      have hcv := back_u hown (by omega)
      have HBF := Lib.hid hbel
      clear hown hbel hTl
      generalize hbs : bstr (numZ n k k) = bs at *
      have HBS := Bx.mk hbs
      clear hbs
      go_wp2_with fail
      go_ret
      exact ⟨by rw [HRES.out]; rfl, by rw [HG.out]; exact HBF.out⟩

set_option maxRecDepth 10000 in
set_option maxHeartbeats 1000000 in
theorem b8_any (n : Nat) (w : World) (hn : n ≤ 9223372036854775807) :
    Calls Tryz.prog 70 #[.int .i64 n] w fun e w' => e = .returned (.string (bstr (b8Z n 8))) ∧ Below w.heap.size w w' := by
  obtain ⟨i0, hi0, hz0, hz1, hz2⟩ := info_parts info_u8
  obtain ⟨RES, hRES⟩ : ∃ R, R = Ending.returned (.string (bstr (b8Z n 8))) := ⟨_, rfl⟩
  rw [← hRES]
  have HRES := Bx.mk hRES
  clear hRES
  have hnI : (n : Int) ≤ 9223372036854775807 := by omega
  go_enter Tryz.func70, Tryz.ntmps70
  go_wp2_with (at_make; refine wpList_make_full _ rfl _ _ _ rfl w.heap.size 5 i0 _ 1 und_bytes hi0 hz0 hz1 .i64 .i64 _ _ 8 rfl rfl rfl rfl (by rw [hz2]; omega) (by unfold maxLen; omega) (Nat.le_refl _) ?_)
  intro w2 ho2 hg2
  have hown0 : Own w2 w.heap.size 5 1 encU (.slice (some ⟨w.heap.size, 0, none⟩) 8 8) (b8Z n 0) := Own.of ho2 (by simp [b8Z, zr]) (by
    rw [flat_encU]; first | (rw [toList_madeCells_one]; simp [b8Z, zr]) | (simp [b8Z, zr]; done))
  have hb2 : Below w.heap.size w w2 := ⟨hg2.os, hg2.tape, hg2.output, hg2.size, fun k hk => hg2.block k hk (by simp)⟩
  have HO := Lib.hid hown0
  have HB := Lib.hid hb2
  clear ho2 hg2 hown0 hb2
  generalize hg : w.heap.size = g at *
  have HG := Lib.hid hg
  clear hg
  go_wp2_with fail
  go_loopw [4] (fun i wr => ∃ k : Nat, k ≤ 8 ∧ i = .int .i64 (k : Int) ∧ Own wr g 5 1 encU (.slice (some ⟨g, 0, none⟩) 8 8) (b8Z n k) ∧ Below g w wr) (fun i _ => 8 - (intOf i).toNat)
  case atStart => exact ⟨0, by omega, rfl, HO.out, HB.out⟩
  case round =>
    obtain ⟨k, hk, rfl, hown, hbel⟩ := hrel
    have hTl := b8Z_len n k
    by_cases hlt : k < 8
    · obtain ⟨x, hx⟩ : ∃ x : Int, x = (k : Int) := ⟨_, rfl⟩
      rw [← hx]
      have hbyte := sh_byte n (7 - k) (56 - 8 * x).toNat (by omega)
      obtain ⟨g', cp, hvg, hgb, hgl2, hfz, hown1, hgr⟩ := hown.set1 encU_ok k 0 (by omega) (by omega) (.int .u8 ((n : Int) / 2 ^ (56 - 8 * x).toNat % 256)) (byA n (7 - k)) (by rw [hbyte]; rfl)
      rw [hTl] at hvg
      simp only [Value.slice.injEq, Option.some.injEq, Addr.mk.injEq, and_true, true_and] at hvg
      obtain ⟨rfl, rfl⟩ := hvg
      obtain ⟨u, hcl⟩ : ∃ u : Int, wr.cell? ⟨g, k, none⟩ = some (.int .u8 u) := ⟨_, by have := hown.cell encU_ok k (by omega) 0 (by omega) _ rfl; rw [Nat.mul_one, Nat.add_zero] at this; exact this⟩
      have HCL := Lib.hid hcl
      clear hcl
      have hcl := HCL.out
      have hf0 := hfz k
      simp only [Nat.mul_one, Nat.add_zero] at hown1 hgr
      have HO2 := Lib.hid (show Own (wr.setCell ⟨g, k, none⟩ (.int .u8 ((n : Int) / 2 ^ (56 - 8 * x).toNat % 256))) g 5 1 encU (.slice (some ⟨g, 0, none⟩) 8 8) (b8Z n (k + 1)) from hown1)
      have HB3 := Lib.hid (show Below g w (wr.setCell ⟨g, k, none⟩ (.int .u8 ((n : Int) / 2 ^ (56 - 8 * x).toNat % 256))) from hbel.setCell (by simp) _)
      have HX := Lib.hid hx
      have x0 : 0 ≤ x := by omega
      have x7 : x < 8 := by omega
      have xk : x.toNat = k := by omega
      have p0 : 0 ≤ 56 - 8 * x := by omega
      have p1 : 8 * x ≤ 56 := by omega
      clear hx hown hbel hTl hfz hown1 hgr hbyte hgb
      go_wp2_with fail
      go_roundw
      case rel => exact ⟨k + 1, by omega, by rw [HX.out]; go_num, HO2.out, HB3.out⟩
      case measure => rw [HX.out]; simp [intOf]; omega
    · obtain rfl : k = 8 := by omega
      have hcv := back_u hown (by omega)
      have HBF := Lib.hid hbel
      clear hown hbel hTl
      generalize hbs : bstr (b8Z n 8) = bs at *
      have HBS := Bx.mk hbs
      clear hbs
      go_wp2_with fail
      go_ret
      exact ⟨by rw [HRES.out]; rfl, by rw [HG.out]; exact HBF.out⟩
end Go.Proofs.YtbfgkcgnhgfkmaaGreat.Wl

namespace Go.Proofs.YtbfgkcgnhgfkmaaGreat.Wl
open Go Go.RowKit Go.Proofs.YtbfgkcgnhgfkmaaGreat.Slc Go.Proofs.YtbfgkcgnhgfkmaaGreat.Hs
open Go.Proofs.YtbfgkcgnhgfkmaaGreat.Dk (Fr ptr bstr bstr_size bstr_list)
set_option linter.unusedVariables false
set_option linter.unusedSimpArgs false

/-- a record as it stands in the file -/
def frameB (n : Nat) (d : B) : B := (be d.length 4 ++ (sha (be n 8 ++ d)).take 4) ++ d
theorem frameB_len (n : Nat) (d : B) : (frameB n d).length = d.length + 8 := by
  unfold frameB
  rw [List.length_append, List.length_append, be_len, List.length_take, sha_len]
  omega
theorem bstr_cat (a b : B) : bstr a ++ bstr b = bstr (a ++ b) := by apply ByteArray.ext; simp [bstr]
theorem cat_b (a b : B) (h : a.length + b.length ≤ 9223372036854775807) (w : World) : (Op.stringOp .add (bstr a) (bstr b)).run Tryz.prog w = .ok (.string (bstr (a ++ b))) w := by
  rw [run_string_add_sum w _ _ (by rw [bstr_size, bstr_size]; exact h), bstr_cat]
theorem take_b (a : B) (n : Nat) (h : n ≤ a.length) (w : World) : (Instr.slice 9 (.string (bstr a)) none (some (.int .i64 n)) none).run Tryz.prog w = .ok (.string (bstr (a.take n))) w := by
  rw [Dk.str_h (bstr a) n n rfl (by rw [bstr_size]; exact h), bstr_extract a 0 n (Nat.zero_le _) h]
  rfl
theorem rd_two {w : World} {g : Nat} {a b : B} (h : w.heap[g]? = some (.cells #[.string (bstr a), .string (bstr b)] 9 (0, 0))) : Rd w Dk.encS (.slice (some ⟨g, 0, none⟩) 2 2) [a, b] := by
  refine .inr ⟨g, 0, 2, rfl, lt_of_block h, Nat.le_refl _, fun j u hj => ?_⟩
  rw [show 0 + j = j by omega, cell_of_row _ _ j _ _ _ h]
  simpa [Dk.encS] using hj

set_option maxRecDepth 10000 in
set_option maxHeartbeats 1000000 in
theorem frame_any (n : Nat) (d : B) (w : World) (hn : n ≤ 9223372036854775807) (hd : d.length ≤ 1000000) :
    Calls Tryz.prog 55 #[.int .i64 n, .string (bstr d)] w fun e w' => e = .returned (.string (bstr (frameB n d))) ∧ Below w.heap.size w w' := by
  obtain ⟨RES, hRES⟩ : ∃ R, R = Ending.returned (.string (bstr (frameB n d))) := ⟨_, rfl⟩
  rw [← hRES]
  have HRES := Bx.mk hRES
  clear hRES
  have c1 := fun W => number_any d.length 4 W (by omega) (by omega) (by omega)
  have c2 := fun W => number_any n 8 W hn (by omega) (by omega)
  have c3 := fun (W : World) (g : Nat) (h : W.heap[g]? = some (.cells #[.string (bstr (be n 8)), .string (bstr d)] 9 (0, 0))) => hsum_any W _ [be n 8, d] (rd_two h) (by simp [be_len]; omega) (by simp [be_len]; omega) (by simp)
  have hfl : [be n 8, d].flatten = be n 8 ++ d := by simp
  have c4 : ∀ W, (Instr.slice 9 (.string (bstr (sha (be n 8 ++ d)))) none (some (.int .i64 4)) none).run Tryz.prog W = .ok (.string (bstr ((sha (be n 8 ++ d)).take 4))) W := fun W => take_b (sha (be n 8 ++ d)) 4 (by rw [sha_len]; omega) W
  have c5 := cat_b (be d.length 4) ((sha (be n 8 ++ d)).take 4) (by rw [be_len, List.length_take, sha_len]; omega)
  have c6 := cat_b (be d.length 4 ++ (sha (be n 8 ++ d)).take 4) d (by rw [List.length_append, be_len, List.length_take, sha_len]; omega)
  have hsz : (bstr d).size = d.length := bstr_size d
  rw [hfl] at c3
  rw [numZ_4] at c1
  rw [numZ_8] at c2
  have HRE := Bx.mk (show bstr (frameB n d) = bstr ((be d.length 4 ++ (sha (be n 8 ++ d)).take 4) ++ d) from rfl)
  have C1 := Lib.hid c1
  have C2 := Lib.hid c2
  have C3 := Lib.hid c3
  clear c1 c2 c3 hfl
  generalize bstr ((be d.length 4 ++ (sha (be n 8 ++ d)).take 4) ++ d) = s6 at *
  generalize bstr (be d.length 4 ++ (sha (be n 8 ++ d)).take 4) = s5 at *
  generalize bstr ((sha (be n 8 ++ d)).take 4) = s4 at *
  generalize bstr (sha (be n 8 ++ d)) = s3 at *
  generalize bstr (be n 8) = s2 at *
  generalize bstr (be d.length 4) = s1 at *
  generalize bstr d = s0 at *
  go_enter Tryz.func55, Tryz.ntmps55
  go_wp2_with fail
  go_at_call 72
  refine (C1.out _).mono ?_
  rintro e w1 ⟨rfl, hb1⟩
  have HB1 := Lib.hid hb1
  clear hb1
  go_wp2_with fail
  go_at_call 72
  refine (C2.out _).mono ?_
  rintro e w2 ⟨rfl, hb2⟩
  have HB2 := Lib.hid (HB1.out.trans (hb2.mono HB1.out.size))
  clear hb2
  go_wp2_with fail
  go_at_call 73
  refine (C3.out _ w2.heap.size (heap_alloc_new _ _)).mono ?_
  rintro e w3 ⟨rfl, hb3⟩
  have HB3 := Lib.hid ((HB2.out.alloc HB2.out.size _).trans (hb3.mono (by have := HB2.out.size; simp; omega)))
  clear hb3
  go_wp2_with fail
  go_ret
  exact ⟨by rw [HRES.out, HRE.out]; rfl, HB3.out⟩

/-- what Frame returns -/
def frameR (n : Int) (d : B) : B × Int := if n < 0 then ([], 1) else if 65536 < d.length then ([], 2) else (frameB n.toNat d, 0)

end Go.Proofs.YtbfgkcgnhgfkmaaGreat.Wl

namespace Go.Proofs.YtbfgkcgnhgfkmaaGreat.Wl
open Go Go.RowKit Go.Proofs.YtbfgkcgnhgfkmaaGreat.Slc Go.Proofs.YtbfgkcgnhgfkmaaGreat.Hs
open Go.Proofs.YtbfgkcgnhgfkmaaGreat.Dk (Fr ptr bstr bstr_size bstr_list)
set_option linter.unusedVariables false
set_option linter.unusedSimpArgs false

def bt (b : B) (k : Nat) : Nat := (b.getD k 0).toNat
theorem bt_lt (b : B) (k : Nat) : bt b k < 256 := UInt8.toNat_lt _
/-- the first i of the four bytes of a number -/
def numK (b : B) (at_ : Nat) : Nat → Nat
  | 0 => 0
  | i + 1 => 256 * numK b at_ i + bt b (at_ + i)
def num4 (b : B) (at_ : Nat) : Nat := numK b at_ 4
theorem numK_lt (b : B) (at_ : Nat) : numK b at_ 0 = 0 ∧ numK b at_ 1 < 256 ∧ numK b at_ 2 < 65536 ∧ numK b at_ 3 < 16777216 ∧ numK b at_ 4 < 4294967296 := by
  have h0 := bt_lt b (at_ + 0)
  have h1 := bt_lt b (at_ + 1)
  have h2 := bt_lt b (at_ + 2)
  have h3 := bt_lt b (at_ + 3)
  have e0 : numK b at_ 0 = 0 := rfl
  have e1 : numK b at_ 1 = 256 * numK b at_ 0 + bt b (at_ + 0) := rfl
  have e2 : numK b at_ 2 = 256 * numK b at_ 1 + bt b (at_ + 1) := rfl
  have e3 : numK b at_ 3 = 256 * numK b at_ 2 + bt b (at_ + 2) := rfl
  have e4 : numK b at_ 4 = 256 * numK b at_ 3 + bt b (at_ + 3) := rfl
  omega
theorem numK_le (b : B) (at_ k : Nat) (hk : k ≤ 4) : numK b at_ k < 4294967296 := by
  obtain ⟨h0, h1, h2, h3, h4⟩ := numK_lt b at_
  have : k = 0 ∨ k = 1 ∨ k = 2 ∨ k = 3 ∨ k = 4 := by omega
  rcases this with rfl | rfl | rfl | rfl | rfl <;> omega

/-- a record's data -/
def dat (b : B) (at_ : Nat) : B := (b.drop (at_ + 8)).take (num4 b at_)
/-- a record's bytes -/
def rec_ (b : B) (at_ : Nat) : B := (b.drop at_).take (8 + num4 b at_)
/-- the records from a place on -/
def scanA (b : B) (out : List B) (at_ : Nat) : Option (List B × Nat) :=
  if h : b.length < at_ + 4 then some (out, at_)
  else if 65536 < num4 b at_ then none
  else if h2 : b.length < at_ + (8 + num4 b at_) then some (out, at_)
  else if rec_ b at_ ≠ frameB out.length (dat b at_) ∨ out.length = 4096 then none
  else scanA b (out ++ [dat b at_]) (at_ + (8 + num4 b at_))
termination_by b.length - at_
def scanB (b : B) : Option (List B × Nat) := scanA b [] 0
theorem scan_end (b : B) (out : List B) (at_ : Nat) (h : b.length < at_ + 4) : scanA b out at_ = some (out, at_) := by rw [scanA, dif_pos h]
theorem scan_big (b : B) (out : List B) (at_ : Nat) (h : ¬ b.length < at_ + 4) (h1 : 65536 < num4 b at_) : scanA b out at_ = none := by rw [scanA, dif_neg h, if_pos h1]
theorem scan_part (b : B) (out : List B) (at_ : Nat) (h : ¬ b.length < at_ + 4) (h1 : ¬ 65536 < num4 b at_) (h2 : b.length < at_ + (8 + num4 b at_)) : scanA b out at_ = some (out, at_) := by rw [scanA, dif_neg h, if_neg h1, dif_pos h2]
theorem scan_bad (b : B) (out : List B) (at_ : Nat) (h : ¬ b.length < at_ + 4) (h1 : ¬ 65536 < num4 b at_) (h2 : ¬ b.length < at_ + (8 + num4 b at_)) (h3 : rec_ b at_ ≠ frameB out.length (dat b at_) ∨ out.length = 4096) : scanA b out at_ = none := by
  rw [scanA, dif_neg h, if_neg h1, dif_neg h2, if_pos h3]
theorem scan_next (b : B) (out : List B) (at_ : Nat) (h : ¬ b.length < at_ + 4) (h1 : ¬ 65536 < num4 b at_) (h2 : ¬ b.length < at_ + (8 + num4 b at_)) (h3 : rec_ b at_ = frameB out.length (dat b at_)) (h4 : out.length ≠ 4096) :
    scanA b out at_ = scanA b (out ++ [dat b at_]) (at_ + (8 + num4 b at_)) := by
  rw [scanA, dif_neg h, if_neg h1, dif_neg h2, if_neg (by intro q; rcases q with q | q; exact q h3; exact h4 q)]
/-- what Scan leaves -/
def ScanPost (r : Option (List B × Nat)) (w : World) (e : Ending) (w' : World) : Prop :=
  match r with
  | none => e = .returned (.tuple #[.slice none 0 0, .int .i64 0, .int .i64 27]) ∧ Below w.heap.size w w'
  | some (l, n) => ∃ v, e = .returned (.tuple #[v, .int .i64 n, .int .i64 0]) ∧ Own w' w.heap.size 9 1 Dk.encS v l ∧ Below w.heap.size w w'
end Go.Proofs.YtbfgkcgnhgfkmaaGreat.Wl

namespace Go.Proofs.YtbfgkcgnhgfkmaaGreat.Wl
open Go Go.RowKit Go.Proofs.YtbfgkcgnhgfkmaaGreat.Slc Go.Proofs.YtbfgkcgnhgfkmaaGreat.Hs
open Go.Proofs.YtbfgkcgnhgfkmaaGreat.Dk (Fr ptr bstr bstr_size bstr_list)
set_option linter.unusedVariables false
set_option linter.unusedSimpArgs false

theorem be_drop (m : Nat) : (be m 8).drop 4 = be m 4 := rfl
theorem drop_b (a : B) (n : Nat) (h : n ≤ a.length) (w : World) : (Instr.slice 9 (.string (bstr a)) (some (.int .i64 n)) none none).run Tryz.prog w = .ok (.string (bstr (a.drop n))) w := by
  have h3 : n ≤ (bstr a).size := by rw [bstr_size]; exact h
  rw [run_slice_string_from_if w _ (bstr a) _ _ Tryz.underlying9]
  simp [h3]
  rw [bstr_size, bstr_extract a n a.length h (Nat.le_refl _), List.take_of_length_le (by simp)]

/-- what is known of each operation's value -/
def RfF (n L : Int) (s0 s8 s1 s2 s3 s4 s5 s6 : ByteArray) : Nat → Value → World → Prop
  | 0, v, _ => v = .string s0
  | 1, v, _ => v = .int .i64 L
  | 2, v, _ => v = .string s8
  | 3, v, _ => v = .string s1
  | 4, v, _ => v = .int .i64 n
  | 5, v, _ => v = .string s2
  | 6, v, _ => v = .string s0
  | 7, v, w => ∃ g, v = .slice (some ⟨g, 0, none⟩) 2 2 ∧ w.heap[g]? = some (.cells #[.string s2, .string s0] 9 (0, 0))
  | 8, v, _ => v = .string s3
  | 9, v, _ => v = .string s4
  | 10, v, _ => v = .string s5
  | 11, v, _ => v = .string s0
  | 12, v, _ => v = .string s6
  | _ + 13, _, _ => True
theorem RfF.stable (n L : Int) (s0 s8 s1 s2 s3 s4 s5 s6 : ByteArray) (i : Nat) (v : Value) (w w' : World) (h : RfF n L s0 s8 s1 s2 s3 s4 s5 s6 i v w) (hb : Below w.heap.size w w') : RfF n L s0 s8 s1 s2 s3 s4 s5 s6 i v w' := by
  match i, h with
  | 0, h | 1, h | 2, h | 3, h | 4, h | 5, h | 6, h | 8, h | 9, h | 10, h | 11, h | 12, h => exact h
  | 7, h => obtain ⟨g, h1, h2⟩ := h; exact ⟨g, h1, (hb.block g (lt_of_block h2)).trans h2⟩
  | _ + 13, _ => exact trivial

set_option maxRecDepth 10000 in
set_option maxHeartbeats 2000000 in
theorem rFrame_any (n : Int) (d : B) (w : World) (hn : n ≤ 9223372036854775807) (hd : d.length ≤ 9223372036854775807) :
    Calls Tryz.prog 53 #[.int .i64 n, .string (bstr d)] w fun e w' => e = .returned (.tuple #[.string (bstr (frameR n d).1), .int .i64 (frameR n d).2]) ∧ Below w.heap.size w w' := by
  have hsz : (bstr d).size = d.length := bstr_size d
  by_cases h1 : n < 0
  · have e1 : frameR n d = ([], 1) := by unfold frameR; rw [if_pos h1]
    rw [e1]
    go_enter Tryz.func53, Tryz.ntmps53
    go_wp2
    go_ret2
    exact ⟨rfl, Below.refl _ _⟩
  · have t1 : decide (n < 0) = false := by simpa using h1
    by_cases h2 : 65536 < d.length
    · have e1 : frameR n d = ([], 2) := by unfold frameR; rw [if_neg h1, if_pos h2]
      have t2 : decide ((d.length : Int) > 65536) = true := by simp; omega
      rw [e1]
      generalize bstr d = s0 at *
      go_enter Tryz.func53, Tryz.ntmps53
      go_wp2
      go_ret2
      exact ⟨rfl, Below.refl _ _⟩
    · have e1 : frameR n d = (frameB n.toNat d, 0) := by unfold frameR; rw [if_neg h1, if_neg h2]
      have t2 : decide ((d.length : Int) > 65536) = false := by simp; omega
      obtain ⟨k, rfl⟩ : ∃ k : Nat, n = k := ⟨n.toNat, by omega⟩
      rw [e1, Int.toNat_natCast]
      have c1 := fun W => b8_any d.length W (by omega)
      have c2 := fun W => b8_any k W (by omega)
      rw [b8Z_8] at c1 c2
      have c3 := fun (W : World) (g : Nat) (h : W.heap[g]? = some (.cells #[.string (bstr (be k 8)), .string (bstr d)] 9 (0, 0))) => rsum_any W _ [be k 8, d] (rd_two h) (by simp [be_len]; omega) (by simp)
      have hfl : [be k 8, d].flatten = be k 8 ++ d := by simp
      have c4 : ∀ W, (Instr.slice 9 (.string (bstr (sha (be k 8 ++ d)))) none (some (.int .i64 4)) none).run Tryz.prog W = .ok (.string (bstr ((sha (be k 8 ++ d)).take 4))) W := fun W => take_b (sha (be k 8 ++ d)) 4 (by rw [sha_len]; omega) W
      have c7 : ∀ W, (Instr.slice 9 (.string (bstr (be d.length 8))) (some (.int .i64 4)) none none).run Tryz.prog W = .ok (.string (bstr (be d.length 4))) W := fun W => drop_b (be d.length 8) 4 (by rw [be_len]; omega) W
      have c5 := cat_b (be d.length 4) ((sha (be k 8 ++ d)).take 4) (by rw [be_len, List.length_take, sha_len]; omega)
      have c6 := cat_b (be d.length 4 ++ (sha (be k 8 ++ d)).take 4) d (by rw [List.length_append, be_len, List.length_take, sha_len]; omega)
      rw [hfl] at c3
      rw [show frameB k d = (be d.length 4 ++ (sha (be k 8 ++ d)).take 4) ++ d from rfl]
      clear hfl e1
      generalize bstr ((be d.length 4 ++ (sha (be k 8 ++ d)).take 4) ++ d) = s6 at *
      generalize bstr (be d.length 4 ++ (sha (be k 8 ++ d)).take 4) = s5 at *
      generalize bstr ((sha (be k 8 ++ d)).take 4) = s4 at *
      generalize bstr (sha (be k 8 ++ d)) = s3 at *
      generalize bstr (be k 8) = s2 at *
      generalize bstr (be d.length 4) = s1 at *
      generalize bstr (be d.length 8) = s8 at *
      generalize bstr d = s0 at *
      have C1 := Lib.hid c1
      have C2 := Lib.hid c2
      have C3 := Lib.hid c3
      clear c1 c2 c3
      go_enter Tryz.func53, Tryz.ntmps53
      go_wp2_with fail
      refine wp_region_facts 13 (RfF k d.length s0 s8 s1 s2 s3 s4 s5 s6) (by kernel_rfl) (by kernel_rfl) (by rfl) (RfF.stable k d.length s0 s8 s1 s2 s3 s4 s5 s6) ?_ ?_
      · intro i o hi ho x w1 hb hd
        have hc : i = 0 ∨ i = 1 ∨ i = 2 ∨ i = 3 ∨ i = 4 ∨ i = 5 ∨ i = 6 ∨ i = 7 ∨ i = 8 ∨ i = 9 ∨ i = 10 ∨ i = 11 ∨ i = 12 := by omega
        simp only [List.take_succ_cons, List.take_zero, putFrom]
        rcases hc with rfl | rfl | rfl | rfl | rfl | rfl | rfl | rfl | rfl | rfl | rfl | rfl | rfl
        all_goals
          simp only [List.getElem?_cons_succ, List.getElem?_cons_zero, Option.some.injEq] at ho
          subst ho
          simp [Needs, Region.binds, RfF] at hd
          try obtain ⟨hd1, hd⟩ := hd
          try obtain ⟨hd2, hd⟩ := hd
        all_goals try (rename_i hd1 ; obtain ⟨g, hd0, hg⟩ := hd1)
        all_goals go_wp2_with fail
        all_goals first
          | (exact ⟨rfl, rfl, rfl, Below.refl _ _⟩)
          | (exact ⟨rfl, rfl, ⟨_, rfl, heap_alloc_new _ _⟩, (Below.refl _ _).alloc (Nat.le_refl _) _⟩)
          | (go_at_call 70; (with_reducible refine (C1.out _).mono ?_); rintro e w2 ⟨rfl, hb2⟩; have HB2 := Lib.hid hb2; clear hb2; go_wp2_with fail; exact ⟨rfl, rfl, rfl, HB2.out⟩)
          | (go_at_call 70; (with_reducible refine (C2.out _).mono ?_); rintro e w2 ⟨rfl, hb2⟩; have HB2 := Lib.hid hb2; clear hb2; go_wp2_with fail; exact ⟨rfl, rfl, rfl, HB2.out⟩)
          | (go_at_call 71; (with_reducible refine (C3.out _ _ (by assumption)).mono ?_); rintro e w2 ⟨rfl, hb2⟩; have HB2 := Lib.hid hb2; clear hb2; go_wp2_with fail; exact ⟨rfl, rfl, rfl, HB2.out⟩)
      · intro x w1 hb hf
        have f0 := hf 0 (by omega)
        have f1 := hf 1 (by omega)
        have f2 := hf 2 (by omega)
        have f3 := hf 3 (by omega)
        have f4 := hf 4 (by omega)
        have f5 := hf 5 (by omega)
        have f6 := hf 6 (by omega)
        have f8 := hf 8 (by omega)
        have f9 := hf 9 (by omega)
        have f10 := hf 10 (by omega)
        have f11 := hf 11 (by omega)
        have f12 := hf 12 (by omega)
        obtain ⟨g, f7, hg⟩ := hf 7 (by omega)
        simp only [RfF] at f0 f1 f2 f3 f4 f5 f6 f8 f9 f10 f11 f12
        have HB := Lib.hid hb
        clear hf hb c4 c5 c6 c7 hg
        simp only [List.take_succ_cons, List.take_zero, List.drop_succ_cons, List.drop_zero, putFrom, Nat.zero_add, Nat.reduceAdd, f0, f1, f2, f3, f4, f5, f6, f7, f8, f9, f10, f11, f12]
        clear f0 f1 f2 f3 f4 f5 f6 f7 f8 f9 f10 f11 f12 x
        go_wp2_with fail
        go_ret2
        exact ⟨rfl, HB.out⟩
end Go.Proofs.YtbfgkcgnhgfkmaaGreat.Wl
