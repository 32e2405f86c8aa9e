/-
  The contract of the definition's Wrap.
-/
import Derived.Test.YtmmoimemfdbfgaaBytes
import Derived.Test.YtmmoimemfdbfgaaTlvPlain
import Derived.Lib.Hide
namespace Go.Proofs.Ytmmoimemfdbfgaa
open Go.RowKit

/-- a slice of strings -/
inductive Strs (w : World) : Value → List ByteArray → Prop
  | none (a : Option Addr) (c : Nat) : Strs w (.slice a 0 c) []
  | some (bk o c : Nat) (x : ByteArray) (xs : List ByteArray) (hb : bk < w.heap.size) (hc : (x :: xs).length ≤ c) (hn : (x :: xs).length ≤ maxLen)
      (h : ∀ (j : Nat) y, (x :: xs)[j]? = Option.some y → w.cell? ⟨bk, o + j, Option.none⟩ = Option.some (.string y)) : Strs w (.slice (Option.some ⟨bk, o, Option.none⟩) (x :: xs).length c) (x :: xs)

/-- what Wrap returns where the identifier is right -/
def wrapV (tag : Int) (l : List UInt8) : Value := if 131072 < l.length then .tuple #[.string ⟨#[]⟩, .int .i64 6] else .tuple #[.string ⟨(Tl.elem tag.toNat l).toArray⟩, .int .i64 0]

set_option maxHeartbeats 1000000 in
set_option maxRecDepth 10000 in
set_option linter.unusedSimpArgs false in
theorem rwrap_some (tag : Int) (bk o c : Nat) (xs : List ByteArray) (w : World) (h0 : 0 ≤ tag) (h1 : tag ≤ 255) (h2 : tag % 32 ≠ 31)
    (hb : bk < w.heap.size) (hn : xs.length ≤ 1000000) (hs : (Tl.flat xs).length ≤ 1000000) (h : ∀ (j : Nat) y, xs[j]? = some y → w.cell? ⟨bk, o + j, none⟩ = some (.string y)) :
    Calls Try.prog 14 #[.int .i64 tag, .slice (some ⟨bk, o, none⟩) xs.length c] w fun e w' => e = .returned (wrapV tag (Tl.flat xs)) ∧ Below w.heap.size w w' := by
  generalize hFx : Tl.flat xs = F at *
  have HFX := Lib.hid hFx
  have t1 : decide (tag < 0) = false := by simp; omega
  have t2 : decide (255 < tag) = false := by simp; omega
  have t3 : (tag % 32 == 31) = false := by simp [h2]
  clear h2
  go_enter Try.func14, Try.ntmps14
  go_wp2
  go_loopw [6, 24] (fun s i wr => ∃ k : Nat, k ≤ xs.length ∧ i = .int .i64 k ∧ s = .string ⟨(Tl.flat (xs.take k)).toArray⟩ ∧ ∃ e : Ext w, wr = e.out) (fun _ i _ => xs.length - (intOf i).toNat)
  case atStart => exact ⟨0, by omega, rfl, rfl, Ext.self w, rfl⟩
  case round =>
    obtain ⟨k, hk, rfl, rfl, e1, rfl⟩ := hrel
    by_cases hlt : k < xs.length
    · have hx := h k xs[k] (by simp [hlt])
      rw [← e1.cell hb] at hx
      have hf := Tl.flat_take xs k hlt
      have hle := Tl.flat_le xs (k + 1)
      rw [HFX.out] at hle
      have hcat : (⟨(Tl.flat (xs.take k)).toArray⟩ : ByteArray) ++ xs[k] = ⟨(Tl.flat (xs.take (k + 1))).toArray⟩ := by
        rw [hf]; exact By.bytes_cat (Tl.flat (xs.take k)) xs[k].data.toList
      have hsz : (Tl.flat (xs.take (k + 1))).length = (Tl.flat (xs.take k)).length + xs[k].size := by rw [hf]; simp
      have HC := Lib.hid hcat
      have g1 : ¬ 9223372036854775807 < (Tl.flat (xs.take k)).length + xs[k].size := by omega
      clear hcat hf hle hsz hs hFx
      generalize hy : xs[k] = y at *
      go_wp2
      go_roundw
      case rel => exact ⟨k + 1, by omega, by go_num, by rw [HC.out], e1, rfl⟩
      case measure => simp [intOf]; omega
    · obtain rfl : k = xs.length := by omega
      rw [List.take_length, hFx]
      clear hlt hk h hn hFx
      have hbig : F.length ≤ 127 ∨ (128 ≤ F.length ∧ F.length ≤ 255) ∨ (256 ≤ F.length ∧ F.length ≤ 65535) ∨ (65536 ≤ F.length ∧ F.length ≤ 131072) ∨ 131072 < F.length := by omega
      have b0 : ((Tl.b8 tag.toNat).toNat : Int) = tag := by rw [Tl.b8_int]; omega
      have b1 : ((Tl.b8 F.length).toNat : Int) = (F.length : Int) % 256 := Tl.b8_int _
      have b2 : ((Tl.b8 (F.length / 256)).toNat : Int) = (F.length : Int) / 256 % 256 := by rw [Tl.b8_int]; rfl
      have b3 : ((Tl.b8 (F.length / 65536)).toNat : Int) = (F.length : Int) / 65536 % 256 := by rw [Tl.b8_int]; rfl
      have HW : ∀ l : List UInt8, (¬ 131072 < F.length) → l ++ F = Tl.elem tag.toNat F → (Value.tuple #[.string (⟨l.toArray⟩ ++ ⟨F.toArray⟩), .int .i64 0]) = wrapV tag F := fun l hq hl => by rw [wrapV, if_neg hq, By.bytes_cat, hl]
      have hbase : w.heap.size ≤ e1.out.heap.size := e1.bel.size
      rcases hbig with q | ⟨q, q'⟩ | ⟨q, q'⟩ | ⟨q, q'⟩ | q
      · have u0 : decide (131072 < (F.length : Int)) = false := by simp; omega
        have u1 : decide (65536 ≤ (F.length : Int)) = false := by simp; omega
        have u2 : decide (256 ≤ (F.length : Int)) = false := by simp; omega
        have u3 : decide (128 ≤ (F.length : Int)) = false := by simp; omega
        have hcv := By.back_self e1.out #[.int .u8 tag, .int .u8 (F.length : Int)] [Tl.b8 tag.toNat, Tl.b8 F.length] (e1.out.heap.size) 2 (by simp [By.byteV, b0, b1, b2, b3]; try omega) (by simp) rfl (by omega)
        have HE := HW [Tl.b8 tag.toNat, Tl.b8 F.length] (by omega) (by rw [Tl.elem, Tl.lenB_1 _ (by omega)]; rfl)
        have g1 : ¬ 9223372036854775807 < 2 + F.length := by omega
        have HBel : Below w.heap.size w (e1.out.alloc (.cells #[.int .u8 tag, .int .u8 (F.length : Int)] 5)) := e1.bel.alloc hbase _
        have HE' := Lib.hid HE
        clear HE b0 b1 b2 b3 HW
        go_wp2
        refine bodyPost_ret (v := .tuple #[.string ((⟨([Tl.b8 tag.toNat, Tl.b8 F.length] : List UInt8).toArray⟩ : ByteArray) ++ ⟨F.toArray⟩), .int .i64 0]) (by simp [results, Try.results14, go_sem]) rfl ⟨?_, HBel⟩
        rw [HE'.out]
      · have u0 : decide (131072 < (F.length : Int)) = false := by simp; omega
        have u1 : decide (65536 ≤ (F.length : Int)) = false := by simp; omega
        have u2 : decide (256 ≤ (F.length : Int)) = false := by simp; omega
        have u3 : decide (128 ≤ (F.length : Int)) = true := by simp; omega
        have hcv := By.back_self (e1.out.alloc (.cells #[.int .u8 tag, .int .u8 (F.length : Int)] 5)) #[.int .u8 tag, .int .u8 129, .int .u8 (F.length : Int)] [Tl.b8 tag.toNat, 129, Tl.b8 F.length] (e1.out.heap.size + 1) 3 (by simp [By.byteV, b0, b1, b2, b3]; try omega) (by simp) rfl (by omega)
        have HE := HW [Tl.b8 tag.toNat, 129, Tl.b8 F.length] (by omega) (by rw [Tl.elem, Tl.lenB_2 _ q (by omega)]; rfl)
        have g1 : ¬ 9223372036854775807 < 3 + F.length := by omega
        have HBel : Below w.heap.size w ((e1.out.alloc (.cells #[.int .u8 tag, .int .u8 (F.length : Int)] 5)).alloc (.cells #[.int .u8 tag, .int .u8 129, .int .u8 (F.length : Int)] 5)) := (e1.bel.alloc hbase _).alloc (by simp; omega) _
        have HE' := Lib.hid HE
        clear HE b0 b1 b2 b3 HW
        go_wp2
        refine bodyPost_ret (v := .tuple #[.string ((⟨([Tl.b8 tag.toNat, 129, Tl.b8 F.length] : List UInt8).toArray⟩ : ByteArray) ++ ⟨F.toArray⟩), .int .i64 0]) (by simp [results, Try.results14, go_sem]) rfl ⟨?_, HBel⟩
        rw [HE'.out]
      · have u0 : decide (131072 < (F.length : Int)) = false := by simp; omega
        have u1 : decide (65536 ≤ (F.length : Int)) = false := by simp; omega
        have u2 : decide (256 ≤ (F.length : Int)) = true := by simp; omega
        have hcv := By.back_self (e1.out.alloc (.cells #[.int .u8 tag, .int .u8 ((F.length : Int) % 256)] 5)) #[.int .u8 tag, .int .u8 130, .int .u8 ((F.length : Int) / 256), .int .u8 ((F.length : Int) % 256)] [Tl.b8 tag.toNat, 130, Tl.b8 (F.length / 256), Tl.b8 F.length] (e1.out.heap.size + 1) 4 (by simp [By.byteV, b0, b1, b2, b3]; try omega) (by simp) rfl (by omega)
        have HE := HW [Tl.b8 tag.toNat, 130, Tl.b8 (F.length / 256), Tl.b8 F.length] (by omega) (by rw [Tl.elem, Tl.lenB_3 _ q (by omega)]; rfl)
        have g1 : ¬ 9223372036854775807 < 4 + F.length := by omega
        have HBel : Below w.heap.size w ((e1.out.alloc (.cells #[.int .u8 tag, .int .u8 ((F.length : Int) % 256)] 5)).alloc (.cells #[.int .u8 tag, .int .u8 130, .int .u8 ((F.length : Int) / 256), .int .u8 ((F.length : Int) % 256)] 5)) := (e1.bel.alloc hbase _).alloc (by simp; omega) _
        have HE' := Lib.hid HE
        clear HE b0 b1 b2 b3 HW
        go_wp2
        refine bodyPost_ret (v := .tuple #[.string ((⟨([Tl.b8 tag.toNat, 130, Tl.b8 (F.length / 256), Tl.b8 F.length] : List UInt8).toArray⟩ : ByteArray) ++ ⟨F.toArray⟩), .int .i64 0]) (by simp [results, Try.results14, go_sem]) rfl ⟨?_, HBel⟩
        rw [HE'.out]
      · have u0 : decide (131072 < (F.length : Int)) = false := by simp; omega
        have u1 : decide (65536 ≤ (F.length : Int)) = true := by simp; omega
        have hcv := By.back_self (e1.out.alloc (.cells #[.int .u8 tag, .int .u8 ((F.length : Int) % 256)] 5)) #[.int .u8 tag, .int .u8 131, .int .u8 ((F.length : Int) / 65536), .int .u8 ((F.length : Int) / 256 % 256), .int .u8 ((F.length : Int) % 256)] [Tl.b8 tag.toNat, 131, Tl.b8 (F.length / 65536), Tl.b8 (F.length / 256), Tl.b8 F.length] (e1.out.heap.size + 1) 5 (by simp [By.byteV, b0, b1, b2, b3]; try omega) (by simp) rfl (by omega)
        have HE := HW [Tl.b8 tag.toNat, 131, Tl.b8 (F.length / 65536), Tl.b8 (F.length / 256), Tl.b8 F.length] (by omega) (by rw [Tl.elem, Tl.lenB_4 _ q]; rfl)
        have g1 : ¬ 9223372036854775807 < 5 + F.length := by omega
        have HBel : Below w.heap.size w ((e1.out.alloc (.cells #[.int .u8 tag, .int .u8 ((F.length : Int) % 256)] 5)).alloc (.cells #[.int .u8 tag, .int .u8 131, .int .u8 ((F.length : Int) / 65536), .int .u8 ((F.length : Int) / 256 % 256), .int .u8 ((F.length : Int) % 256)] 5)) := (e1.bel.alloc hbase _).alloc (by simp; omega) _
        have HE' := Lib.hid HE
        clear HE b0 b1 b2 b3 HW
        go_wp2
        refine bodyPost_ret (v := .tuple #[.string ((⟨([Tl.b8 tag.toNat, 131, Tl.b8 (F.length / 65536), Tl.b8 (F.length / 256), Tl.b8 F.length] : List UInt8).toArray⟩ : ByteArray) ++ ⟨F.toArray⟩), .int .i64 0]) (by simp [results, Try.results14, go_sem]) rfl ⟨?_, HBel⟩
        rw [HE'.out]
      · have u1 : decide (131072 < (F.length : Int)) = true := by simp; omega
        have HE : (Value.tuple #[.string ⟨#[]⟩, .int .i64 6]) = wrapV tag F := by rw [wrapV, if_pos q]
        have HE' := Lib.hid HE
        clear HE b0 b1 b2 b3 HW
        go_wp2
        refine bodyPost_ret (v := .tuple #[.string ⟨#[]⟩, .int .i64 6]) (by simp [results, Try.results14, go_sem]) rfl ⟨?_, e1.bel⟩
        rw [HE'.out]

theorem rwrap_none (tag : Int) (a : Option Addr) (c : Nat) (w : World) (h0 : 0 ≤ tag) (h1 : tag ≤ 255) (h2 : tag % 32 ≠ 31) :
    Calls Try.prog 14 #[.int .i64 tag, .slice a 0 c] w fun e w' => e = .returned (wrapV tag []) ∧ Below w.heap.size w w' := by
  have t1 : decide (tag < 0) = false := by simp; omega
  have t2 : decide (255 < tag) = false := by simp; omega
  have t3 : (tag % 32 == 31) = false := by simp [h2]
  have b0 : ((Tl.b8 tag.toNat).toNat : Int) = tag := by rw [Tl.b8_int]; omega
  have hcv := By.back_self w #[.int .u8 tag, .int .u8 0] [Tl.b8 tag.toNat, 0] w.heap.size 2 (by simp [By.byteV, b0]) rfl rfl (by omega)
  have HE : (Value.tuple #[.string ((⟨[Tl.b8 tag.toNat, 0].toArray⟩ : ByteArray) ++ ⟨#[]⟩), .int .i64 0]) = wrapV tag [] := by
    rw [wrapV, if_neg (by simp), Tl.elem, Tl.lenB_1 _ (by simp)]; congr 2
  have HE' := Lib.hid HE
  have HBel : Below w.heap.size w (w.alloc (.cells #[.int .u8 tag, .int .u8 0] 5)) := (Below.refl _ _).alloc (Nat.le_refl _) _
  clear h2 HE b0
  go_enter Try.func14, Try.ntmps14
  go_wp2
  go_loopw [6, 24] (fun s i wr => i = .int .i64 0 ∧ s = .string ⟨#[]⟩ ∧ wr = w) (fun _ i _ => 0)
  case atStart => exact ⟨rfl, rfl, rfl⟩
  case round =>
    obtain ⟨rfl, rfl, rfl⟩ := hrel
    go_wp2
    refine bodyPost_ret (v := .tuple #[.string ((⟨[Tl.b8 tag.toNat, 0].toArray⟩ : ByteArray) ++ ⟨#[]⟩), .int .i64 0]) (by simp [results, Try.results14, go_sem]) rfl ⟨?_, HBel⟩
    rw [HE'.out]

/-- what Wrap returns -/
def wrapR (tag : Int) (l : List UInt8) : Value := if tag < 0 ∨ 255 < tag ∨ tag % 32 = 31 then .tuple #[.string ⟨#[]⟩, .int .i64 5] else wrapV tag l
theorem rwrap_bad (tag : Int) (v : Value) (w : World) (h : tag < 0 ∨ 255 < tag ∨ tag % 32 = 31) :
    Calls Try.prog 14 #[.int .i64 tag, v] w fun e w' => e = .returned (.tuple #[.string ⟨#[]⟩, .int .i64 5]) ∧ Below w.heap.size w w' := by
  have hB := Below.refl w.heap.size w
  by_cases h0 : tag < 0
  · have t1 : decide (tag < 0) = true := by simp; omega
    clear h h0
    go_enter Try.func14, Try.ntmps14
    go_wp2
    go_ret2
    exact ⟨rfl, hB⟩
  · have t1 : decide (tag < 0) = false := by simp; omega
    by_cases h1 : 255 < tag
    · have t2 : decide (255 < tag) = true := by simp; omega
      clear h h0 h1
      go_enter Try.func14, Try.ntmps14
      go_wp2
      go_ret2
      exact ⟨rfl, hB⟩
    · have t2 : decide (255 < tag) = false := by simp; omega
      have t3 : (tag % 32 == 31) = true := by simp; omega
      have h0' : 0 ≤ tag := by omega
      clear h h0 h1
      go_enter Try.func14, Try.ntmps14
      go_wp2
      go_ret2
      exact ⟨rfl, hB⟩

theorem rwrap_any (tag : Int) (v : Value) (xs : List ByteArray) (w : World) (h : Strs w v xs) (hN : xs.length ≤ 1000000) (hs : (Tl.flat xs).length ≤ 1000000) :
    Calls Try.prog 14 #[.int .i64 tag, v] w fun e w' => e = .returned (wrapR tag (Tl.flat xs)) ∧ Below w.heap.size w w' := by
  by_cases ht : tag < 0 ∨ 255 < tag ∨ tag % 32 = 31
  · rw [wrapR, if_pos ht]; exact rwrap_bad tag v w ht
  · rw [wrapR, if_neg ht]
    cases h with
    | none a c => exact rwrap_none tag a c w (by omega) (by omega) (by omega)
    | some bk o c x xs hb hc hn h => exact rwrap_some tag bk o c (x :: xs) w (by omega) (by omega) (by omega) hb hN hs h

end Go.Proofs.Ytmmoimemfdbfgaa
