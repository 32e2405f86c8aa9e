/-
  The contract of tlv.Wrap.
-/
import Derived.Test.YtmmoimemfdbfgaaShelf
import Derived.Test.YtmmoimemfdbfgaaTlvRWrap
namespace Go.Proofs.Ytmmoimemfdbfgaa
open Go.RowKit

theorem and31_all : (List.range 256).all (fun n => (bits .and .i64 (n : Int) 31 == 31) == (n % 32 == 31)) = true := by kernel_rfl
theorem and31 (tag : Int) (h0 : 0 ≤ tag) (h1 : tag ≤ 255) : (bits .and .i64 tag 31 == 31) = (tag % 32 == 31) := by
  obtain ⟨n, rfl⟩ : ∃ n : Nat, tag = n := ⟨tag.toNat, by omega⟩
  have := List.all_eq_true.1 and31_all n (by simp; omega)
  rw [beq_iff_eq] at this
  rw [this, Bool.eq_iff_iff]; simp; omega

theorem inter_nil : ∀ L : List (List UInt8), List.intercalate [] L = L.flatten
  | [] => rfl
  | [x] => by simp [List.intercalate]
  | x :: y :: L => by
    have ih := inter_nil (y :: L)
    simp only [List.intercalate] at ih ⊢
    rw [List.intersperse, List.flatten_cons, List.flatten_cons, ih]
    · simp
    · simp
theorem join_empty (xs : List ByteArray) : Lib.join (xs.map (·.data.toList)) [] = Tl.flat xs := by
  show List.intercalate [] _ = _
  rw [inter_nil]; rfl

theorem cells_of (l : List Value) (w : World) : ∀ (j : Nat) u, l[j]? = some u → (w.alloc (.cells l.toArray 5)).cell? ((⟨w.heap.size, 0, none⟩ : Addr).add j) = some u := by
  intro j u hj
  have e : (⟨w.heap.size, 0, none⟩ : Addr).add j = ⟨w.heap.size, j, none⟩ := by
    unfold Addr.add; split
    · simp [*]
    · simp
  rw [e, World.cell?_alloc_at _ _ _ _ rfl]
  simpa using hj

set_option maxHeartbeats 1000000 in
set_option maxRecDepth 10000 in
set_option linter.unusedSimpArgs false in
theorem wrap_some (tag : Int) (bk o c : Nat) (xs : List ByteArray) (w : World) (h0 : 0 ≤ tag) (h1 : tag ≤ 255) (h2 : tag % 32 ≠ 31)
    (hb : bk < w.heap.size) (hn : xs.length ≤ 1000000) (hc : xs.length ≤ c) (hs : (Tl.flat xs).length ≤ 1000000) (h : ∀ (j : Nat) y, xs[j]? = some y → w.cell? ⟨bk, o + j, none⟩ = some (.string y)) :
    Calls Try.prog 13 #[.int .i64 tag, .slice (some ⟨bk, o, none⟩) xs.length c] w fun e w' => e = .returned (wrapV tag (Tl.flat xs)) ∧ Below w.heap.size w w' := by
  generalize hFx : Tl.flat xs = F at *
  have HFX := Lib.hid hFx
  have t1 : decide (tag < 0) = false := by simp; omega
  have t2 : decide (255 < tag) = false := by simp; omega
  have t3 : (bits .and .i64 tag 31 == 31) = false := by rw [and31 tag h0 h1]; simp [h2]
  clear h2
  go_enter Try.func13, Try.ntmps13
  go_wp2
  go_loop [6, 23] (fun s i => ∃ k : Nat, k ≤ xs.length ∧ i = .int .i64 k ∧ s = .int .i64 (Tl.flat (xs.take k)).length ∧ (Tl.flat (xs.take k)).length ≤ 131072) (fun _ i => xs.length - (intOf i).toNat)
  case atStart => exact ⟨0, by omega, rfl, rfl, by simp [Tl.flat]⟩
  case round =>
    obtain ⟨k, hk, rfl, rfl, hle0⟩ := hrel
    by_cases hlt : k < xs.length
    · have hx := h k xs[k] (by simp [hlt])
      have hf := Tl.flat_take xs k hlt
      have hle := Tl.flat_le xs (k + 1)
      rw [HFX.out] at hle
      have hsz : (Tl.flat (xs.take (k + 1))).length = (Tl.flat (xs.take k)).length + xs[k].size := by rw [hf]; simp
      have hsz' : ((Tl.flat (xs.take (k + 1))).length : Int) = (Tl.flat (xs.take k)).length + xs[k].size := by omega
      have HS := Lib.hid hsz
      have HS' := Lib.hid hsz'
      clear hf hFx hsz hsz'
      generalize hy : xs[k] = y at *
      by_cases hg : 131072 < (Tl.flat (xs.take k)).length + y.size
      · have hbig : 131072 < F.length := by have := HS.out; omega
        have u1 : decide (131072 - ((Tl.flat (xs.take k)).length : Int) < (y.size : Int)) = true := by simp; omega
        have HE : (Value.tuple #[.string ⟨#[]⟩, .int .i64 6]) = wrapV tag F := by rw [wrapV, if_pos hbig]
        have HE' := Lib.hid HE
        have hB := Below.refl w.heap.size w
        clear HE hle
        generalize (Tl.flat (xs.take k)).length = N at *
        go_wp2
        refine bodyPost_ret (v := .tuple #[.string ⟨#[]⟩, .int .i64 6]) (by simp [results, Try.results13, go_sem]) rfl ⟨?_, hB⟩
        rw [HE'.out]
      · have u1 : decide (131072 - ((Tl.flat (xs.take k)).length : Int) < (y.size : Int)) = false := by simp; omega
        have hle1 : (Tl.flat (xs.take k)).length + y.size ≤ 131072 := by omega
        clear hle hg
        go_wp2
        go_round
        case rel => exact ⟨k + 1, by omega, by go_num, by rw [HS'.out], by rw [HS.out]; exact hle1⟩
        case measure => simp [intOf]; omega
    · obtain rfl : k = xs.length := by omega
      rw [List.take_length, hFx] at hle0 ⊢
      clear hlt hk hFx
      have b0 : ((Tl.b8 tag.toNat).toNat : Int) = tag := by rw [Tl.b8_int]; omega
      have b1 : ((Tl.b8 F.length).toNat : Int) = (F.length : Int) % 256 := Tl.b8_int _
      have b2 : ((Tl.b8 (F.length / 256)).toNat : Int) = (F.length : Int) / 256 % 256 := by rw [Tl.b8_int]; rfl
      have b3 : ((Tl.b8 (F.length / 65536)).toNat : Int) = (F.length : Int) / 65536 % 256 := by rw [Tl.b8_int]; rfl
      have HW : ∀ l : List UInt8, l ++ F = Tl.elem tag.toNat F → (Value.tuple #[.string (⟨l.toArray⟩ ++ ⟨F.toArray⟩), .int .i64 0]) = wrapV tag F := fun l hl => by rw [wrapV, if_neg (by omega), By.bytes_cat, hl]
      have hown1 : (w.alloc (.cells #[.int .u8 tag] 5)).ownsRow w.heap.size 5 1 (.slice (some ⟨w.heap.size, 0, none⟩) 1 1) 1 [.int .u8 tag] := by
        have := By.OwnB.made w #[.int .u8 tag] [Tl.b8 tag.toNat] 1 (by simp [By.byteV, b0]) rfl (by omega)
        simpa [By.OwnB, By.byteV, b0] using this
      obtain ⟨i0, hi, hz0, hz1, hz2⟩ := info_parts By.info_u8
      have hJ : ∀ (W : World) (_ : Below w.heap.size w W) (e : Ext W), Calls Try.prog 27 #[.slice (some ⟨bk, o, none⟩) xs.length c, .string ⟨#[]⟩] e.out fun r w' => r = .returned (.string ⟨F.toArray⟩) ∧ Below e.out.heap.size e.out w' := by
        intro W hW e
        have hlt : bk < W.heap.size := Nat.lt_of_lt_of_le hb hW.size
        have hk := Try.strings_Join bk o c xs ⟨#[]⟩ e.out (fun j y hj => by rw [e.cell hlt, hW.cell (p := ⟨bk, o + j, none⟩) hb]; exact h j y hj) (Nat.lt_of_lt_of_le hlt e.bel.size) (by omega) hc
          (by show (Lib.join _ []).length ≤ _; rw [join_empty, HFX.out]; omega)
        have e0 : Lib.join (xs.map (·.data.toList)) (⟨#[]⟩ : ByteArray).data.toList = F := by show Lib.join _ [] = _; rw [join_empty, HFX.out]
        rw [e0] at hk
        exact hk
      have HJ := Lib.hid hJ
      have H1 := Lib.hid hown1
      clear hJ hown1
      have hbig : F.length ≤ 127 ∨ (128 ≤ F.length ∧ F.length ≤ 255) ∨ (256 ≤ F.length ∧ F.length ≤ 65535) ∨ 65536 ≤ F.length := by omega
      rcases hbig with q | ⟨q, q'⟩ | ⟨q, q'⟩ | q
      · have u0 : decide ((F.length : Int) < 128) = true := by simp; omega
        have HE := HW [Tl.b8 tag.toNat, Tl.b8 F.length] (by rw [Tl.elem, Tl.lenB_1 _ (by omega)]; rfl)
        have HE' := Lib.hid HE
        have HC := cells_of [.int .u8 (F.length : Int)] (w.alloc (.cells #[.int .u8 tag] 5))
        have g1 : ¬ 9223372036854775807 < 2 + F.length := by omega
        clear HE HW
        go_wp2_with (at_builtin; refine wpList_append_lies _ rfl _ _ _ rfl w.heap.size 5 i0 (.int .u8 0) 1 1 Try.underlying30 hi hz0 hz1 hz2 rfl (by decide) _ _ _ rfl (H1.out.alloc _) ⟨w.heap.size + 1, 0, none⟩ 1 1 [.int .u8 (F.length : Int)] rfl rfl (by have := HC; simpa using this) (by intro u hu; simp at hu; rcases hu with rfl | rfl | rfl | rfl <;> rfl) (by decide) (by unfold maxLen; omega) (by omega) (by simp; omega) (w.heap.size + 2) (by simp) ?_)
        intro g cap w3 hown3 hgrow hat hlt3
        have b1' : ((Tl.b8 F.length).toNat : Int) = (F.length : Int) := by rw [b1]; try omega
        have hO : By.OwnB w3 w.heap.size (.slice (some ⟨g, 0, none⟩) 2 cap) [Tl.b8 tag.toNat, Tl.b8 F.length] := by
          have := hown3
          simpa [By.OwnB, By.byteV, b0, b1'] using this
        have hB3 : Below w.heap.size w w3 := By.below_grown (((Below.refl _ _).alloc (Nat.le_refl _) _).alloc (by simp) _) hgrow (Nat.le_refl _)
        have hcv := fun e : Ext w3 => By.bytes_back (hO.ext e.bel) rfl
        have hJ3 := HJ.out w3 hB3
        clear hown3 hgrow hat hlt3 hO b0 b1 b2 b3 b1'
        go_wp2_with fail
        refine wp_region_self (by kernel_rfl) (by kernel_rfl) ?_
        repeat (go_big_quiet_step (fail))
        go_big_quiet_step ((go_at_call 27; exact ext_of (hJ3 _)))
        repeat (go_big_quiet_step (fail))
        refine wpQuiet_nil ?_
        rintro _ ⟨e1, rfl⟩
        go_wp2
        refine bodyPost_ret (v := .tuple #[.string ((⟨([Tl.b8 tag.toNat, Tl.b8 F.length] : List UInt8).toArray⟩ : ByteArray) ++ ⟨F.toArray⟩), .int .i64 0]) (by simp [results, Try.results13, go_sem]) rfl ⟨?_, hB3.trans (e1.bel.mono hB3.size)⟩
        rw [HE'.out]
      · have u0 : decide ((F.length : Int) < 128) = false := by simp; omega
        have u1 : decide ((F.length : Int) < 256) = true := by simp; omega
        have HE := HW [Tl.b8 tag.toNat, 129, Tl.b8 F.length] (by rw [Tl.elem, Tl.lenB_2 _ q (by omega)]; rfl)
        have HE' := Lib.hid HE
        have HC := cells_of [.int .u8 129, .int .u8 (F.length : Int)] (w.alloc (.cells #[.int .u8 tag] 5))
        have g1 : ¬ 9223372036854775807 < 3 + F.length := by omega
        clear HE HW
        go_wp2_with (at_builtin; refine wpList_append_lies _ rfl _ _ _ rfl w.heap.size 5 i0 (.int .u8 0) 1 1 Try.underlying30 hi hz0 hz1 hz2 rfl (by decide) _ _ _ rfl (H1.out.alloc _) ⟨w.heap.size + 1, 0, none⟩ 2 2 [.int .u8 129, .int .u8 (F.length : Int)] rfl rfl (by have := HC; simpa using this) (by intro u hu; simp at hu; rcases hu with rfl | rfl | rfl | rfl <;> rfl) (by decide) (by unfold maxLen; omega) (by omega) (by simp; omega) (w.heap.size + 2) (by simp) ?_)
        intro g cap w3 hown3 hgrow hat hlt3
        have b1' : ((Tl.b8 F.length).toNat : Int) = (F.length : Int) := by rw [b1]; try omega
        have hO : By.OwnB w3 w.heap.size (.slice (some ⟨g, 0, none⟩) 3 cap) [Tl.b8 tag.toNat, 129, Tl.b8 F.length] := by
          have := hown3
          simpa [By.OwnB, By.byteV, b0, b1'] using this
        have hB3 : Below w.heap.size w w3 := By.below_grown (((Below.refl _ _).alloc (Nat.le_refl _) _).alloc (by simp) _) hgrow (Nat.le_refl _)
        have hcv := fun e : Ext w3 => By.bytes_back (hO.ext e.bel) rfl
        have hJ3 := HJ.out w3 hB3
        clear hown3 hgrow hat hlt3 hO b0 b1 b2 b3 b1'
        go_wp2_with fail
        refine wp_region_self (by kernel_rfl) (by kernel_rfl) ?_
        repeat (go_big_quiet_step (fail))
        go_big_quiet_step ((go_at_call 27; exact ext_of (hJ3 _)))
        repeat (go_big_quiet_step (fail))
        refine wpQuiet_nil ?_
        rintro _ ⟨e1, rfl⟩
        go_wp2
        refine bodyPost_ret (v := .tuple #[.string ((⟨([Tl.b8 tag.toNat, 129, Tl.b8 F.length] : List UInt8).toArray⟩ : ByteArray) ++ ⟨F.toArray⟩), .int .i64 0]) (by simp [results, Try.results13, go_sem]) rfl ⟨?_, hB3.trans (e1.bel.mono hB3.size)⟩
        rw [HE'.out]
      · have u0 : decide ((F.length : Int) < 128) = false := by simp; omega
        have u1 : decide ((F.length : Int) < 256) = false := by simp; omega
        have u2 : decide ((F.length : Int) < 65536) = true := by simp; omega
        have HE := HW [Tl.b8 tag.toNat, 130, Tl.b8 (F.length / 256), Tl.b8 F.length] (by rw [Tl.elem, Tl.lenB_3 _ q (by omega)]; rfl)
        have HE' := Lib.hid HE
        have HC := cells_of [.int .u8 130, .int .u8 ((F.length : Int) / 256), .int .u8 ((F.length : Int) % 256)] (w.alloc (.cells #[.int .u8 tag] 5))
        have g1 : ¬ 9223372036854775807 < 4 + F.length := by omega
        clear HE HW
        go_wp2_with (at_builtin; refine wpList_append_lies _ rfl _ _ _ rfl w.heap.size 5 i0 (.int .u8 0) 1 1 Try.underlying30 hi hz0 hz1 hz2 rfl (by decide) _ _ _ rfl (H1.out.alloc _) ⟨w.heap.size + 1, 0, none⟩ 3 3 [.int .u8 130, .int .u8 ((F.length : Int) / 256), .int .u8 ((F.length : Int) % 256)] rfl rfl (by have := HC; simpa using this) (by intro u hu; simp at hu; rcases hu with rfl | rfl | rfl | rfl <;> rfl) (by decide) (by unfold maxLen; omega) (by omega) (by simp; omega) (w.heap.size + 2) (by simp) ?_)
        intro g cap w3 hown3 hgrow hat hlt3
        have b1' : ((Tl.b8 F.length).toNat : Int) = (F.length : Int) % 256 := by rw [b1]; try omega
        have b2' : ((Tl.b8 (F.length / 256)).toNat : Int) = (F.length : Int) / 256 := by rw [b2]; try omega
        have hO : By.OwnB w3 w.heap.size (.slice (some ⟨g, 0, none⟩) 4 cap) [Tl.b8 tag.toNat, 130, Tl.b8 (F.length / 256), Tl.b8 F.length] := by
          have := hown3
          simpa [By.OwnB, By.byteV, b0, b1', b2'] using this
        have hB3 : Below w.heap.size w w3 := By.below_grown (((Below.refl _ _).alloc (Nat.le_refl _) _).alloc (by simp) _) hgrow (Nat.le_refl _)
        have hcv := fun e : Ext w3 => By.bytes_back (hO.ext e.bel) rfl
        have hJ3 := HJ.out w3 hB3
        clear hown3 hgrow hat hlt3 hO b0 b1 b2 b3 b1' b2'
        go_wp2_with fail
        refine wp_region_self (by kernel_rfl) (by kernel_rfl) ?_
        repeat (go_big_quiet_step (fail))
        go_big_quiet_step ((go_at_call 27; exact ext_of (hJ3 _)))
        repeat (go_big_quiet_step (fail))
        refine wpQuiet_nil ?_
        rintro _ ⟨e1, rfl⟩
        go_wp2
        refine bodyPost_ret (v := .tuple #[.string ((⟨([Tl.b8 tag.toNat, 130, Tl.b8 (F.length / 256), Tl.b8 F.length] : List UInt8).toArray⟩ : ByteArray) ++ ⟨F.toArray⟩), .int .i64 0]) (by simp [results, Try.results13, go_sem]) rfl ⟨?_, hB3.trans (e1.bel.mono hB3.size)⟩
        rw [HE'.out]
      · have u0 : decide ((F.length : Int) < 128) = false := by simp; omega
        have u1 : decide ((F.length : Int) < 256) = false := by simp; omega
        have u2 : decide ((F.length : Int) < 65536) = false := by simp; omega
        have HE := HW [Tl.b8 tag.toNat, 131, Tl.b8 (F.length / 65536), Tl.b8 (F.length / 256), Tl.b8 F.length] (by rw [Tl.elem, Tl.lenB_4 _ q]; rfl)
        have HE' := Lib.hid HE
        have HC := cells_of [.int .u8 131, .int .u8 ((F.length : Int) / 65536), .int .u8 ((F.length : Int) / 256 % 256), .int .u8 ((F.length : Int) % 256)] (w.alloc (.cells #[.int .u8 tag] 5))
        have g1 : ¬ 9223372036854775807 < 5 + F.length := by omega
        clear HE HW
        go_wp2_with (at_builtin; refine wpList_append_lies _ rfl _ _ _ rfl w.heap.size 5 i0 (.int .u8 0) 1 1 Try.underlying30 hi hz0 hz1 hz2 rfl (by decide) _ _ _ rfl (H1.out.alloc _) ⟨w.heap.size + 1, 0, none⟩ 4 4 [.int .u8 131, .int .u8 ((F.length : Int) / 65536), .int .u8 ((F.length : Int) / 256 % 256), .int .u8 ((F.length : Int) % 256)] rfl rfl (by have := HC; simpa using this) (by intro u hu; simp at hu; rcases hu with rfl | rfl | rfl | rfl <;> rfl) (by decide) (by unfold maxLen; omega) (by omega) (by simp; omega) (w.heap.size + 2) (by simp) ?_)
        intro g cap w3 hown3 hgrow hat hlt3
        have b1' : ((Tl.b8 F.length).toNat : Int) = (F.length : Int) % 256 := by rw [b1]; try omega
        have b2' : ((Tl.b8 (F.length / 256)).toNat : Int) = (F.length : Int) / 256 % 256 := by rw [b2]; try omega
        have b3' : ((Tl.b8 (F.length / 65536)).toNat : Int) = (F.length : Int) / 65536 := by rw [b3]; try omega
        have hO : By.OwnB w3 w.heap.size (.slice (some ⟨g, 0, none⟩) 5 cap) [Tl.b8 tag.toNat, 131, Tl.b8 (F.length / 65536), Tl.b8 (F.length / 256), Tl.b8 F.length] := by
          have := hown3
          simpa [By.OwnB, By.byteV, b0, b1', b2', b3'] using this
        have hB3 : Below w.heap.size w w3 := By.below_grown (((Below.refl _ _).alloc (Nat.le_refl _) _).alloc (by simp) _) hgrow (Nat.le_refl _)
        have hcv := fun e : Ext w3 => By.bytes_back (hO.ext e.bel) rfl
        have hJ3 := HJ.out w3 hB3
        clear hown3 hgrow hat hlt3 hO b0 b1 b2 b3 b1' b2' b3'
        go_wp2_with fail
        refine wp_region_self (by kernel_rfl) (by kernel_rfl) ?_
        repeat (go_big_quiet_step (fail))
        go_big_quiet_step ((go_at_call 27; exact ext_of (hJ3 _)))
        repeat (go_big_quiet_step (fail))
        refine wpQuiet_nil ?_
        rintro _ ⟨e1, rfl⟩
        go_wp2
        refine bodyPost_ret (v := .tuple #[.string ((⟨([Tl.b8 tag.toNat, 131, Tl.b8 (F.length / 65536), Tl.b8 (F.length / 256), Tl.b8 F.length] : List UInt8).toArray⟩ : ByteArray) ++ ⟨F.toArray⟩), .int .i64 0]) (by simp [results, Try.results13, go_sem]) rfl ⟨?_, hB3.trans (e1.bel.mono hB3.size)⟩
        rw [HE'.out]

set_option maxRecDepth 10000 in
theorem wrap_none (tag : Int) (a : Option Addr) (c : Nat) (w : World) (h0 : 0 ≤ tag) (h1 : tag ≤ 255) (h2 : tag % 32 ≠ 31) :
    Calls Try.prog 13 #[.int .i64 tag, .slice a 0 c] w fun e w' => e = .returned (wrapV tag []) ∧ Below w.heap.size w w' := by
  have t1 : decide (tag < 0) = false := by simp; omega
  have t2 : decide (255 < tag) = false := by simp; omega
  have t3 : (bits .and .i64 tag 31 == 31) = false := by rw [and31 tag h0 h1]; simp [h2]
  have b0 : ((Tl.b8 tag.toNat).toNat : Int) = tag := by rw [Tl.b8_int]; omega
  have HE : (Value.tuple #[.string ((⟨[Tl.b8 tag.toNat, 0].toArray⟩ : ByteArray) ++ ⟨#[]⟩), .int .i64 0]) = wrapV tag [] := by
    rw [wrapV, if_neg (by simp), Tl.elem, Tl.lenB_1 _ (by simp)]; congr 2
  have HE' := Lib.hid HE
  have hown1 : (w.alloc (.cells #[.int .u8 tag] 5)).ownsRow w.heap.size 5 1 (.slice (some ⟨w.heap.size, 0, none⟩) 1 1) 1 [.int .u8 tag] := by
    have := By.OwnB.made w #[.int .u8 tag] [Tl.b8 tag.toNat] 1 (by simp [By.byteV, b0]) rfl (by omega)
    simpa [By.OwnB, By.byteV, b0] using this
  obtain ⟨i0, hi, hz0, hz1, hz2⟩ := info_parts By.info_u8
  have HC := cells_of [.int .u8 0] (w.alloc (.cells #[.int .u8 tag] 5))
  clear h2 HE
  go_enter Try.func13, Try.ntmps13
  go_wp2
  go_loop [6, 23] (fun s i => i = .int .i64 0 ∧ s = .int .i64 0) (fun _ i => 0)
  case atStart => exact ⟨rfl, rfl⟩
  case round =>
    obtain ⟨rfl, rfl⟩ := hrel
    go_wp2_with (at_builtin; refine wpList_append_lies _ rfl _ _ _ rfl w.heap.size 5 i0 (.int .u8 0) 1 1 Try.underlying30 hi hz0 hz1 hz2 rfl (by decide) _ _ _ rfl (hown1.alloc _) ⟨w.heap.size + 1, 0, none⟩ 1 1 [.int .u8 0] rfl rfl (by have := HC; simpa using this) (by intro u hu; simp at hu; subst hu; rfl) (by decide) (by unfold maxLen; omega) (by omega) (by simp; omega) (w.heap.size + 2) (by simp) ?_)
    intro g cap w3 hown3 hgrow hat hlt3
    have hO : By.OwnB w3 w.heap.size (.slice (some ⟨g, 0, none⟩) 2 cap) [Tl.b8 tag.toNat, 0] := by
      have := hown3
      simpa [By.OwnB, By.byteV, b0] using this
    have hB3 : Below w.heap.size w w3 := By.below_grown (((Below.refl _ _).alloc (Nat.le_refl _) _).alloc (by simp) _) hgrow (Nat.le_refl _)
    have hcv := fun e : Ext w3 => By.bytes_back (hO.ext e.bel) rfl
    have hJ3 : ∀ e : Ext w3, Calls Try.prog 27 #[.slice a 0 c, .string ⟨#[]⟩] e.out fun r w' => r = .returned (.string ⟨#[]⟩) ∧ e.out = w' := fun e => (Try.strings_Join_none a c ⟨#[]⟩ e.out).mono fun _ _ ⟨p, q⟩ => ⟨p, q.symm⟩
    clear hown3 hgrow hat hlt3 hO b0
    go_wp2_with fail
    refine wp_region_self (by kernel_rfl) (by kernel_rfl) ?_
    repeat (go_big_quiet_step (fail))
    go_big_quiet_step ((go_at_call 27; exact ext_of_same (hJ3 _)))
    repeat (go_big_quiet_step (fail))
    refine wpQuiet_nil ?_
    rintro _ ⟨e1, rfl⟩
    go_wp2
    refine bodyPost_ret (v := .tuple #[.string ((⟨([Tl.b8 tag.toNat, 0] : List UInt8).toArray⟩ : ByteArray) ++ ⟨#[]⟩), .int .i64 0]) (by simp [results, Try.results13, go_sem]) rfl ⟨?_, hB3.trans (e1.bel.mono hB3.size)⟩
    rw [HE'.out]

theorem wrap_bad (tag : Int) (v : Value) (w : World) (h : tag < 0 ∨ 255 < tag ∨ tag % 32 = 31) :
    Calls Try.prog 13 #[.int .i64 tag, v] w fun e w' => e = .returned (.tuple #[.string ⟨#[]⟩, .int .i64 5]) ∧ Below w.heap.size w w' := by
  have hB := Below.refl w.heap.size w
  by_cases h0 : tag < 0
  · have t1 : decide (tag < 0) = true := by simp; omega
    clear h h0
    go_enter Try.func13, Try.ntmps13
    go_wp2
    go_ret2
    exact ⟨rfl, hB⟩
  · have t1 : decide (tag < 0) = false := by simp; omega
    by_cases h1 : 255 < tag
    · have t2 : decide (255 < tag) = true := by simp; omega
      clear h h0 h1
      go_enter Try.func13, Try.ntmps13
      go_wp2
      go_ret2
      exact ⟨rfl, hB⟩
    · have t2 : decide (255 < tag) = false := by simp; omega
      have t3 : (bits .and .i64 tag 31 == 31) = true := by rw [and31 tag (by omega) (by omega)]; simp; omega
      clear h h0 h1
      go_enter Try.func13, Try.ntmps13
      go_wp2
      go_ret2
      exact ⟨rfl, hB⟩

theorem wrap_any (tag : Int) (v : Value) (xs : List ByteArray) (w : World) (h : Strs w v xs) (hN : xs.length ≤ 1000000) (hs : (Tl.flat xs).length ≤ 1000000) :
    Calls Try.prog 13 #[.int .i64 tag, v] w fun e w' => e = .returned (wrapR tag (Tl.flat xs)) ∧ Below w.heap.size w w' := by
  by_cases ht : tag < 0 ∨ 255 < tag ∨ tag % 32 = 31
  · rw [wrapR, if_pos ht]; exact wrap_bad tag v w ht
  · rw [wrapR, if_neg ht]
    cases h with
    | none a c => exact wrap_none tag a c w (by omega) (by omega) (by omega)
    | some bk o c x xs hb hc hn h => exact wrap_some tag bk o c (x :: xs) w (by omega) (by omega) (by omega) hb hN hc hs h

end Go.Proofs.Ytmmoimemfdbfgaa
