/-
  The walk of TlvHeads: it returns true.
-/
import Derived.Test.YtmmoimemfdbfgaaLawReadWalk
import Derived.Laws.OwnMore
import Derived.BigRegion
namespace Go.Proofs.Ytmmoimemfdbfgaa
open Go.RowKit
set_option linter.unusedSimpArgs false

/-- bytes written out, and the string of them -/
theorem lit_str (w0 : World) (zs : List Int) (V : Array Value) (n g : Nat) (hV : V.toList = zs.map (.int .u8)) (hn : zs.length = n) (hg : w0.heap.size = g) (h : ∀ z ∈ zs, 0 ≤ z ∧ z ≤ 255) (h0 : 0 < n) (h1 : n ≤ 100) :
    ∃ s : ByteArray, s.size = n ∧ ∀ W : World, Below (g + 1) (w0.alloc (.cells V 5)) W → (convert 30 9 (.slice (some ⟨g, 0, none⟩) n n)).run Try.prog W = .ok (.string s) W := by
  subst hn hg
  have hI : Ints (w0.alloc (.cells V 5)) .u8 (.slice (some ⟨w0.heap.size, 0, none⟩) zs.length zs.length) zs := by
    refine Ints.some w0.heap.size 0 zs.length zs (by simp) h0 (Nat.le_refl _) (by unfold maxLen; omega) ?_
    intro j y hj
    rw [World.cell?_alloc_at _ _ _ _ rfl, Nat.zero_add, ← Array.getElem?_toList, hV, List.getElem?_map, hj]
    rfl
  refine ⟨⟨(zs.map fun z => UInt8.ofNat z.toNat).toArray⟩, by rw [mk_size, List.length_map], fun W hW => ?_⟩
  exact convert_ints Try.underlying30 Try.underlying5 Try.underlying9 hI h W (by simpa using hW)

/-- so many zeros made, and the string of them -/
structure Zeros (w : World) (n : Nat) (x : Int) (W : World) (s : ByteArray) (v : Value) : Prop where
  run : (Instr.makeSlice 30 (.int .u16 x) (.int .u16 x)).run Try.prog w = .ok v W
  str : (convert 30 9 v).run Try.prog W = .ok (.string s) W
  size : s.size = n
  bel : Below w.heap.size w W
theorem zeros_made (w : World) (n : Nat) (x : Int) (hx : x = n) (hn : n ≤ 1000) : ∃ W s v, Zeros w n x W s v := by
  subst hx
  obtain ⟨i0, hi, hz0, hz1, hz2⟩ := info_parts By.info_u8
  obtain ⟨W, h1, h2, h3⟩ := run_makeSlice_full (w := w) (P := Try.prog) w.heap.size 30 5 i0 (.int .u8 0) 1 Try.underlying30 hi hz0 hz1 .u16 .u16 n (by omega) (by rw [hz2]; omega) (by unfold maxLen; omega) (Nat.le_refl _)
  have hb : Below w.heap.size w W := ⟨h3.os, h3.tape, h3.output, h3.size, fun k hk => h3.block k hk (by simp)⟩
  have e : (madeCells (Value.int IntKind.u8 0).cells (n * 1)).toList = (List.replicate n (0 : UInt8)).map By.byteV := by
    rw [show (Value.int IntKind.u8 0).cells = #[.int .u8 0] from rfl, toList_madeCells_one]; simp [By.byteV]
  rw [e] at h2
  refine ⟨W, ⟨(List.replicate n (0 : UInt8)).toArray⟩, _, h1, ?_, by rw [mk_size, List.length_replicate], hb⟩
  have := By.bytes_back (w := W) (B := w.heap.size) (g := w.heap.size) (cap := n) (N := n) (l := List.replicate n 0) (by unfold By.OwnB; rw [List.length_replicate]; exact h2) (by simp)
  exact this

set_option maxHeartbeats 1000000 in
set_option maxRecDepth 10000 in
theorem law_heads_0 (a f n h c : Int) (w : World) (ha0 : 0 ≤ a) (ha1 : a ≤ 255) (hf0 : 0 ≤ f) (hf1 : f ≤ 255) (hn0 : 0 ≤ n) (hn1 : n ≤ 4294967295) (hh0 : 0 ≤ h) (hh1 : h ≤ 65535) (hc0 : 0 ≤ c) (hc1 : c ≤ 255) (q : f % 5 = 0) :
    Calls Try.prog 8 #[.int .u8 a, .int .u8 f, .int .u32 n, .int .u16 h, .int .u8 c] w fun e w' => e = .returned (.bool true) ∧ Below w.heap.size w w' := by
  have hA := awake_any
  have hS := same_any
  have t1 : (f % 5 == 1) = false := by rw [q]; rfl
  have t2 : (f % 5 == 2) = false := by rw [q]; rfl
  have t3 : (f % 5 == 3) = false := by rw [q]; rfl
  have t4 : (f % 5 == 4) = false := by rw [q]; rfl
  clear q
  obtain ⟨s, hs, hcv⟩ := lit_str w [a, (n % 256)] #[.int .u8 a, .int .u8 (n % 256)] 2 w.heap.size rfl rfl (by simp) (by intro u hu; simp only [List.mem_cons, List.not_mem_nil, or_false] at hu; omega) (by omega) (by omega)
  have hB0 := (Below.refl w.heap.size w).alloc (Nat.le_refl _) (.cells #[.int .u8 a, .int .u8 (n % 256)] 5)
  obtain ⟨m, hm⟩ : ∃ m : Nat, h % 700 = m := ⟨(h % 700).toNat, by omega⟩
  obtain ⟨W, z, zv, hz⟩ := zeros_made (w.alloc (.cells #[.int .u8 a, .int .u8 (n % 256)] 5)).drew m (h % 700) hm (by omega)
  have hBW := hB0.drew.trans (hz.bel.mono hB0.drew.size)
  have c1 := hcv (w.alloc (.cells #[.int .u8 a, .int .u8 (n % 256)] 5)).drew (Below.refl _ _).drew
  have c2 := hcv W ((Below.refl _ _).drew.trans (hz.bel.mono (by simp)))
  have c3 := hz.str
  have c4 := hz.run
  have hsz : s.size + z.size ≤ 1000 := by have := hz.size; omega
  have a1 := fun W : World => run_string_add_sum (P := Try.prog) W s z (by omega)
  have g1 : ¬ 9223372036854775807 < s.size + z.size := by omega
  clear hcv hz hs hB0 hm
  go_enter Try.func8, Try.ntmps8
  go_wp2
  go_region
  all_goals
    obtain ⟨b, hb⟩ : ∃ b, s ++ z = b := ⟨_, rfl⟩
    have hbs : b.size ≤ 1000 := by rw [← hb, ByteArray.size_append]; exact hsz
    rw [hb]
    clear hb a1 g1 c1 c2 c3 c4 hsz
    obtain ⟨j, hj, hjb, hjm⟩ : ∃ j : Nat, min (b.size : Int) (c % 9) = j ∧ j ≤ b.size ∧ j ≤ 1000 := ⟨(min (b.size : Int) (c % 9)).toNat, by omega, by omega, by omega⟩
    have x1 := sl_h b (min (b.size : Int) (c % 9)) j hj hjb
    have y1 : (b.extract 0 j).size ≤ 1000 := by simp [ByteArray.size_extract]; omega
    clear hj
    generalize b.extract 0 j = b2 at *
    go_wp2_with fail
    go_at_call 12
    refine (hA _).mono ?_
    rintro _ w1 ⟨rfl, hb1⟩
    have hB := hBW.trans (hb1.mono hBW.size)
    clear hb1 hA hBW
    go_wp2_with fail
    go_at_call 17
    refine (hS b _ (by omega)).mono ?_
    rintro _ w2 ⟨rfl, hb1⟩
    have hB := hB.trans (hb1.mono hB.size)
    clear hb1
    go_wp2_with fail
    go_at_call 17
    refine (hS b2 _ (by omega)).mono ?_
    rintro _ w3 ⟨rfl, hb1⟩
    have hB := hB.trans (hb1.mono hB.size)
    clear hb1 hS
    go_wp2
    go_ret
    exact ⟨rfl, hB⟩

set_option maxHeartbeats 1000000 in
set_option maxRecDepth 10000 in
theorem law_heads_1 (a f n h c : Int) (w : World) (ha0 : 0 ≤ a) (ha1 : a ≤ 255) (hf0 : 0 ≤ f) (hf1 : f ≤ 255) (hn0 : 0 ≤ n) (hn1 : n ≤ 4294967295) (hh0 : 0 ≤ h) (hh1 : h ≤ 65535) (hc0 : 0 ≤ c) (hc1 : c ≤ 255) (q : f % 5 = 1) :
    Calls Try.prog 8 #[.int .u8 a, .int .u8 f, .int .u32 n, .int .u16 h, .int .u8 c] w fun e w' => e = .returned (.bool true) ∧ Below w.heap.size w w' := by
  have hA := awake_any
  have hS := same_any
  have t1 : (f % 5 == 1) = true := by rw [q]; rfl
  clear q
  obtain ⟨s, hs, hcv⟩ := lit_str (w.alloc (.cells #[.int .u8 a, .int .u8 (n % 256)] 5)) [a, 129, (n % 256)] #[.int .u8 a, .int .u8 129, .int .u8 (n % 256)] 3 (w.heap.size + 1) rfl rfl (by simp) (by intro u hu; simp only [List.mem_cons, List.not_mem_nil, or_false] at hu; omega) (by omega) (by omega)
  have hB0 := ((Below.refl w.heap.size w).alloc (Nat.le_refl _) (.cells #[.int .u8 a, .int .u8 (n % 256)] 5)).alloc (by simp) (.cells #[.int .u8 a, .int .u8 129, .int .u8 (n % 256)] 5)
  obtain ⟨m, hm⟩ : ∃ m : Nat, h % 700 = m := ⟨(h % 700).toNat, by omega⟩
  obtain ⟨W, z, zv, hz⟩ := zeros_made ((w.alloc (.cells #[.int .u8 a, .int .u8 (n % 256)] 5)).alloc (.cells #[.int .u8 a, .int .u8 129, .int .u8 (n % 256)] 5)).drew m (h % 700) hm (by omega)
  have hBW := hB0.drew.trans (hz.bel.mono hB0.drew.size)
  have c1 := hcv ((w.alloc (.cells #[.int .u8 a, .int .u8 (n % 256)] 5)).alloc (.cells #[.int .u8 a, .int .u8 129, .int .u8 (n % 256)] 5)).drew (Below.refl _ _).drew
  have c2 := hcv W ((Below.refl _ _).drew.trans (hz.bel.mono (by simp)))
  have c3 := hz.str
  have c4 := hz.run
  have hsz : s.size + z.size ≤ 1000 := by have := hz.size; omega
  have a1 := fun W : World => run_string_add_sum (P := Try.prog) W s z (by omega)
  have g1 : ¬ 9223372036854775807 < s.size + z.size := by omega
  clear hcv hz hs hB0 hm
  go_enter Try.func8, Try.ntmps8
  go_wp2
  go_region
  all_goals
    obtain ⟨b, hb⟩ : ∃ b, s ++ z = b := ⟨_, rfl⟩
    have hbs : b.size ≤ 1000 := by rw [← hb, ByteArray.size_append]; exact hsz
    rw [hb]
    clear hb a1 g1 c1 c2 c3 c4 hsz
    obtain ⟨j, hj, hjb, hjm⟩ : ∃ j : Nat, min (b.size : Int) (c % 9) = j ∧ j ≤ b.size ∧ j ≤ 1000 := ⟨(min (b.size : Int) (c % 9)).toNat, by omega, by omega, by omega⟩
    have x1 := sl_h b (min (b.size : Int) (c % 9)) j hj hjb
    have y1 : (b.extract 0 j).size ≤ 1000 := by simp [ByteArray.size_extract]; omega
    clear hj
    generalize b.extract 0 j = b2 at *
    go_wp2_with fail
    go_at_call 12
    refine (hA _).mono ?_
    rintro _ w1 ⟨rfl, hb1⟩
    have hB := hBW.trans (hb1.mono hBW.size)
    clear hb1 hA hBW
    go_wp2_with fail
    go_at_call 17
    refine (hS b _ (by omega)).mono ?_
    rintro _ w2 ⟨rfl, hb1⟩
    have hB := hB.trans (hb1.mono hB.size)
    clear hb1
    go_wp2_with fail
    go_at_call 17
    refine (hS b2 _ (by omega)).mono ?_
    rintro _ w3 ⟨rfl, hb1⟩
    have hB := hB.trans (hb1.mono hB.size)
    clear hb1 hS
    go_wp2
    go_ret
    exact ⟨rfl, hB⟩

set_option maxHeartbeats 1000000 in
set_option maxRecDepth 10000 in
theorem law_heads_2 (a f n h c : Int) (w : World) (ha0 : 0 ≤ a) (ha1 : a ≤ 255) (hf0 : 0 ≤ f) (hf1 : f ≤ 255) (hn0 : 0 ≤ n) (hn1 : n ≤ 4294967295) (hh0 : 0 ≤ h) (hh1 : h ≤ 65535) (hc0 : 0 ≤ c) (hc1 : c ≤ 255) (q : f % 5 = 2) :
    Calls Try.prog 8 #[.int .u8 a, .int .u8 f, .int .u32 n, .int .u16 h, .int .u8 c] w fun e w' => e = .returned (.bool true) ∧ Below w.heap.size w w' := by
  have hA := awake_any
  have hS := same_any
  have t1 : (f % 5 == 1) = false := by rw [q]; rfl
  have t2 : (f % 5 == 2) = true := by rw [q]; rfl
  clear q
  obtain ⟨s, hs, hcv⟩ := lit_str (w.alloc (.cells #[.int .u8 a, .int .u8 (n % 256)] 5)) [a, 130, (n % 262144 / 256 % 256), (n % 256)] #[.int .u8 a, .int .u8 130, .int .u8 (n % 262144 / 256 % 256), .int .u8 (n % 256)] 4 (w.heap.size + 1) rfl rfl (by simp) (by intro u hu; simp only [List.mem_cons, List.not_mem_nil, or_false] at hu; omega) (by omega) (by omega)
  have hB0 := ((Below.refl w.heap.size w).alloc (Nat.le_refl _) (.cells #[.int .u8 a, .int .u8 (n % 256)] 5)).alloc (by simp) (.cells #[.int .u8 a, .int .u8 130, .int .u8 (n % 262144 / 256 % 256), .int .u8 (n % 256)] 5)
  obtain ⟨m, hm⟩ : ∃ m : Nat, h % 700 = m := ⟨(h % 700).toNat, by omega⟩
  obtain ⟨W, z, zv, hz⟩ := zeros_made ((w.alloc (.cells #[.int .u8 a, .int .u8 (n % 256)] 5)).alloc (.cells #[.int .u8 a, .int .u8 130, .int .u8 (n % 262144 / 256 % 256), .int .u8 (n % 256)] 5)).drew m (h % 700) hm (by omega)
  have hBW := hB0.drew.trans (hz.bel.mono hB0.drew.size)
  have c1 := hcv ((w.alloc (.cells #[.int .u8 a, .int .u8 (n % 256)] 5)).alloc (.cells #[.int .u8 a, .int .u8 130, .int .u8 (n % 262144 / 256 % 256), .int .u8 (n % 256)] 5)).drew (Below.refl _ _).drew
  have c2 := hcv W ((Below.refl _ _).drew.trans (hz.bel.mono (by simp)))
  have c3 := hz.str
  have c4 := hz.run
  have hsz : s.size + z.size ≤ 1000 := by have := hz.size; omega
  have a1 := fun W : World => run_string_add_sum (P := Try.prog) W s z (by omega)
  have g1 : ¬ 9223372036854775807 < s.size + z.size := by omega
  clear hcv hz hs hB0 hm
  go_enter Try.func8, Try.ntmps8
  go_wp2
  go_region
  all_goals
    obtain ⟨b, hb⟩ : ∃ b, s ++ z = b := ⟨_, rfl⟩
    have hbs : b.size ≤ 1000 := by rw [← hb, ByteArray.size_append]; exact hsz
    rw [hb]
    clear hb a1 g1 c1 c2 c3 c4 hsz
    obtain ⟨j, hj, hjb, hjm⟩ : ∃ j : Nat, min (b.size : Int) (c % 9) = j ∧ j ≤ b.size ∧ j ≤ 1000 := ⟨(min (b.size : Int) (c % 9)).toNat, by omega, by omega, by omega⟩
    have x1 := sl_h b (min (b.size : Int) (c % 9)) j hj hjb
    have y1 : (b.extract 0 j).size ≤ 1000 := by simp [ByteArray.size_extract]; omega
    clear hj
    generalize b.extract 0 j = b2 at *
    go_wp2_with fail
    go_at_call 12
    refine (hA _).mono ?_
    rintro _ w1 ⟨rfl, hb1⟩
    have hB := hBW.trans (hb1.mono hBW.size)
    clear hb1 hA hBW
    go_wp2_with fail
    go_at_call 17
    refine (hS b _ (by omega)).mono ?_
    rintro _ w2 ⟨rfl, hb1⟩
    have hB := hB.trans (hb1.mono hB.size)
    clear hb1
    go_wp2_with fail
    go_at_call 17
    refine (hS b2 _ (by omega)).mono ?_
    rintro _ w3 ⟨rfl, hb1⟩
    have hB := hB.trans (hb1.mono hB.size)
    clear hb1 hS
    go_wp2
    go_ret
    exact ⟨rfl, hB⟩

set_option maxHeartbeats 1000000 in
set_option maxRecDepth 10000 in
theorem law_heads_3 (a f n h c : Int) (w : World) (ha0 : 0 ≤ a) (ha1 : a ≤ 255) (hf0 : 0 ≤ f) (hf1 : f ≤ 255) (hn0 : 0 ≤ n) (hn1 : n ≤ 4294967295) (hh0 : 0 ≤ h) (hh1 : h ≤ 65535) (hc0 : 0 ≤ c) (hc1 : c ≤ 255) (q : f % 5 = 3) :
    Calls Try.prog 8 #[.int .u8 a, .int .u8 f, .int .u32 n, .int .u16 h, .int .u8 c] w fun e w' => e = .returned (.bool true) ∧ Below w.heap.size w w' := by
  have hA := awake_any
  have hS := same_any
  have t1 : (f % 5 == 1) = false := by rw [q]; rfl
  have t2 : (f % 5 == 2) = false := by rw [q]; rfl
  have t3 : (f % 5 == 3) = true := by rw [q]; rfl
  clear q
  obtain ⟨s, hs, hcv⟩ := lit_str (w.alloc (.cells #[.int .u8 a, .int .u8 (n % 256)] 5)) [a, 131, (n % 262144 / 65536), (n % 262144 / 256 % 256), (n % 256)] #[.int .u8 a, .int .u8 131, .int .u8 (n % 262144 / 65536), .int .u8 (n % 262144 / 256 % 256), .int .u8 (n % 256)] 5 (w.heap.size + 1) rfl rfl (by simp) (by intro u hu; simp only [List.mem_cons, List.not_mem_nil, or_false] at hu; omega) (by omega) (by omega)
  have hB0 := ((Below.refl w.heap.size w).alloc (Nat.le_refl _) (.cells #[.int .u8 a, .int .u8 (n % 256)] 5)).alloc (by simp) (.cells #[.int .u8 a, .int .u8 131, .int .u8 (n % 262144 / 65536), .int .u8 (n % 262144 / 256 % 256), .int .u8 (n % 256)] 5)
  obtain ⟨m, hm⟩ : ∃ m : Nat, h % 700 = m := ⟨(h % 700).toNat, by omega⟩
  obtain ⟨W, z, zv, hz⟩ := zeros_made ((w.alloc (.cells #[.int .u8 a, .int .u8 (n % 256)] 5)).alloc (.cells #[.int .u8 a, .int .u8 131, .int .u8 (n % 262144 / 65536), .int .u8 (n % 262144 / 256 % 256), .int .u8 (n % 256)] 5)).drew m (h % 700) hm (by omega)
  have hBW := hB0.drew.trans (hz.bel.mono hB0.drew.size)
  have c1 := hcv ((w.alloc (.cells #[.int .u8 a, .int .u8 (n % 256)] 5)).alloc (.cells #[.int .u8 a, .int .u8 131, .int .u8 (n % 262144 / 65536), .int .u8 (n % 262144 / 256 % 256), .int .u8 (n % 256)] 5)).drew (Below.refl _ _).drew
  have c2 := hcv W ((Below.refl _ _).drew.trans (hz.bel.mono (by simp)))
  have c3 := hz.str
  have c4 := hz.run
  have hsz : s.size + z.size ≤ 1000 := by have := hz.size; omega
  have a1 := fun W : World => run_string_add_sum (P := Try.prog) W s z (by omega)
  have g1 : ¬ 9223372036854775807 < s.size + z.size := by omega
  clear hcv hz hs hB0 hm
  go_enter Try.func8, Try.ntmps8
  go_wp2
  go_region
  all_goals
    obtain ⟨b, hb⟩ : ∃ b, s ++ z = b := ⟨_, rfl⟩
    have hbs : b.size ≤ 1000 := by rw [← hb, ByteArray.size_append]; exact hsz
    rw [hb]
    clear hb a1 g1 c1 c2 c3 c4 hsz
    obtain ⟨j, hj, hjb, hjm⟩ : ∃ j : Nat, min (b.size : Int) (c % 9) = j ∧ j ≤ b.size ∧ j ≤ 1000 := ⟨(min (b.size : Int) (c % 9)).toNat, by omega, by omega, by omega⟩
    have x1 := sl_h b (min (b.size : Int) (c % 9)) j hj hjb
    have y1 : (b.extract 0 j).size ≤ 1000 := by simp [ByteArray.size_extract]; omega
    clear hj
    generalize b.extract 0 j = b2 at *
    go_wp2_with fail
    go_at_call 12
    refine (hA _).mono ?_
    rintro _ w1 ⟨rfl, hb1⟩
    have hB := hBW.trans (hb1.mono hBW.size)
    clear hb1 hA hBW
    go_wp2_with fail
    go_at_call 17
    refine (hS b _ (by omega)).mono ?_
    rintro _ w2 ⟨rfl, hb1⟩
    have hB := hB.trans (hb1.mono hB.size)
    clear hb1
    go_wp2_with fail
    go_at_call 17
    refine (hS b2 _ (by omega)).mono ?_
    rintro _ w3 ⟨rfl, hb1⟩
    have hB := hB.trans (hb1.mono hB.size)
    clear hb1 hS
    go_wp2
    go_ret
    exact ⟨rfl, hB⟩

set_option maxHeartbeats 1000000 in
set_option maxRecDepth 10000 in
theorem law_heads_4 (a f n h c : Int) (w : World) (ha0 : 0 ≤ a) (ha1 : a ≤ 255) (hf0 : 0 ≤ f) (hf1 : f ≤ 255) (hn0 : 0 ≤ n) (hn1 : n ≤ 4294967295) (hh0 : 0 ≤ h) (hh1 : h ≤ 65535) (hc0 : 0 ≤ c) (hc1 : c ≤ 255) (q : f % 5 = 4) :
    Calls Try.prog 8 #[.int .u8 a, .int .u8 f, .int .u32 n, .int .u16 h, .int .u8 c] w fun e w' => e = .returned (.bool true) ∧ Below w.heap.size w w' := by
  have hA := awake_any
  have hS := same_any
  have t1 : (f % 5 == 1) = false := by rw [q]; rfl
  have t2 : (f % 5 == 2) = false := by rw [q]; rfl
  have t3 : (f % 5 == 3) = false := by rw [q]; rfl
  have t4 : (f % 5 == 4) = true := by rw [q]; rfl
  clear q
  obtain ⟨s, hs, hcv⟩ := lit_str (w.alloc (.cells #[.int .u8 a, .int .u8 (n % 256)] 5)) [a, f, (n % 262144 / 16777216), (n % 262144 / 65536), (n % 262144 / 256 % 256), (n % 256)] #[.int .u8 a, .int .u8 f, .int .u8 (n % 262144 / 16777216), .int .u8 (n % 262144 / 65536), .int .u8 (n % 262144 / 256 % 256), .int .u8 (n % 256)] 6 (w.heap.size + 1) rfl rfl (by simp) (by intro u hu; simp only [List.mem_cons, List.not_mem_nil, or_false] at hu; omega) (by omega) (by omega)
  have hB0 := ((Below.refl w.heap.size w).alloc (Nat.le_refl _) (.cells #[.int .u8 a, .int .u8 (n % 256)] 5)).alloc (by simp) (.cells #[.int .u8 a, .int .u8 f, .int .u8 (n % 262144 / 16777216), .int .u8 (n % 262144 / 65536), .int .u8 (n % 262144 / 256 % 256), .int .u8 (n % 256)] 5)
  obtain ⟨m, hm⟩ : ∃ m : Nat, h % 700 = m := ⟨(h % 700).toNat, by omega⟩
  obtain ⟨W, z, zv, hz⟩ := zeros_made ((w.alloc (.cells #[.int .u8 a, .int .u8 (n % 256)] 5)).alloc (.cells #[.int .u8 a, .int .u8 f, .int .u8 (n % 262144 / 16777216), .int .u8 (n % 262144 / 65536), .int .u8 (n % 262144 / 256 % 256), .int .u8 (n % 256)] 5)).drew m (h % 700) hm (by omega)
  have hBW := hB0.drew.trans (hz.bel.mono hB0.drew.size)
  have c1 := hcv ((w.alloc (.cells #[.int .u8 a, .int .u8 (n % 256)] 5)).alloc (.cells #[.int .u8 a, .int .u8 f, .int .u8 (n % 262144 / 16777216), .int .u8 (n % 262144 / 65536), .int .u8 (n % 262144 / 256 % 256), .int .u8 (n % 256)] 5)).drew (Below.refl _ _).drew
  have c2 := hcv W ((Below.refl _ _).drew.trans (hz.bel.mono (by simp)))
  have c3 := hz.str
  have c4 := hz.run
  have hsz : s.size + z.size ≤ 1000 := by have := hz.size; omega
  have a1 := fun W : World => run_string_add_sum (P := Try.prog) W s z (by omega)
  have g1 : ¬ 9223372036854775807 < s.size + z.size := by omega
  clear hcv hz hs hB0 hm
  go_enter Try.func8, Try.ntmps8
  go_wp2
  go_region
  all_goals
    obtain ⟨b, hb⟩ : ∃ b, s ++ z = b := ⟨_, rfl⟩
    have hbs : b.size ≤ 1000 := by rw [← hb, ByteArray.size_append]; exact hsz
    rw [hb]
    clear hb a1 g1 c1 c2 c3 c4 hsz
    obtain ⟨j, hj, hjb, hjm⟩ : ∃ j : Nat, min (b.size : Int) (c % 9) = j ∧ j ≤ b.size ∧ j ≤ 1000 := ⟨(min (b.size : Int) (c % 9)).toNat, by omega, by omega, by omega⟩
    have x1 := sl_h b (min (b.size : Int) (c % 9)) j hj hjb
    have y1 : (b.extract 0 j).size ≤ 1000 := by simp [ByteArray.size_extract]; omega
    clear hj
    generalize b.extract 0 j = b2 at *
    go_wp2_with fail
    go_at_call 12
    refine (hA _).mono ?_
    rintro _ w1 ⟨rfl, hb1⟩
    have hB := hBW.trans (hb1.mono hBW.size)
    clear hb1 hA hBW
    go_wp2_with fail
    go_at_call 17
    refine (hS b _ (by omega)).mono ?_
    rintro _ w2 ⟨rfl, hb1⟩
    have hB := hB.trans (hb1.mono hB.size)
    clear hb1
    go_wp2_with fail
    go_at_call 17
    refine (hS b2 _ (by omega)).mono ?_
    rintro _ w3 ⟨rfl, hb1⟩
    have hB := hB.trans (hb1.mono hB.size)
    clear hb1 hS
    go_wp2
    go_ret
    exact ⟨rfl, hB⟩

theorem law_heads (a f n h c : Int) (w : World) (ha0 : 0 ≤ a) (ha1 : a ≤ 255) (hf0 : 0 ≤ f) (hf1 : f ≤ 255) (hn0 : 0 ≤ n) (hn1 : n ≤ 4294967295) (hh0 : 0 ≤ h) (hh1 : h ≤ 65535) (hc0 : 0 ≤ c) (hc1 : c ≤ 255) :
    Calls Try.prog 8 #[.int .u8 a, .int .u8 f, .int .u32 n, .int .u16 h, .int .u8 c] w fun e w' => e = .returned (.bool true) ∧ Below w.heap.size w w' := by
  have hf5 : f % 5 = 0 ∨ f % 5 = 1 ∨ f % 5 = 2 ∨ f % 5 = 3 ∨ f % 5 = 4 := by omega
  rcases hf5 with q | q | q | q | q
  · exact law_heads_0 a f n h c w ha0 ha1 hf0 hf1 hn0 hn1 hh0 hh1 hc0 hc1 q
  · exact law_heads_1 a f n h c w ha0 ha1 hf0 hf1 hn0 hn1 hh0 hh1 hc0 hc1 q
  · exact law_heads_2 a f n h c w ha0 ha1 hf0 hf1 hn0 hn1 hh0 hh1 hc0 hc1 q
  · exact law_heads_3 a f n h c w ha0 ha1 hf0 hf1 hn0 hn1 hh0 hh1 hc0 hc1 q
  · exact law_heads_4 a f n h c w ha0 ha1 hf0 hf1 hn0 hn1 hh0 hh1 hc0 hc1 q

end Go.Proofs.Ytmmoimemfdbfgaa
