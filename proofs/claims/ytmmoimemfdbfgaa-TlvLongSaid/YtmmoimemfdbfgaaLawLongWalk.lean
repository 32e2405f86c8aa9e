/-
  The walk of TlvLong: it returns true.
-/
import Derived.Test.YtmmoimemfdbfgaaLawBackWalk
import Derived.Laws.OwnMore
import Derived.Deep.RegionWith
namespace Go.Proofs.Ytmmoimemfdbfgaa
open Go.RowKit
set_option linter.unusedSimpArgs false

def ends4 : Obj := .cells #[.int .i64 127, .int .i64 255, .int .i64 65535, .int .i64 131072] 3
theorem ends_cell (w : World) (k : Nat) (hk : k < 4) : ∃ x : Int, (x = 127 ∨ x = 255 ∨ x = 65535 ∨ x = 131072) ∧ (w.alloc ends4).cell? ⟨w.heap.size, k, none⟩ = some (.int .i64 x) := by
  have : k = 0 ∨ k = 1 ∨ k = 2 ∨ k = 3 := by omega
  unfold ends4
  rcases this with rfl | rfl | rfl | rfl
  · exact ⟨127, by simp, by rw [World.cell?_alloc_at _ _ _ _ rfl]; rfl⟩
  · exact ⟨255, by simp, by rw [World.cell?_alloc_at _ _ _ _ rfl]; rfl⟩
  · exact ⟨65535, by simp, by rw [World.cell?_alloc_at _ _ _ _ rfl]; rfl⟩
  · exact ⟨131072, by simp, by rw [World.cell?_alloc_at _ _ _ _ rfl]; rfl⟩

/-- zeros made, and the string of them -/
def zeros (n : Nat) : ByteArray := ⟨(List.replicate n (0 : UInt8)).toArray⟩
structure Made (w : World) (n : Nat) (W : World) : Prop where
  run : (Instr.makeSlice 30 (.int .i64 n) (.int .i64 n)).run Try.prog w = .ok (.slice (some ⟨w.heap.size, 0, none⟩) n n) W
  own : By.OwnB W w.heap.size (.slice (some ⟨w.heap.size, 0, none⟩) n n) (List.replicate n 0)
  bel : Below w.heap.size w W
  size : w.heap.size < W.heap.size
theorem made (w : World) (n : Nat) (hn : n ≤ 1000000) (h0 : 0 < n) : ∃ W, Made w n W := by
  obtain ⟨i0, hi, hz0, hz1, hz2⟩ := info_parts By.info_u8
  obtain ⟨W, h1, h2, h3⟩ := run_makeSlice_full (w := w) (P := Try.prog) w.heap.size 30 5 i0 (.int .u8 0) 1 Try.underlying30 hi hz0 hz1 .i64 .i64 n (by omega) (by rw [hz2]; omega) (by unfold maxLen; omega) (Nat.le_refl _)
  refine ⟨W, h1, ?_, ⟨h3.os, h3.tape, h3.output, h3.size, fun k hk => h3.block k hk (by simp)⟩, ?_⟩
  · unfold By.OwnB
    have e : (madeCells (Value.int IntKind.u8 0).cells (n * 1)).toList = (List.replicate n (0 : UInt8)).map By.byteV := by
      rw [show (Value.int IntKind.u8 0).cells = #[.int .u8 0] from rfl, toList_madeCells_one]; simp [By.byteV]
    rw [e] at h2
    rw [List.length_replicate]
    exact h2
  · rcases h2.2 with ⟨hv, _⟩ | ⟨g, cap, cur, hv, _, hg, _⟩
    · cases hv
    · cases hv
      rcases Nat.lt_or_ge w.heap.size W.heap.size with q | q
      · exact q
      · rw [Array.getElem?_eq_none q] at hg; cases hg

theorem wrap_two (tag : Int) (x y : ByteArray) (h : x.size + y.size ≤ 1000000) (w : World) (g : Nat) (hg : w.heap.size = g) :
    Calls Try.prog 13 #[.int .i64 tag, .slice (some ⟨g, 0, none⟩) 2 2] (w.alloc (.cells #[.string x, .string y] 9)) fun e w' => e = .returned (wrapR tag (x.data.toList ++ y.data.toList)) ∧ Below (w.alloc (.cells #[.string x, .string y] 9)).heap.size (w.alloc (.cells #[.string x, .string y] 9)) w' := by
  have hs : Strs (w.alloc (.cells #[.string x, .string y] 9)) (.slice (some ⟨w.heap.size, 0, none⟩) 2 2) [x, y] := by
    refine Strs.some w.heap.size 0 2 x [y] (by simp) (by simp) (by unfold maxLen; simp) ?_
    intro j u hj
    rw [World.cell?_alloc_at _ _ _ _ rfl, Nat.zero_add]
    match j, hj with
    | 0, hj => simp at hj; subst hj; rfl
    | 1, hj => simp at hj; subst hj; rfl
  have hf : Tl.flat [x, y] = x.data.toList ++ y.data.toList := by simp [Tl.flat]
  have := wrap_any tag _ _ _ hs (by simp) (by rw [hf]; simpa using h)
  rw [hf] at this
  exact hg ▸ this
theorem rwrap_st (tag : Int) (x : ByteArray) (h : x.size ≤ 1000000) (w : World) (g : Nat) (hg : w.heap.size = g) :
    Calls Try.prog 14 #[.int .i64 tag, .slice (some ⟨g, 0, none⟩) 1 1] (w.alloc (.cells #[.string x] 9)) fun e w' => e = .returned (wrapR tag x.data.toList) ∧ Below (w.alloc (.cells #[.string x] 9)).heap.size (w.alloc (.cells #[.string x] 9)) w' := by
  have := rwrap_any tag _ _ _ (st_strs w x) (by simp) (by rw [flat_one]; simpa using h)
  rw [flat_one] at this
  exact hg ▸ this
theorem one_long (z : ByteArray) (hz : z.size ≤ 131072) : oneV ⟨(Tl.elem 4 z.data.toList).toArray⟩ (Tl.one ⟨(Tl.elem 4 z.data.toList).toArray⟩) = .tuple #[.agg #[.int .i64 4, .string z, .string ⟨(Tl.elem 4 z.data.toList).toArray⟩], .int .i64 0] := by
  have hr := read_back 4 z ⟨#[]⟩ (by omega) (by omega) hz
  have e : (⟨(Tl.elem 4 z.data.toList).toArray⟩ : ByteArray) ++ ⟨#[]⟩ = ⟨(Tl.elem 4 z.data.toList).toArray⟩ := by rw [mk_cat]; simp
  rw [e] at hr
  generalize (⟨(Tl.elem 4 z.data.toList).toArray⟩ : ByteArray) = S at *
  unfold Tl.one
  cases p : Tl.rd S with
  | err c => rw [p] at hr; unfold resV errV at hr; simp at hr
  | ok a n =>
    rw [p] at hr
    unfold resV okV at hr
    simp at hr
    obtain ⟨⟨h1, h2, h3⟩, h4⟩ := hr
    have hok := (Tl.rd_ok_iff.1 p).2
    have hsz : (S.extract (a + n) S.size).size = 0 := by rw [h4]; rfl
    have : ¬ a + n < S.size := by simp [ByteArray.size_extract] at hsz; omega
    simp only [if_neg this]
    unfold oneV elV
    simp [h1, h2, h3]

set_option maxHeartbeats 1000000 in
set_option maxRecDepth 10000 in
theorem law_long (a b : Int) (w : World) (ha0 : 0 ≤ a) (ha1 : a ≤ 255) (hb0 : 0 ≤ b) (hb1 : b ≤ 255) :
    Calls Try.prog 4 #[.int .u8 a, .int .u8 b] w fun e w' => e = .returned (.bool true) ∧ Below w.heap.size w w' := by
  obtain ⟨k, hk⟩ : ∃ k : Nat, a % 4 = k := ⟨(a % 4).toNat, by omega⟩
  obtain ⟨x, hx, hc⟩ := ends_cell w k (by omega)
  unfold ends4 at hc
  obtain ⟨n, hn⟩ : ∃ n : Nat, x - 2 + b % 5 = n := ⟨(x - 2 + b % 5).toNat, by omega⟩
  have hn1 : 125 ≤ n := by omega
  have hn2 : n ≤ 131074 := by omega
  go_enter Try.func4, Try.ntmps4
  have HN := Lib.hid hn
  have hn0 : 0 ≤ x - 2 + b % 5 ∧ 0 ≤ x - 2 ∧ x - 2 ≤ 131072 := by omega
  obtain ⟨W, hm, ho, hB, hlt⟩ := made (w.alloc ends4) n (by omega) (by omega)
  have hsz : (w.alloc ends4).heap.size = w.heap.size + 1 := by simp
  rw [hsz] at hm ho
  have hcv := By.bytes_back ho (by simp)
  have hBw : Below w.heap.size w W := behind ((Below.refl _ w).alloc (Nat.le_refl _) ends4) hB
  have hzs : (zeros n).size = n := by unfold zeros; rw [size_mk]; simp
  change _ = Result.ok (Value.string (zeros n)) W at hcv
  unfold ends4 at hm
  clear hx ho hB hsz
  generalize hz : zeros n = z at *
  have rs1 := sl_h z ((n : Int) / 2) (n / 2) (by omega) (by omega)
  have rs2 := sl_l z ((n : Int) / 2) (n / 2) (by omega) (by omega)
  have hcat : (z.extract 0 (n / 2)).data.toList ++ (z.extract (n / 2) z.size).data.toList = z.data.toList := by
    rw [ByteArray.data_extract, ByteArray.data_extract, Array.toList_extract, Array.toList_extract, List.extract_eq_take_drop, List.extract_eq_take_drop, List.drop_zero, Nat.sub_zero, List.take_of_length_le (l := List.drop (n / 2) _) (by simp), List.take_append_drop]
  have hW := wrap_two 4 (z.extract 0 (n / 2)) (z.extract (n / 2) z.size) (by simp [ByteArray.size_extract]; omega)
  rw [hcat] at hW
  have hR := rwrap_st 4 z (by omega)
  clear hcat
  generalize z.extract 0 (n / 2) = x1 at *
  generalize z.extract (n / 2) z.size = x2 at *
  have q1 : ((n : Int)).tdiv 2 = (n : Int) / 2 := Int.tdiv_eq_ediv_of_nonneg (by omega)
  have q2 : IntKind.i64.wrap ((n : Int) / 2) = (n : Int) / 2 := IntWalk.i64_in _ (by omega)
  have q3 : IntKind.i64.wrap (((n : Int)).tdiv 2) = (n : Int) / 2 := by rw [q1, q2]
  by_cases hbig : 131072 < n
  · have hv : wrapR 4 z.data.toList = .tuple #[.string ⟨#[]⟩, .int .i64 6] := by rw [wrapR, if_neg (by omega), wrapV, if_pos (by simp; omega)]
    rw [hv] at hW hR
    have u1 : decide (131072 < (n : Int)) = true := by simp; omega
    clear hv hbig
    have hW2 := hW W.drew W.heap.size rfl
    change Calls _ _ _ (W.alloc (.cells #[.string x1, .string x2] 9)).drew (fun e w' => _ ∧ Below (W.alloc (.cells #[.string x1, .string x2] 9)).drew.heap.size (W.alloc (.cells #[.string x1, .string x2] 9)).drew w') at hW2
    go_wp2_with fail
    go_region_with (go_at_call 13; refine hW2.mono ?_; rintro e w2 ⟨rfl, hb2⟩)
    have hB1 := (hBw.alloc hBw.size (.cells #[.string x1, .string x2] 9)).drew
    have hB2 := behind hB1 hb2
    clear hb2 hW hW2 hB1
    go_wp2_with fail
    go_at_call 14
    refine (hR _ _ ?hg).mono ?_
    case hg => rfl
    rintro e w3 ⟨rfl, hb3⟩
    have hB3 := behind (hB2.alloc hB2.size _) hb3
    clear hb3 hR hB2
    go_wp2_with fail
    go_at_call 12
    refine (awake_any _).mono ?_
    rintro e w4 ⟨rfl, hb4⟩
    have hB4 := behind hB3 hb4
    clear hb4 hB3
    go_wp2
    go_ret
    exact ⟨rfl, hB4⟩
  · have hv : wrapR 4 z.data.toList = .tuple #[.string ⟨(Tl.elem 4 z.data.toList).toArray⟩, .int .i64 0] := by rw [wrapR, if_neg (by omega), wrapV, if_neg (by simp; omega)]; rfl
    rw [hv] at hW hR
    have hSs : (⟨(Tl.elem 4 z.data.toList).toArray⟩ : ByteArray).size ≤ 1000000 := by
      rw [size_mk]
      have h1 := Tl.lenB_length z.data.toList.length
      have h2 : z.data.toList.length = z.size := by simp
      rw [Tl.elem, List.length_cons, List.length_append]; omega
    have hO := fun W => one_any ⟨(Tl.elem 4 z.data.toList).toArray⟩ W (by omega)
    rw [one_long z (by omega)] at hO
    clear hv hbig
    generalize (⟨(Tl.elem 4 z.data.toList).toArray⟩ : ByteArray) = S at *
    have hW2 := hW W.drew W.heap.size rfl
    change Calls _ _ _ (W.alloc (.cells #[.string x1, .string x2] 9)).drew (fun e w' => _ ∧ Below (W.alloc (.cells #[.string x1, .string x2] 9)).drew.heap.size (W.alloc (.cells #[.string x1, .string x2] 9)).drew w') at hW2
    go_wp2_with fail
    go_region_with (go_at_call 13; refine hW2.mono ?_; rintro e w2 ⟨rfl, hb2⟩)
    have hB1 := (hBw.alloc hBw.size (.cells #[.string x1, .string x2] 9)).drew
    have hB2 := behind hB1 hb2
    clear hb2 hW hW2 hB1
    go_wp2_with fail
    go_at_call 14
    refine (hR _ _ ?hg).mono ?_
    case hg => rfl
    rintro e w3 ⟨rfl, hb3⟩
    have hB3 := behind (hB2.alloc hB2.size _) hb3
    clear hb3 hR hB2
    go_wp2_with fail
    go_at_call 15
    refine (hO _).mono ?_
    rintro e w4 ⟨rfl, hb4⟩
    have hB4 := behind hB3 hb4
    clear hb4 hB3 hO
    go_wp2_with fail
    go_at_call 12
    refine (awake_any _).mono ?_
    rintro e w5 ⟨rfl, hb5⟩
    have hB5 := behind (hB4.alloc hB4.size _) hb5
    obtain ⟨e5, rfl⟩ := (Ext.self (w4.alloc (.cells #[.int .i64 4, .string z, .string S] 32))).next hb5
    obtain ⟨z0, z1, z2⟩ := elt_cells 4 z S w4 e5
    clear hb5 hB4
    go_wp2
    go_ret
    exact ⟨rfl, hB5⟩

end Go.Proofs.Ytmmoimemfdbfgaa
