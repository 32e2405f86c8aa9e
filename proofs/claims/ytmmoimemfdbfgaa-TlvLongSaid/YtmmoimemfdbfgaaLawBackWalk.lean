/-
  The walk of TlvBack: it returns true. (Written by wip/gen/gen_back.py.)
-/
import Derived.Test.YtmmoimemfdbfgaaLawPrefixWalk
import Derived.Test.YtmmoimemfdbfgaaTlvElem
namespace Go.Proofs.Ytmmoimemfdbfgaa
open Go.RowKit
set_option linter.unusedSimpArgs false

theorem mk_extract (l : List UInt8) (i j : Nat) : (⟨l.toArray⟩ : ByteArray).extract i j = ⟨((l.drop i).take (j - i)).toArray⟩ := by
  apply ByteArray.ext
  simp [ByteArray.data_extract, List.extract_eq_take_drop]
theorem mk_self (b : ByteArray) : (⟨b.data.toList.toArray⟩ : ByteArray) = b := by apply ByteArray.ext; simp
theorem mk_cat (l : List UInt8) (b : ByteArray) : (⟨l.toArray⟩ : ByteArray) ++ b = ⟨(l ++ b.data.toList).toArray⟩ := by
  apply ByteArray.ext; simp
theorem size_mk (l : List UInt8) : (⟨l.toArray⟩ : ByteArray).size = l.length := by show l.toArray.size = _; simp
theorem flat_one (x : ByteArray) : Tl.flat [x] = x.data.toList := by simp [Tl.flat]

/-- what Wrap wrote is read back -/
theorem read_back (t : Nat) (c b : ByteArray) (ht : t < 256) (h31 : t % 32 ≠ 31) (hc : c.size ≤ 131072) :
    resV (⟨(Tl.elem t c.data.toList).toArray⟩ ++ b) (Tl.rd (⟨(Tl.elem t c.data.toList).toArray⟩ ++ b)) = .tuple #[.agg #[.int .i64 t, .string c, .string ⟨(Tl.elem t c.data.toList).toArray⟩], .string b, .int .i64 0] := by
  rw [mk_cat]
  have hl : c.data.toList.length = c.size := by simp
  have hE : (Tl.elem t c.data.toList).length = 1 + (Tl.lenB c.data.toList.length).length + c.data.toList.length := by simp [Tl.elem]; omega
  have hsz : (⟨(Tl.elem t c.data.toList ++ b.data.toList).toArray⟩ : ByteArray).size = (Tl.elem t c.data.toList).length + b.size := by rw [size_mk]; simp
  rw [Tl.rd_ok_iff.2 ⟨Tl.elem_hdr t c.data.toList b.data.toList ht h31 (by omega), by rw [hsz]; omega⟩]
  have d1 : (Tl.elem t c.data.toList).drop (1 + (Tl.lenB c.data.toList.length).length) = c.data.toList := by
    unfold Tl.elem; rw [Nat.add_comm]; simp
  have e1 : (⟨(Tl.elem t c.data.toList ++ b.data.toList).toArray⟩ : ByteArray).extract (1 + (Tl.lenB c.data.toList.length).length) (1 + (Tl.lenB c.data.toList.length).length + c.data.toList.length) = c := by
    have h1 : 1 + (Tl.lenB c.data.toList.length).length ≤ (Tl.elem t c.data.toList).length := by omega
    rw [mk_extract, List.drop_append_of_le_length h1, d1, Nat.add_sub_cancel_left, List.take_left' rfl, mk_self]
  have e2 : (⟨(Tl.elem t c.data.toList ++ b.data.toList).toArray⟩ : ByteArray).extract 0 (1 + (Tl.lenB c.data.toList.length).length + c.data.toList.length) = ⟨(Tl.elem t c.data.toList).toArray⟩ := by
    rw [mk_extract, List.drop_zero, Nat.sub_zero, List.take_left' hE]
  have e3 : (⟨(Tl.elem t c.data.toList ++ b.data.toList).toArray⟩ : ByteArray).extract (1 + (Tl.lenB c.data.toList.length).length + c.data.toList.length) (⟨(Tl.elem t c.data.toList ++ b.data.toList).toArray⟩ : ByteArray).size = b := by
    rw [mk_extract, List.drop_left' hE, hsz, List.take_of_length_le (by rw [show b.data.toList.length = b.size by simp]; omega), mk_self]
  have e0 : Tl.byt ⟨(Tl.elem t c.data.toList ++ b.data.toList).toArray⟩ 0 = t := by
    rw [Tl.byt_mk]; simp [Tl.elem, Tl.b8_toNat]; omega
  show okV _ _ _ _ = _
  unfold okV
  rw [e0, e1, e2, e3]

/-- an accepted encoding is what Wrap writes for its parts -/
theorem one_back {b : ByteArray} {a n : Nat} (h : Tl.one b = .ok a n) (hs : b.size ≤ 600) :
    wrapR (Tl.byt b 0) (Tl.flat [b.extract a (a + n)]) = .tuple #[.string b, .int .i64 0] ∧ b.extract 0 (a + n) = b := by
  rw [one_ok_iff] at h
  obtain ⟨h1, h2⟩ := h
  have hb := Tl.byt_lt b 0
  have h31 : Tl.byt b 0 % 32 ≠ 31 := h1.1
  have e := Tl.hdr_elem b.data.toList a n (by rw [mk_self]; exact h1) (by simpa using h2)
  rw [mk_self] at e
  have ex : (b.extract a (a + n)).data.toList = b.data.toList.drop a := by
    rw [ByteArray.data_extract, Array.toList_extract, List.extract_eq_take_drop, List.take_of_length_le (by simp; omega)]
  refine ⟨?_, ?_⟩
  · rw [flat_one, wrapR, if_neg (by omega), wrapV, if_neg (by rw [ex]; simp; omega), Int.toNat_natCast, ex, e, mk_self]
  · rw [h2]; simp

def ST (x : ByteArray) : Obj := .cells #[.string x] 9
theorem st_strs (w : World) (x : ByteArray) : Strs (w.alloc (ST x)) (.slice (some ⟨w.heap.size, 0, none⟩) 1 1) [x] := by
  refine Strs.some w.heap.size 0 1 x [] (by simp) (by simp) (by unfold maxLen; simp) ?_
  intro j y hj
  unfold ST
  rw [World.cell?_alloc_at _ _ _ _ rfl, Nat.zero_add]
  match j, hj with
  | 0, hj => simp at hj; subst hj; rfl
theorem wrap_st (tag : Int) (x : ByteArray) (h : x.size ≤ 1000000) (w : World) (g : Nat) (hg : w.heap.size = g) :
    Calls Try.prog 13 #[.int .i64 tag, .slice (some ⟨g, 0, none⟩) 1 1] (w.alloc (.cells #[.string x] 9)) fun e w' => e = .returned (wrapR tag (Tl.flat [x])) ∧ Below (w.alloc (.cells #[.string x] 9)).heap.size (w.alloc (.cells #[.string x] 9)) w' :=
  hg ▸ wrap_any tag _ _ _ (st_strs w x) (by simp) (by rw [flat_one]; simpa using h)

theorem elt_cells (t : Int) (x y : ByteArray) (w : World) (e : Ext (w.alloc (.cells #[.int .i64 t, .string x, .string y] 32))) :
    e.out.cell? ⟨w.heap.size, 0, none⟩ = some (.int .i64 t) ∧ e.out.cell? ⟨w.heap.size, 1, none⟩ = some (.string x) ∧ e.out.cell? ⟨w.heap.size, 2, none⟩ = some (.string y) := by
  have hz : w.heap.size < (w.alloc (.cells #[.int .i64 t, .string x, .string y] 32)).heap.size := by simp
  refine ⟨?_, ?_, ?_⟩ <;> (rw [e.cell hz, World.cell?_alloc_at _ _ _ _ rfl]; rfl)

set_option maxHeartbeats 1000000 in
set_option maxRecDepth 10000 in
theorem law_back (b c : ByteArray) (t : Int) (w : World) (ht0 : 0 ≤ t) (ht1 : t ≤ 255) :
    Calls Try.prog 5 #[.string b, .int .u8 t, .string c] w fun e w' => e = .returned (.bool true) ∧ Below w.heap.size w w' := by
  by_cases hb : 600 < b.size
  · have t0 : decide (600 < (b.size : Int)) = true := by simp; omega
    clear hb
    go_enter Try.func5, Try.ntmps5
    go_wp2_with fail
    go_at_call 12
    refine (awake_any _).mono ?_
    rintro e w1 ⟨rfl, hb1⟩
    go_wp2
    go_ret
    exact ⟨rfl, hb1⟩
  · have t0 : decide (600 < (b.size : Int)) = false := by simp; omega
    by_cases hc : 600 < c.size
    · have t1 : decide (600 < (c.size : Int)) = true := by simp; omega
      clear hb hc
      go_enter Try.func5, Try.ntmps5
      go_wp2_with fail
      go_at_call 12
      refine (awake_any _).mono ?_
      rintro e w1 ⟨rfl, hb1⟩
      go_wp2
      go_ret
      exact ⟨rfl, hb1⟩
    · have t1 : decide (600 < (c.size : Int)) = false := by simp; omega
      have hO1 := fun W => one_any b W (by omega)
      have hW2 := wrap_st t c (by omega)
      rw [flat_one] at hW2
      obtain ⟨S, hS⟩ : ∃ S, S = (⟨(Tl.elem t.toNat c.data.toList).toArray⟩ : ByteArray) := ⟨_, rfl⟩
      have hSs : S.size ≤ 700 := by
        rw [hS, size_mk]
        have h1 := Tl.lenB_length c.data.toList.length
        have h2 : c.data.toList.length = c.size := by simp
        rw [Tl.elem, List.length_cons, List.length_append]; omega
      have h2 : (t % 32 = 31 ∧ ∀ (W : World) (g : Nat), W.heap.size = g → Calls Try.prog 13 #[.int .i64 t, .slice (some ⟨g, 0, none⟩) 1 1] (W.alloc (.cells #[.string c] 9)) fun e w' => e = .returned (.tuple #[.string ⟨#[]⟩, .int .i64 5]) ∧ Below (W.alloc (.cells #[.string c] 9)).heap.size (W.alloc (.cells #[.string c] 9)) w') ∨
          (t % 32 ≠ 31 ∧ (∀ (W : World) (g : Nat), W.heap.size = g → Calls Try.prog 13 #[.int .i64 t, .slice (some ⟨g, 0, none⟩) 1 1] (W.alloc (.cells #[.string c] 9)) fun e w' => e = .returned (.tuple #[.string S, .int .i64 0]) ∧ Below (W.alloc (.cells #[.string c] 9)).heap.size (W.alloc (.cells #[.string c] 9)) w') ∧
            ∀ W, Calls Try.prog 16 #[.string (S ++ b)] W fun e w' => e = .returned (.tuple #[.agg #[.int .i64 t, .string c, .string S], .string b, .int .i64 0]) ∧ Below W.heap.size W w') := by
        by_cases h31 : t % 32 = 31
        · left
          refine ⟨h31, ?_⟩
          rw [wrapR, if_pos (by omega)] at hW2
          exact hW2
        · right
          rw [wrapR, if_neg (by omega), wrapV, if_neg (by simp; omega), ← hS] at hW2
          refine ⟨h31, hW2, fun W => ?_⟩
          have hr := read_any (S ++ b) W (by simp [ByteArray.size_append]; omega)
          have := read_back t.toNat c b (by omega) (by omega) (by omega)
          rw [← hS, show ((t.toNat : Nat) : Int) = t by omega] at this
          rw [this] at hr
          exact hr
      have g1 : ¬ 9223372036854775807 < S.size + b.size := by omega
      clear hW2 hS
      cases p : Tl.one b with
      | err c1 =>
        have q := Tl.one_err p
        have u0 : (c1 == 0) = false := by rw [beq_eq_false_iff_ne]; omega
        rw [p] at hO1
        clear p q hb hc
        unfold oneV at hO1
        go_enter Try.func5, Try.ntmps5
        go_wp2_with fail
        go_at_call 15
        refine (hO1 _).mono ?_
        rintro e w1 ⟨rfl, hb1⟩
        have hB1 := hb1.alloc hb1.size (.cells #[.int .i64 0, .string ⟨#[]⟩, .string ⟨#[]⟩] 32)
        clear hO1 hb1
        rcases h2 with ⟨h31, hW⟩ | ⟨h31, hW, hR⟩
        · have u1 : (t % 32 == 31) = true := by rw [beq_iff_eq]; exact h31
          clear h31 g1 hSs
          go_wp2_with fail
          go_at_call 13
          refine (hW _ _ ?hg).mono ?_
          case hg => simp
          rintro e wa ⟨rfl, hba⟩
          have hBa := behind (hB1.alloc hB1.size _) hba
          clear hba hW hB1
          go_wp2_with fail
          go_at_call 12
          refine (awake_any _).mono ?_
          rintro e wb ⟨rfl, hbb⟩
          have hBb := behind hBa hbb
          clear hbb hBa
          go_wp2
          go_ret
          exact ⟨rfl, hBb⟩
        · clear h31 hSs
          go_wp2_with fail
          go_at_call 13
          refine (hW _ _ ?hg).mono ?_
          case hg => simp
          rintro e wa ⟨rfl, hba⟩
          have hBa := behind (hB1.alloc hB1.size _) hba
          clear hba hW hB1
          go_wp2_with fail
          go_at_call 16
          refine (hR _).mono ?_
          rintro e wb ⟨rfl, hbb⟩
          have hBb := behind hBa hbb
          clear hbb hBa hR
          go_wp2_with fail
          go_at_call 12
          refine (awake_any _).mono ?_
          rintro e wc ⟨rfl, hbc⟩
          have hBc := behind (hBb.alloc hBb.size _) hbc
          obtain ⟨e3, rfl⟩ := (Ext.self (wb.alloc (.cells #[.int .i64 t, .string c, .string S] 32))).next hbc
          obtain ⟨z0, z1, z2⟩ := elt_cells t c S wb e3
          clear hBb hbc
          go_wp2
          go_ret
          exact ⟨rfl, hBc⟩
      | ok a n =>
        obtain ⟨k1, k2⟩ := one_back p (by omega)
        have hWx := wrap_st (Tl.byt b 0) (b.extract a (a + n)) (by simp [ByteArray.size_extract]; omega)
        rw [k1] at hWx
        rw [p] at hO1
        unfold oneV elV at hO1
        simp only at hO1
        rw [k2] at hO1
        clear p k1 k2 hb hc
        generalize b.extract a (a + n) = x at *
        generalize ((Tl.byt b 0 : Nat) : Int) = t5 at *
        go_enter Try.func5, Try.ntmps5
        go_wp2_with fail
        go_at_call 15
        refine (hO1 _).mono ?_
        rintro e w1 ⟨rfl, hb1⟩
        have hB1 := hb1.alloc hb1.size (.cells #[.int .i64 t5, .string x, .string b] 32)
        clear hO1 hb1
        go_wp2_with fail
        go_at_call 13
        refine (hWx _ _ ?hg).mono ?_
        case hg => simp
        rintro e w2 ⟨rfl, hb2⟩
        have hb3 := behind ((Below.refl _ (w1.alloc (.cells #[.int .i64 t5, .string x, .string b] 32))).alloc (Nat.le_refl _) (.cells #[.string x] 9)) hb2
        have hB2 := behind hB1 hb3
        obtain ⟨e2, rfl⟩ := (Ext.self (w1.alloc (.cells #[.int .i64 t5, .string x, .string b] 32))).next hb3
        obtain ⟨y0, y1, y2⟩ := elt_cells t5 x b w1 e2
        clear hb2 hb3 hB1 hWx
        rcases h2 with ⟨h31, hW⟩ | ⟨h31, hW, hR⟩
        · have u1 : (t % 32 == 31) = true := by rw [beq_iff_eq]; exact h31
          clear h31 g1 hSs
          go_wp2_with fail
          go_at_call 13
          refine (hW _ _ ?hg).mono ?_
          case hg => simp
          rintro e wa ⟨rfl, hba⟩
          have hBa := behind (hB2.alloc hB2.size _) hba
          clear hba hW hB2
          go_wp2_with fail
          go_at_call 12
          refine (awake_any _).mono ?_
          rintro e wb ⟨rfl, hbb⟩
          have hBb := behind hBa hbb
          clear hbb hBa
          go_wp2
          go_ret
          exact ⟨rfl, hBb⟩
        · clear h31 hSs
          go_wp2_with fail
          go_at_call 13
          refine (hW _ _ ?hg).mono ?_
          case hg => simp
          rintro e wa ⟨rfl, hba⟩
          have hBa := behind (hB2.alloc hB2.size _) hba
          clear hba hW hB2
          go_wp2_with fail
          go_at_call 16
          refine (hR _).mono ?_
          rintro e wb ⟨rfl, hbb⟩
          have hBb := behind hBa hbb
          clear hbb hBa hR
          go_wp2_with fail
          go_at_call 12
          refine (awake_any _).mono ?_
          rintro e wc ⟨rfl, hbc⟩
          have hBc := behind (hBb.alloc hBb.size _) hbc
          obtain ⟨e3, rfl⟩ := (Ext.self (wb.alloc (.cells #[.int .i64 t, .string c, .string S] 32))).next hbc
          obtain ⟨z0, z1, z2⟩ := elt_cells t c S wb e3
          clear hBb hbc
          go_wp2
          go_ret
          exact ⟨rfl, hBc⟩

end Go.Proofs.Ytmmoimemfdbfgaa
