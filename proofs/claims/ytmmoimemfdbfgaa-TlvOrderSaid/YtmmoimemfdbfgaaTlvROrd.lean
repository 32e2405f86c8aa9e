/-
  The contract of the definition's Order.
-/
import Derived.Test.YtmmoimemfdbfgaaTlvOrd
namespace Go.Proofs.Ytmmoimemfdbfgaa
open Go Go.RowKit Go.Sort
set_option linter.unusedSimpArgs false

theorem leq_le (a b : List UInt8) : (Op.bytesLess (⟨a.toArray⟩ : ByteArray).toList (⟨b.toArray⟩ : ByteArray).toList || (⟨a.toArray⟩ : ByteArray).toList == (⟨b.toArray⟩ : ByteArray).toList) = Ins.le a b := by
  rw [ByteArray.toList_eq, ByteArray.toList_eq, bytesLess_eq, Ins.le]
  rw [Bool.eq_iff_iff]
  simp only [Bool.or_eq_true, decide_eq_true_eq, beq_iff_eq]
  constructor
  · rintro (h | h)
    · exact List.le_of_lt h
    · rw [h]; exact List.le_refl _
  · intro h
    by_cases e : a = b
    · exact .inr e
    · refine .inl ?_
      by_cases q : a < b
      · exact q
      · exact absurd (List.le_antisymm h (List.not_lt.1 q)) e

theorem mk_size (l : List UInt8) : (⟨l.toArray⟩ : ByteArray).size = l.length := by show l.toArray.size = _; simp

theorem OwnS.mono {w : World} {B B' : Nat} {v : Value} {ss : List (List UInt8)} (h : OwnS w B v ss) (hB : B' ≤ B) : OwnS w B' v ss := by
  refine ⟨⟨h.row.1, ?_⟩, h.nil⟩
  rcases h.row.2 with hn | ⟨g, cap, cur, hv, hb, rest⟩
  · exact .inl hn
  · exact .inr ⟨g, cap, cur, hv, Nat.le_trans hB hb, rest⟩

/-- the facts of the region that puts a string in its place -/
def OrdF (W0 : World) (sv u1 u2 : Value) (j : Nat) (x : List UInt8) (X : ByteArray) (cur : List (List UInt8)) : Nat → Value → World → Prop
  | 0, v, _ => v = sv
  | 1, v, _ => v = .int .i64 j
  | 2, v, _ => v = u1
  | 3, v, w => OwnS w W0.heap.size v (cur.take j)
  | 4, v, _ => v = .string X
  | 5, v, w => ∃ g : Nat, v = .slice (some ⟨g, 0, none⟩) 1 1 ∧ w.heap[g]? = some (.cells #[.string X] 9)
  | 6, v, w => OwnS w W0.heap.size v (cur.take j ++ [x])
  | 7, v, _ => v = sv
  | 8, v, _ => v = .int .i64 j
  | 9, v, _ => v = u2
  | _, _, _ => True
theorem OrdF.stable (W0 : World) (sv u1 u2 : Value) (j : Nat) (x : List UInt8) (X : ByteArray) (cur : List (List UInt8)) (i : Nat) (v : Value) (w w' : World) (h : OrdF W0 sv u1 u2 j x X cur i v w) (hb : Below w.heap.size w w') : OrdF W0 sv u1 u2 j x X cur i v w' := by
  match i with
  | 0 | 1 | 2 | 4 | 7 | 8 | 9 => exact h
  | 3 => exact OwnS.ext (B := W0.heap.size) h hb
  | 6 => exact OwnS.ext (B := W0.heap.size) h hb
  | 5 =>
    obtain ⟨g, h1, h2⟩ := h
    have hlt : g < w.heap.size := by
      rcases Nat.lt_or_ge g w.heap.size with q | q
      · exact q
      · rw [Array.getElem?_eq_none q] at h2; cases h2
    exact ⟨g, h1, by rw [hb.block g hlt]; exact h2⟩
  | _ + 10 => exact trivial
def ordCons : Nat → Option Nat
  | 3 => some 6
  | 5 => some 6
  | _ => none
theorem OrdF.big (W0 : World) (sv u1 u2 : Value) (j : Nat) (x : List UInt8) (X : ByteArray) (cur : List (List UInt8)) (b i : Nat) (v : Value) (w w' : World) (hb : (b == 6) = true) (hc : ordCons i ≠ some b) (hne : i ≠ b) (hi : i < 10) (h : OrdF W0 sv u1 u2 j x X cur i v w) : OrdF W0 sv u1 u2 j x X cur i v w' := by
  obtain rfl : b = 6 := by simpa using hb
  match i with
  | 0 | 1 | 2 | 4 | 7 | 8 | 9 => exact h
  | 3 => exact absurd rfl hc
  | 5 => exact absurd rfl hc
  | 6 => exact absurd rfl hne
  | _ + 10 => omega

set_option maxHeartbeats 2000000 in
theorem rorder_any (B : Nat) (v : Value) (ss : List (List UInt8)) (w : World) (h : OwnS w B v ss) (hl : ss.length ≤ 1000) (hf : (flatL (sorted ss)).length ≤ 1000000) :
    Calls Try.prog 23 #[v] w fun e w' => e = .returned (.string ⟨(flatL (sorted ss)).toArray⟩) ∧ Below w.heap.size w w' := by
  obtain ⟨i0, hi, hz0, hz1, hz2⟩ := info_parts info_str
  have hread : ∀ wr, Below w.heap.size w wr → ∀ k (hk : k < ss.length), ∃ g, (∃ c, v = .slice (some ⟨g, 0, none⟩) ss.length c) ∧ wr.cell? ⟨g, k, none⟩ = some (.string ⟨(ss[k]).toArray⟩) := by
    intro wr hb k hk
    rcases h.form with ⟨_, rfl⟩ | ⟨g, c, hv, hpos, hB, hlt, hc⟩
    · simp at hk
    · refine ⟨g, ⟨c, hv⟩, ?_⟩
      rw [hb.cell (p := ⟨g, k, none⟩) hlt]
      rw [hv] at h
      exact h.cell k hk
  have HR := Lib.hid hread
  obtain ⟨ad, n, cap, hv, hn⟩ : ∃ ad n cap, v = .slice ad n cap ∧ n = ss.length := by rcases h.form with ⟨rfl, h0⟩ | ⟨g, c, rfl, _⟩ <;> exact ⟨_, _, _, rfl, by simp [*]⟩
  subst hv
  subst hn
  clear h hread
  have hsort := Lib.hid (Ins.isort_eq ss)
  go_enter Try.func23, Try.ntmps23
  go_wp2
  go_loopw [3, 12] (fun s i wr => ∃ k : Nat, k ≤ ss.length ∧ i = .int .i64 k ∧ OwnS wr w.heap.size s (Ins.isort (ss.take k)) ∧ Below w.heap.size w wr) (fun _ i _ => ss.length - (intOf i).toNat)
  case atStart => exact ⟨0, by omega, rfl, OwnS.empty _ _, Below.refl _ _⟩
  case round =>
    obtain ⟨k, hk, rfl, ho, hB⟩ := hrel
    by_cases hlt : k < ss.length
    · obtain ⟨gv, ⟨cv, hgv⟩, hcell⟩ := HR.out wr hB k hlt
      simp only [Value.slice.injEq] at hgv
      obtain ⟨rfl, -, rfl⟩ := hgv
      have hsn : Ins.isort (ss.take (k + 1)) = Ins.insP ss[k] (Ins.isort (ss.take k)) := by rw [List.take_succ_eq_append_getElem hlt, Ins.isort_snoc]
      have hil : (Ins.isort (ss.take k)).length = k := by rw [Ins.isort_length, List.length_take]; omega
      have HSN := Lib.hid hsn
      have HIL := Lib.hid hil
      clear hsn hil
      generalize ss[k] = x at *
      generalize Ins.isort (ss.take k) = cur at *
      have hpl := Ins.place_le x cur
      rw [HIL.out] at hpl
      have hX1 : ∀ y : List UInt8, (Op.bytesLess (⟨y.toArray⟩ : ByteArray).toList (⟨x.toArray⟩ : ByteArray).toList || (⟨y.toArray⟩ : ByteArray).toList == (⟨x.toArray⟩ : ByteArray).toList) = Ins.le y x := fun y => leq_le y x
      generalize hXx : (⟨x.toArray⟩ : ByteArray) = X at *
      have HX := Lib.hid hXx
      have HX1 := Lib.hid hX1
      clear hX1 hXx
      obtain ⟨ad2, c2, hu3, hcells⟩ : ∃ ad2 c2, u3 = .slice ad2 cur.length c2 ∧ ∀ j (hj : j < cur.length), ∃ g, ad2 = some ⟨g, 0, none⟩ ∧ wr.cell? ⟨g, j, none⟩ = some (.string ⟨(cur[j]).toArray⟩) := by
        rcases ho.form with ⟨hv, rfl⟩ | ⟨g, c, hv, hpos, _, _, _⟩
        · exact ⟨_, _, hv, fun j hj => by simp at hj⟩
        · exact ⟨_, _, hv, fun j hj => ⟨g, rfl, by rw [hv] at ho; exact ho.cell j hj⟩⟩
      subst hu3
      have HC := Lib.hid hcells
      have hcl : cur.length ≤ 1000 := by have := HIL.out; omega
      obtain ⟨u1, hu1, hs1⟩ := ho.upto (Ins.place x cur) (Ins.place_le x cur)
      obtain ⟨u2, hu2, hs2⟩ := ho.rest (Ins.place x cur) (Ins.place_le x cur)
      have hat := Ins.place_at x cur
      have hlts : ∀ k (_ : k < Ins.place x cur) (hk' : k < cur.length), Ins.le cur[k] x = true := fun k hk _ => Ins.place_lt x cur k hk
      have HAT := Lib.hid hat
      have HLT := Lib.hid hlts
      have hple := Ins.place_le x cur
      have HU1 := Lib.hid hu1
      have HU2 := Lib.hid hu2
      have HIN : Ins.insP x cur = cur.take (Ins.place x cur) ++ [x] ++ cur.drop (Ins.place x cur) := rfl
      rw [HIN] at HSN
      clear hcells hat hlts hu1 hu2 hpl HIN
      generalize Ins.place x cur = pl at *
      go_wp2
      go_loop [6] (fun i => ∃ j : Nat, j ≤ pl ∧ i = .int .i64 j) (fun i => pl - (intOf i).toNat)
      case atStart => exact ⟨0, by omega, rfl⟩
      case round =>
        obtain ⟨j, hj, rfl⟩ := hrel
        by_cases hjl : j < pl
        · obtain ⟨g, hg, hc⟩ := HC.out j (by omega)
          subst hg
          have hq := HX1.out (cur[j]'(by omega))
          rw [HLT.out j hjl (by omega)] at hq
          have hjc : j < cur.length := by omega
          clear HX1
          generalize (⟨(cur[j]'(by omega)).toArray⟩ : ByteArray) = Y at *
          go_wp2
          go_round
          case rel => exact ⟨j + 1, by omega, by go_num⟩
          case measure => simp [intOf]; omega
        · obtain rfl : j = pl := by omega
          have hstop : ∀ (_ : j < cur.length), (Op.bytesLess (⟨(cur[j]).toArray⟩ : ByteArray).toList X.toList || (⟨(cur[j]).toArray⟩ : ByteArray).toList == X.toList) = false := fun q => by rw [HX1.out]; exact HAT.out q
          clear HX1 HLT HAT
          by_cases hjc : j < cur.length
          · have hq := hstop hjc
            obtain ⟨g, hg, hc⟩ := HC.out j hjc
            subst hg
            clear hstop
            generalize (⟨(cur[j]).toArray⟩ : ByteArray) = Y at *
            clear HC
            go_wp2_with fail
            refine wp_region_factsB 10 ordCons (· == 6) (OrdF wr (.slice (some ⟨g, 0, none⟩) cur.length c2) u1 u2 j x X cur) (by kernel_rfl) (by kernel_rfl) (by rfl) (OrdF.stable wr _ u1 u2 j x X cur) (fun b i v w1 w' hb hc hne hi h _ _ => OrdF.big wr _ u1 u2 j x X cur b i v w1 w' hb hc hne hi h) ?_ ?_
            · intro i o hi0 ho1 xs w1 hb hd
              have hcs : i = 0 ∨ i = 1 ∨ i = 2 ∨ i = 3 ∨ i = 4 ∨ i = 5 ∨ i = 6 ∨ i = 7 ∨ i = 8 ∨ i = 9 := by omega
              simp only [List.take_succ_cons, List.take_zero, putFrom, Act.put, List.setIfInBounds_toArray, List.set_cons_succ, List.set_cons_zero, Nat.zero_add, Nat.reduceAdd]
              have hu1 := HU1.out
              have hu2 := HU2.out
              have hjt : j = (cur.take j).length := by rw [List.length_take]; omega
              have HJT := Lib.hid hjt
              clear hjt
              rcases hcs with rfl | rfl | rfl | rfl | rfl | rfl | rfl | rfl | rfl | rfl
              all_goals
                simp only [List.getElem?_cons_succ, List.getElem?_cons_zero, Option.some.injEq] at ho1
                subst ho1
                simp [NeedsB, Region.binds, OrdF, ordCons] at hd
              · go_wp2_with fail
                exact ⟨rfl, rfl, rfl, Below.refl _ _⟩
              · go_wp2_with fail
                exact ⟨rfl, rfl, rfl, Below.refl _ _⟩
              · obtain ⟨hd1, hd2⟩ := hd
                go_wp2_with fail
                exact ⟨rfl, rfl, rfl, Below.refl _ _⟩
              · skip
                have hsr : SrcV w1 1 (xs 2) j ((cur.take j).map encStr) := by rw [hd]; exact hs1.below hb
                clear hd hu1 hu2
                go_wp2_with (at_builtin; refine wpList_append_any rfl _ _ _ rfl wr.heap.size 9 i0 _ 1 16 Try.underlying22 hi hz0 hz1 hz2 rfl (by decide) _ 0 [] rfl (World.ownsRow_nil _ _ _ _) _ j ((cur.take j).map encStr) rfl hsr ?ap1 ?ap2 hb.size ?_)
                case ap1 => unfold maxLen; omega
                case ap2 => omega
                intro v' w2 ha
                have ho2 := (OwnS.empty w1 wr.heap.size).apd' (ts := cur.take j) (by simp) (by simp) rfl HJT.out ha
                rw [List.nil_append] at ho2
                have hb2 : Below w1.heap.size w1 w2 := (Below.refl w1.heap.size w1).grown ha.grown (Nat.le_refl _) (fun k hk => by cases hk)
                clear ha
                go_wp2_with fail
                exact ⟨rfl, rfl, ho2, hb2⟩
              · go_wp2_with fail
                exact ⟨rfl, rfl, rfl, Below.refl _ _⟩
              · go_wp2_with fail
                exact ⟨rfl, rfl, ⟨_, rfl, heap_alloc_new _ _⟩, (Below.refl _ _).alloc (Nat.le_refl _) _⟩
              · skip
                obtain ⟨hd1, ⟨g5, h5, hb5⟩, -⟩ := hd
                have hsr : SrcV w1 1 (xs 5) 1 ([x].map encStr) := by rw [h5]; exact src_one (by rw [HX.out]; exact hb5)
                clear h5 hb5 hu1 hu2
                go_wp2_with (at_builtin; refine wpList_append_any rfl _ _ _ rfl wr.heap.size 9 i0 _ 1 16 Try.underlying22 hi hz0 hz1 hz2 rfl (by decide) _ (cur.take j).length ((cur.take j).map encStr) rfl hd1.row _ 1 ([x].map encStr) rfl hsr ?bp1 ?bp2 hb.size ?_)
                case bp1 => have := HJT.out; unfold maxLen; omega
                case bp2 => have := HJT.out; omega
                intro v' w2 ha
                have ho2 := hd1.apd' (ts := [x]) (by simp) (by simp) HJT.out rfl ha
                have hb2 : Below wr.heap.size w1 w2 := (Below.refl wr.heap.size w1).grown ha.grown hb.size (fun k hk => (hd1.row.lt k hk).1)
                clear ha
                go_wp2_with fail
                exact ⟨rfl, rfl, ho2, hb2⟩
              · go_wp2_with fail
                exact ⟨rfl, rfl, rfl, Below.refl _ _⟩
              · go_wp2_with fail
                exact ⟨rfl, rfl, rfl, Below.refl _ _⟩
              · obtain ⟨hd1, hd2⟩ := hd
                go_wp2_with fail
                exact ⟨rfl, rfl, rfl, Below.refl _ _⟩
            · intro xs w1 hb hf1
              have f0 := hf1 0 (by omega) (fun c hc => by simp [ordCons] at hc)
              have f1 := hf1 1 (by omega) (fun c hc => by simp [ordCons] at hc)
              have f2 := hf1 2 (by omega) (fun c hc => by simp [ordCons] at hc)
              have f4 := hf1 4 (by omega) (fun c hc => by simp [ordCons] at hc)
              have f6 := hf1 6 (by omega) (fun c hc => by simp [ordCons] at hc)
              have f7 := hf1 7 (by omega) (fun c hc => by simp [ordCons] at hc)
              have f8 := hf1 8 (by omega) (fun c hc => by simp [ordCons] at hc)
              have f9 := hf1 9 (by omega) (fun c hc => by simp [ordCons] at hc)
              simp only [OrdF] at f0 f1 f2 f4 f6 f7 f8 f9
              clear hf1
              simp only [List.take_succ_cons, List.take_zero, List.drop_succ_cons, List.drop_zero, putFrom, Act.put, List.setIfInBounds_toArray, List.set_cons_succ, List.set_cons_zero, Nat.zero_add, Nat.reduceAdd, f0, f1, f2, f4, f7, f8, f9]
              have hl6 : (cur.take j ++ [x]).length = j + 1 := by rw [List.length_append, List.length_take, List.length_singleton]; omega
              have HL6 := Lib.hid hl6
              have hsr : SrcV w1 1 u2 (cur.length - j) ((cur.drop j).map encStr) := hs2.below hb
              clear f0 f1 f2 f4 f7 f8 f9 hl6
              generalize xs 3 = y3 at *
              generalize xs 5 = y5 at *
              generalize xs 6 = y6 at *
              clear xs
              go_wp2_with (at_builtin; refine wpList_append_any rfl _ _ _ rfl wr.heap.size 9 i0 _ 1 16 Try.underlying22 hi hz0 hz1 hz2 rfl (by decide) _ (cur.take j ++ [x]).length ((cur.take j ++ [x]).map encStr) rfl f6.row _ (cur.length - j) ((cur.drop j).map encStr) rfl hsr ?cp1 ?cp2 hb.size ?_)
              case cp1 => have := HL6.out; unfold maxLen; omega
              case cp2 => have := HL6.out; omega
              intro v' w2 ha
              have ho2 := f6.apd' (ts := cur.drop j) (by simp) (by simp) HL6.out.symm (by rw [List.length_drop]) ha
              have hB2 : Below w.heap.size w w2 := hB.trans ((hb.grown ha.grown hb.size (fun k hk => (f6.row.lt k hk).1)).mono hB.size)
              have ho3 := ho2.mono hB.size
              clear ha ho2 f6
              go_wp2
              go_roundw
              case rel => exact ⟨k + 1, by omega, by go_num, by rw [HSN.out]; exact ho3, hB2⟩
              case measure => simp [intOf]; omega
          · clear hstop HC
            go_wp2_with fail
            refine wp_region_factsB 10 ordCons (· == 6) (OrdF wr (.slice ad2 cur.length c2) u1 u2 j x X cur) (by kernel_rfl) (by kernel_rfl) (by rfl) (OrdF.stable wr _ u1 u2 j x X cur) (fun b i v w1 w' hb hc hne hi h _ _ => OrdF.big wr _ u1 u2 j x X cur b i v w1 w' hb hc hne hi h) ?_ ?_
            · intro i o hi0 ho1 xs w1 hb hd
              have hcs : i = 0 ∨ i = 1 ∨ i = 2 ∨ i = 3 ∨ i = 4 ∨ i = 5 ∨ i = 6 ∨ i = 7 ∨ i = 8 ∨ i = 9 := by omega
              simp only [List.take_succ_cons, List.take_zero, putFrom, Act.put, List.setIfInBounds_toArray, List.set_cons_succ, List.set_cons_zero, Nat.zero_add, Nat.reduceAdd]
              have hu1 := HU1.out
              have hu2 := HU2.out
              have hjt : j = (cur.take j).length := by rw [List.length_take]; omega
              have HJT := Lib.hid hjt
              clear hjt
              rcases hcs with rfl | rfl | rfl | rfl | rfl | rfl | rfl | rfl | rfl | rfl
              all_goals
                simp only [List.getElem?_cons_succ, List.getElem?_cons_zero, Option.some.injEq] at ho1
                subst ho1
                simp [NeedsB, Region.binds, OrdF, ordCons] at hd
              · go_wp2_with fail
                exact ⟨rfl, rfl, rfl, Below.refl _ _⟩
              · go_wp2_with fail
                exact ⟨rfl, rfl, rfl, Below.refl _ _⟩
              · obtain ⟨hd1, hd2⟩ := hd
                go_wp2_with fail
                exact ⟨rfl, rfl, rfl, Below.refl _ _⟩
              · have hsr : SrcV w1 1 (xs 2) j ((cur.take j).map encStr) := by rw [hd]; exact hs1.below hb
                clear hd hu1 hu2
                go_wp2_with (at_builtin; refine wpList_append_any rfl _ _ _ rfl wr.heap.size 9 i0 _ 1 16 Try.underlying22 hi hz0 hz1 hz2 rfl (by decide) _ 0 [] rfl (World.ownsRow_nil _ _ _ _) _ j ((cur.take j).map encStr) rfl hsr ?aq1 ?aq2 hb.size ?_)
                case aq1 => unfold maxLen; omega
                case aq2 => omega
                intro v' w2 ha
                have ho2 := (OwnS.empty w1 wr.heap.size).apd' (ts := cur.take j) (by simp) (by simp) rfl HJT.out ha
                rw [List.nil_append] at ho2
                have hb2 : Below w1.heap.size w1 w2 := (Below.refl w1.heap.size w1).grown ha.grown (Nat.le_refl _) (fun k hk => by cases hk)
                clear ha
                go_wp2_with fail
                exact ⟨rfl, rfl, ho2, hb2⟩
              · go_wp2_with fail
                exact ⟨rfl, rfl, rfl, Below.refl _ _⟩
              · go_wp2_with fail
                exact ⟨rfl, rfl, ⟨_, rfl, heap_alloc_new _ _⟩, (Below.refl _ _).alloc (Nat.le_refl _) _⟩
              · skip
                obtain ⟨hd1, ⟨g5, h5, hb5⟩, -⟩ := hd
                have hsr : SrcV w1 1 (xs 5) 1 ([x].map encStr) := by rw [h5]; exact src_one (by rw [HX.out]; exact hb5)
                clear h5 hb5 hu1 hu2
                go_wp2_with (at_builtin; refine wpList_append_any rfl _ _ _ rfl wr.heap.size 9 i0 _ 1 16 Try.underlying22 hi hz0 hz1 hz2 rfl (by decide) _ (cur.take j).length ((cur.take j).map encStr) rfl hd1.row _ 1 ([x].map encStr) rfl hsr ?bq1 ?bq2 hb.size ?_)
                case bq1 => have := HJT.out; unfold maxLen; omega
                case bq2 => have := HJT.out; omega
                intro v' w2 ha
                have ho2 := hd1.apd' (ts := [x]) (by simp) (by simp) HJT.out rfl ha
                have hb2 : Below wr.heap.size w1 w2 := (Below.refl wr.heap.size w1).grown ha.grown hb.size (fun k hk => (hd1.row.lt k hk).1)
                clear ha
                go_wp2_with fail
                exact ⟨rfl, rfl, ho2, hb2⟩
              · go_wp2_with fail
                exact ⟨rfl, rfl, rfl, Below.refl _ _⟩
              · go_wp2_with fail
                exact ⟨rfl, rfl, rfl, Below.refl _ _⟩
              · obtain ⟨hd1, hd2⟩ := hd
                go_wp2_with fail
                exact ⟨rfl, rfl, rfl, Below.refl _ _⟩
            · intro xs w1 hb hf1
              have f0 := hf1 0 (by omega) (fun c hc => by simp [ordCons] at hc)
              have f1 := hf1 1 (by omega) (fun c hc => by simp [ordCons] at hc)
              have f2 := hf1 2 (by omega) (fun c hc => by simp [ordCons] at hc)
              have f4 := hf1 4 (by omega) (fun c hc => by simp [ordCons] at hc)
              have f6 := hf1 6 (by omega) (fun c hc => by simp [ordCons] at hc)
              have f7 := hf1 7 (by omega) (fun c hc => by simp [ordCons] at hc)
              have f8 := hf1 8 (by omega) (fun c hc => by simp [ordCons] at hc)
              have f9 := hf1 9 (by omega) (fun c hc => by simp [ordCons] at hc)
              simp only [OrdF] at f0 f1 f2 f4 f6 f7 f8 f9
              clear hf1
              simp only [List.take_succ_cons, List.take_zero, List.drop_succ_cons, List.drop_zero, putFrom, Act.put, List.setIfInBounds_toArray, List.set_cons_succ, List.set_cons_zero, Nat.zero_add, Nat.reduceAdd, f0, f1, f2, f4, f7, f8, f9]
              have hl6 : (cur.take j ++ [x]).length = j + 1 := by rw [List.length_append, List.length_take, List.length_singleton]; omega
              have HL6 := Lib.hid hl6
              have hsr : SrcV w1 1 u2 (cur.length - j) ((cur.drop j).map encStr) := hs2.below hb
              clear f0 f1 f2 f4 f7 f8 f9 hl6
              generalize xs 3 = y3 at *
              generalize xs 5 = y5 at *
              generalize xs 6 = y6 at *
              clear xs
              go_wp2_with (at_builtin; refine wpList_append_any rfl _ _ _ rfl wr.heap.size 9 i0 _ 1 16 Try.underlying22 hi hz0 hz1 hz2 rfl (by decide) _ (cur.take j ++ [x]).length ((cur.take j ++ [x]).map encStr) rfl f6.row _ (cur.length - j) ((cur.drop j).map encStr) rfl hsr ?cq1 ?cq2 hb.size ?_)
              case cq1 => have := HL6.out; unfold maxLen; omega
              case cq2 => have := HL6.out; omega
              intro v' w2 ha
              have ho2 := f6.apd' (ts := cur.drop j) (by simp) (by simp) HL6.out.symm (by rw [List.length_drop]) ha
              have hB2 : Below w.heap.size w w2 := hB.trans ((hb.grown ha.grown hb.size (fun k hk => (f6.row.lt k hk).1)).mono hB.size)
              have ho3 := ho2.mono hB.size
              clear ha ho2 f6
              go_wp2
              go_roundw
              case rel => exact ⟨k + 1, by omega, by go_num, by rw [HSN.out]; exact ho3, hB2⟩
              case measure => simp [intOf]; omega
    · obtain rfl : k = ss.length := by omega
      rw [List.take_length] at ho
      rw [hsort.out] at ho
      change OwnS wr w.heap.size u3 (sorted ss) at ho
      clear HR hsort
      have hsl := sorted_length ss
      generalize hso : sorted ss = so at *
      have HSO := Lib.hid hso
      clear hso
      obtain ⟨ad2, c2, hu3, hcells⟩ : ∃ ad2 c2, u3 = .slice ad2 so.length c2 ∧ ∀ j (hj : j < so.length), ∃ g, ad2 = some ⟨g, 0, none⟩ ∧ wr.cell? ⟨g, j, none⟩ = some (.string ⟨(so[j]).toArray⟩) := by
        rcases ho.form with ⟨hv, rfl⟩ | ⟨g, c, hv, hpos, _, _, _⟩
        · exact ⟨_, _, hv, fun j hj => by simp at hj⟩
        · exact ⟨_, _, hv, fun j hj => ⟨g, rfl, by rw [hv] at ho; exact ho.cell j hj⟩⟩
      subst hu3
      have HC := Lib.hid hcells
      have hsl2 : so.length ≤ 1000 := by omega
      clear hcells ho hsl hk hlt hi hz0 hz1 hz2
      go_wp2
      go_loop [7, 44] (fun s i => ∃ j : Nat, j ≤ so.length ∧ i = .int .i64 j ∧ s = .string ⟨(flatL (so.take j)).toArray⟩) (fun _ i => so.length - (intOf i).toNat)
      case atStart => exact ⟨0, by omega, rfl, rfl⟩
      case round =>
        obtain ⟨j, hj, rfl, rfl⟩ := hrel
        by_cases hjl : j < so.length
        · obtain ⟨g, hg, hc⟩ := HC.out j hjl
          subst hg
          have hfl : flatL (so.take (j + 1)) = flatL (so.take j) ++ so[j] := by
            rw [List.take_succ_eq_append_getElem hjl]; unfold flatL; rw [List.flatten_append, List.flatten_cons, List.flatten_nil, List.append_nil]
          have hle : (flatL (so.take (j + 1))).length ≤ (flatL so).length := by
            have e : flatL so = flatL (so.take (j + 1)) ++ flatL (so.drop (j + 1)) := by unfold flatL; rw [← List.flatten_append, List.take_append_drop]
            rw [e, List.length_append]; omega
          have hcat : (⟨(flatL (so.take j)).toArray⟩ : ByteArray) ++ ⟨(so[j]).toArray⟩ = ⟨(flatL (so.take (j + 1))).toArray⟩ := by
            rw [hfl]; apply ByteArray.ext; simp
          have hsz : (⟨(flatL (so.take j)).toArray⟩ : ByteArray).size + (⟨(so[j]).toArray⟩ : ByteArray).size ≤ 1000000 := by
            rw [mk_size, mk_size]
            have := congrArg List.length hfl
            rw [List.length_append] at this; omega
          have a1 := fun W : World => run_string_add_sum (P := Try.prog) W ⟨(flatL (so.take j)).toArray⟩ ⟨(so[j]).toArray⟩ (by omega)
          rw [hcat] at a1
          clear HC hfl hle hcat
          have g1 : ¬ 9223372036854775807 < (⟨(flatL (so.take j)).toArray⟩ : ByteArray).size + (⟨(so[j]).toArray⟩ : ByteArray).size := by omega
          generalize (⟨(so[j]).toArray⟩ : ByteArray) = Y at *
          generalize (⟨(flatL (so.take j)).toArray⟩ : ByteArray) = Z at *
          generalize hZ : (⟨(flatL (so.take (j + 1))).toArray⟩ : ByteArray) = Z1 at *
          have HZ := Lib.hid hZ
          clear hZ
          go_wp2
          go_round
          case rel => exact ⟨j + 1, by omega, by go_num, by rw [HZ.out]⟩
          case measure => simp [intOf]; omega
        · obtain rfl : j = so.length := by omega
          rw [List.take_length]
          clear HC
          go_wp2
          go_ret
          exact ⟨by rw [HSO.out]; rfl, hB⟩

end Go.Proofs.Ytmmoimemfdbfgaa
