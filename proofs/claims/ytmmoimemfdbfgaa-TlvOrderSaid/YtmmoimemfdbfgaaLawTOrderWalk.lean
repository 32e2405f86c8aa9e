/-
  The walk of TlvOrder: it returns true.
-/
import Derived.Test.YtmmoimemfdbfgaaTOrdPlain
import Derived.Test.YtmmoimemfdbfgaaTlvFew
import Derived.Test.YtmmoimemfdbfgaaTlvRWrap
namespace Go.Proofs.Ytmmoimemfdbfgaa
open Go Go.RowKit Go.Sort
open TO
set_option linter.unusedSimpArgs false

namespace TO
theorem behind {a w w' : World} (h : Below a.heap.size a w) (h' : Below w.heap.size w w') : Below a.heap.size a w' := h.trans (h'.mono h.size)
theorem st_strs (w : World) (x : ByteArray) : Strs (w.alloc (.cells #[.string x] 9)) (.slice (some ⟨w.heap.size, 0, none⟩) 1 1) [x] := by
  refine Strs.some w.heap.size 0 1 x [] (by simp) (by simp) (by unfold maxLen; simp) ?_
  intro j y hj
  rw [World.cell?_alloc_at _ _ _ _ rfl, Nat.zero_add]
  match j, hj with
  | 0, hj => simp at hj; subst hj; rfl
theorem rwrap_el (x : ByteArray) (h : x.size ≤ 1000) (w : World) (g : Nat) (hg : w.heap.size = g) :
    Calls Try.prog 14 #[.int .i64 4, .slice (some ⟨g, 0, none⟩) 1 1] (w.alloc (.cells #[.string x] 9)) fun e w' => e = .returned (.tuple #[.string ⟨(el4 x.data.toList).toArray⟩, .int .i64 0]) ∧ Below (w.alloc (.cells #[.string x] 9)).heap.size (w.alloc (.cells #[.string x] 9)) w' := by
  have f1 : Tl.flat [x] = x.data.toList := by simp [Tl.flat]
  have hl : x.data.toList.length = x.size := by simp
  have := rwrap_any 4 _ _ _ (st_strs w x) (by simp) (by rw [f1]; omega)
  rw [f1, wrapR, if_neg (by omega), wrapV, if_neg (by omega)] at this
  exact hg ▸ this
end TO

def Dis (a b : Value) : Prop := a.ownBlock = none ∨ a.ownBlock ≠ b.ownBlock
theorem Dis.symm {a b : Value} (h : Dis a b) : Dis b a := by
  unfold Dis at *
  cases hb : b.ownBlock with
  | none => exact .inl rfl
  | some k => rcases h with h | h <;> right <;> intro q <;> simp_all
theorem Dis.new {a a' b : Value} {n : Nat} (h : Dis a b) (hb : a'.ownBlock = a.ownBlock ∨ a'.ownBlock = some n) (hlt : ∀ k, b.ownBlock = some k → k < n) : Dis a' b := by
  unfold Dis at *
  rcases hb with hb | hb
  · rwa [hb]
  · right; rw [hb]; intro q; have := hlt n q.symm; omega
/-- what holds of the three slices -/
structure TOr (B : Nat) (rs ws : List (List UInt8)) (es : List Elt) (r wl el : Value) (w : World) : Prop where
  raw : OwnS w B r rs
  whole : OwnS w B wl ws
  elts : OwnE w B el es
  d1 : Dis r wl
  d2 : Dis wl el
  d3 : Dis r el
theorem TOr.ext {B : Nat} {rs ws : List (List UInt8)} {es : List Elt} {r wl el : Value} {W w : World} (h : TOr B rs ws es r wl el W) (hb : Below W.heap.size W w) : TOr B rs ws es r wl el w :=
  ⟨h.raw.ext hb, h.whole.ext hb, ownsRow_ext h.elts hb, h.d1, h.d2, h.d3⟩
theorem OwnS.keep {w w' : World} {B : Nat} {v a : Value} {ss : List (List UInt8)} (h : OwnS w B v ss) (hg : w.grownBy w' a.ownBlock) (hd : Dis v a) : OwnS w' B v ss := ⟨h.row.kept hg hd, h.nil⟩
theorem TOr.raw_step {B n : Nat} {rs ws ts : List (List UInt8)} {es : List Elt} {r r' wl el : Value} {W w : World} (h : TOr B rs ws es r wl el W) (hn : n = ts.length) (ha : Apd W B 9 1 r rs.length n (rs.map encStr) (ts.map encStr) r' w) : TOr B (rs ++ ts) ws es r' wl el w :=
  ⟨h.raw.apd rfl hn ha, h.whole.keep ha.grown h.d1.symm, World.ownsRow.kept h.elts ha.grown h.d3.symm, h.d1.new ha.blk fun k hk => (h.whole.row.lt k hk).2, h.d2, h.d3.new ha.blk fun k hk => (World.ownsRow.lt h.elts k hk).2⟩
theorem TOr.whole_step {B n : Nat} {rs ws ts : List (List UInt8)} {es : List Elt} {r wl' wl el : Value} {W w : World} (h : TOr B rs ws es r wl el W) (hn : n = ts.length) (ha : Apd W B 9 1 wl ws.length n (ws.map encStr) (ts.map encStr) wl' w) : TOr B rs (ws ++ ts) es r wl' el w :=
  ⟨h.raw.keep ha.grown h.d1, h.whole.apd rfl hn ha, World.ownsRow.kept h.elts ha.grown h.d2.symm, (h.d1.symm.new ha.blk fun k hk => (h.raw.row.lt k hk).2).symm, h.d2.new ha.blk fun k hk => (World.ownsRow.lt h.elts k hk).2, h.d3⟩
theorem TOr.elts_step {B : Nat} {rs ws : List (List UInt8)} {es : List Elt} {x : Elt} {r wl el el' : Value} {W w : World} (h : TOr B rs ws es r wl el W) (ha : Apd W B 32 3 el es.length 1 (es.flatMap Elt.cells) x.cells el' w) : TOr B rs ws (es ++ [x]) r wl el' w := by
  refine ⟨h.raw.keep ha.grown h.d3, h.whole.keep ha.grown h.d2, ?_, h.d1, (h.d2.symm.new ha.blk fun k hk => (h.whole.row.lt k hk).2).symm, (h.d3.symm.new ha.blk fun k hk => (h.raw.row.lt k hk).2).symm⟩
  have := ha.own
  unfold OwnE
  rw [List.length_append, List.flatMap_append]
  simpa using this

set_option maxHeartbeats 1000000 in
set_option maxRecDepth 10000 in
theorem law_torder (v : Value) (xs : List ByteArray) (w : World) (h : Strs w v xs) :
    Calls Try.prog 10 #[v] w fun e w' => e = .returned (.bool true) ∧ Below w.heap.size w w' := by
  have hF := few_any v xs 20 100 20 100 rfl rfl w h
  cases hf : few xs 20 100 with
  | false =>
    rw [hf] at hF
    go_enter Try.func10, Try.ntmps10
    go_wp2_with fail
    go_at_call 11
    refine hF.mono ?_
    rintro e w1 ⟨rfl, rfl⟩
    go_wp2_with fail
    go_at_call 12
    refine (awake_any _).mono ?_
    rintro e w1 ⟨rfl, hb1⟩
    go_wp2
    go_ret
    exact ⟨rfl, hb1⟩
  | true =>
    rw [hf] at hF
    obtain ⟨i0, hi, hz0, hz1, hz2⟩ := info_parts info_str
    obtain ⟨ei0, ehi, ehz0, ehz1, ehz2⟩ := info_parts info_elt
    unfold few at hf; simp only [Bool.and_eq_true, decide_eq_true_eq, List.all_eq_true] at hf
    obtain ⟨hlen, hall⟩ := hf
    obtain ⟨ad, n, cap, hv, hn, hcells⟩ : ∃ ad n cap, v = .slice ad n cap ∧ n = xs.length ∧ ∀ wr, Below w.heap.size w wr → ∀ k (hk : k < xs.length), ∃ bk o, ad = some ⟨bk, o, none⟩ ∧ wr.cell? ⟨bk, o + k, none⟩ = some (.string xs[k]) := by
      cases h with
      | none a c => exact ⟨_, _, _, rfl, rfl, fun wr hb k hk => by simp at hk⟩
      | some bk o c x xs hb hc hl h => exact ⟨_, _, _, rfl, rfl, fun wr hb' k hk => ⟨bk, o, rfl, by rw [hb'.cell (p := ⟨bk, o + k, none⟩) hb]; exact h k _ (List.getElem?_eq_getElem hk)⟩⟩
    subst hv hn
    have HC := Lib.hid hcells
    clear hcells h
    go_enter Try.func10, Try.ntmps10
    go_wp2_with fail
    go_at_call 11
    refine hF.mono ?_
    rintro e w1 ⟨rfl, rfl⟩
    clear hF
    go_wp2
    go_loopw [3, 4, 5, 18] (fun r wl el i wr => ∃ k : Nat, k ≤ xs.length ∧ i = .int .i64 k ∧ TOr w.heap.size ((xs.take k).map fun x => x.data.toList) (((xs.take k).map fun x => x.data.toList).map el4) (((xs.take k).map fun x => x.data.toList).map elt4) r wl el wr ∧ Below w.heap.size w wr) (fun _ _ _ i _ => xs.length - (intOf i).toNat)
    case atStart => exact ⟨0, by omega, rfl, ⟨OwnS.empty _ _, OwnS.empty _ _, OwnE.nil _ _, .inl rfl, .inl rfl, .inl rfl⟩, Below.refl _ _⟩
    case round =>
      obtain ⟨k, hk, rfl, ho, hB⟩ := hrel
      by_cases hlt : k < xs.length
      · obtain ⟨bk, o, hg, hcell⟩ := HC.out wr hB k hlt
        subst hg
        have hx1 := hall xs[k] (List.getElem_mem _)
        have hsn : (xs.take (k + 1)).map (fun x => x.data.toList) = (xs.take k).map (fun x => x.data.toList) ++ [xs[k].data.toList] := by rw [List.take_succ_eq_append_getElem hlt, List.map_append]; rfl
        have hsl : ((xs.take k).map fun x => x.data.toList).length = k := by rw [List.length_map, List.length_take]; omega
        have HSN := Lib.hid hsn
        have HSL := Lib.hid hsl
        have hW := rwrap_el xs[k] (by omega)
        have hx2 : (⟨xs[k].data.toList.toArray⟩ : ByteArray) = xs[k] := mk_self _
        clear hsn hsl HC
        generalize ((xs.take k).map fun x => x.data.toList) = cur at *
        generalize xs[k] = X at *
        generalize hS : (⟨(el4 X.data.toList).toArray⟩ : ByteArray) = S at *
        have HS := Lib.hid hS
        clear hS hx2 hx1
        go_wp2_with fail
        go_at_call 14
        refine (hW _ _ ?hg).mono ?_
        case hg => rfl
        rintro e w2 ⟨rfl, hb2⟩
        have hba := behind (((Below.refl _ wr).alloc (Nat.le_refl _) (.cells #[.string X] 9))) hb2
        have ho2 := ho.ext (hba.alloc hba.size (.cells #[.string X] 9))
        have hB2 := hB.trans ((hba.alloc hba.size (.cells #[.string X] 9)).mono hB.size)
        clear ho hb2 hW hba
        obtain ⟨hl1, hl2, hl3⟩ : cur.length = k ∧ (cur.map el4).length = k ∧ (cur.map elt4).length = k := by have := HSL.out; simp [this]
        have HL1 := Lib.hid hl1
        have HL2 := Lib.hid hl2
        have HL3 := Lib.hid hl3
        clear hl1 hl2 hl3
        generalize hcw : cur.map el4 = cw at *
        generalize hce : cur.map elt4 = ce at *
        have HCW := Lib.hid hcw
        have HCE := Lib.hid hce
        clear hcw hce
        obtain ⟨ad3, n3, c3, h3⟩ : ∃ ad n c, u3 = .slice ad n c := by rcases ho2.raw.form with ⟨q, _⟩ | ⟨g, c, q, _⟩ <;> exact ⟨_, _, _, q⟩
        obtain ⟨ad4, n4, c4, h4⟩ : ∃ ad n c, u4 = .slice ad n c := by rcases ho2.whole.form with ⟨q, _⟩ | ⟨g, c, q, _⟩ <;> exact ⟨_, _, _, q⟩
        obtain ⟨ad5, n5, c5, h5⟩ : ∃ ad n c, u5 = .slice ad n c := by rcases ho2.elts.form with ⟨a, c, q, _⟩ | ⟨g, c, q, _⟩ <;> exact ⟨_, _, _, q⟩
        subst h3 h4 h5
        have hsr : SrcV (w2.alloc (.cells #[.string X] 9)) 1 (.slice (some ⟨w2.heap.size, 0, none⟩) 1 1) 1 ([X.data.toList].map encStr) := src_one (by rw [mk_self]; exact heap_alloc_new _ _)
        have hsz2 := hB2.size
        go_wp2_with (at_builtin; refine wpList_append_any rfl _ _ _ rfl w.heap.size 9 i0 _ 1 16 Try.underlying22 hi hz0 hz1 hz2 rfl (by decide) _ cur.length (cur.map encStr) rfl ho2.raw.row _ 1 ([X.data.toList].map encStr) rfl hsr ?ap1 ?ap2 hsz2 ?_)
        case ap1 => have := HL1.out; unfold maxLen; omega
        case ap2 => have := HL1.out; omega
        intro v3 w3 ha
        have ho3 := ho2.raw_step (ts := [X.data.toList]) rfl ha
        have hB3 := hB2.grown ha.grown hB2.size (fun k hk => (ho2.raw.row.lt k hk).1)
        clear ha ho2 hB2 hsr hsz2
        have ho4 := ho3.ext ((Below.refl _ w3).alloc (Nat.le_refl _) (.cells #[.string S] 9))
        have hB4 := hB3.alloc hB3.size (.cells #[.string S] 9)
        have hsr : SrcV (w3.alloc (.cells #[.string S] 9)) 1 (.slice (some ⟨w3.heap.size, 0, none⟩) 1 1) 1 ([el4 X.data.toList].map encStr) := src_one (by rw [HS.out]; exact heap_alloc_new _ _)
        have hsz2 := hB4.size
        clear ho3 hB3
        go_wp2_with (at_builtin; refine wpList_append_any rfl _ _ _ rfl w.heap.size 9 i0 _ 1 16 Try.underlying22 hi hz0 hz1 hz2 rfl (by decide) _ cw.length (cw.map encStr) rfl ho4.whole.row _ 1 ([el4 X.data.toList].map encStr) rfl hsr ?bp1 ?bp2 hsz2 ?_)
        case bp1 => have := HL2.out; unfold maxLen; omega
        case bp2 => have := HL2.out; omega
        intro v4 w5 ha
        have ho5 := ho4.whole_step (ts := [el4 X.data.toList]) rfl ha
        have hB5 := hB4.grown ha.grown hB4.size (fun k hk => (ho4.whole.row.lt k hk).1)
        clear ha ho4 hB4 hsr hsz2
        have ho6 := ho5.ext ((Below.refl _ w5).alloc (Nat.le_refl _) (.cells #[.int .i64 4, .string X, .string S] 32))
        have hB6 := hB5.alloc hB5.size (.cells #[.int .i64 4, .string X, .string S] 32)
        have hsr : SrcV (w5.alloc (.cells #[.int .i64 4, .string X, .string S] 32)) 3 (.slice (some ⟨w5.heap.size, 0, none⟩) 1 1) 1 (elt4 X.data.toList).cells := by
          refine .ro _ _ _ _ rfl ?_ ?_
          · unfold elt4 Elt.cells; rw [mk_self, HS.out]; exact news3 _ _ _ _ _ rfl
          · intro u hu; simp [elt4, Elt.cells] at hu; rcases hu with rfl | rfl | rfl <;> rfl
        have hsz2 := hB6.size
        clear ho5 hB5
        go_wp2_with (at_builtin; refine wpList_append_any rfl _ _ _ rfl w.heap.size 32 ei0 _ 3 40 Try.underlying51 ehi ehz0 ehz1 ehz2 rfl (by decide) _ ce.length (ce.flatMap Elt.cells) rfl ho6.elts _ 1 (elt4 X.data.toList).cells rfl hsr ?cp1 ?cp2 hsz2 ?_)
        case cp1 => have := HL3.out; unfold maxLen; omega
        case cp2 => have := HL3.out; omega
        intro v5 w7 ha
        have ho7 := ho6.elts_step ha
        have hB7 := hB6.grown ha.grown hB6.size (fun k hk => (World.ownsRow.lt ho6.elts k hk).1)
        clear ha ho6 hB6 hsr hsz2
        go_wp2
        go_roundw
        case rel => exact ⟨k + 1, by omega, by go_num, by rw [HSN.out, List.map_append, List.map_append, HCW.out, HCE.out]; exact ho7, hB7⟩
        case measure => simp [intOf]; omega
      · obtain rfl : k = xs.length := by omega
        rw [List.take_length] at ho
        have hm : ∀ s ∈ xs.map (fun x => x.data.toList), s.length ≤ 100 := by
          intro s hs; obtain ⟨x, hx, rfl⟩ := List.mem_map.1 hs
          have := hall x hx; simpa using this
        have hsl : (xs.map fun x => x.data.toList).length = xs.length := by simp
        generalize (xs.map fun x => x.data.toList) = ss at *
        obtain ⟨l, hl1, hl2, hl3, hl4⟩ := ord_list ss hm (by omega)
        have hfr := sorted_flat_le 100 ss hm
        have hc1 : (ss.map el4).length = xs.length ∧ (ss.map elt4).length = xs.length := by simp [hsl]
        have hfw : (flatL (sorted (ss.map el4))).length ≤ 1000000 := by rw [size_mk] at hl4; omega
        have kO := fun W hb => order_any w.heap.size u3 ss W (ho.ext (W := wr) hb).raw (by omega) (by omega)
        have kR := fun W hb => rorder_any w.heap.size u3 ss W (ho.ext (W := wr) hb).raw (by omega) (by omega)
        have kW := fun W hb => order_any w.heap.size u4 _ W (ho.ext (W := wr) hb).whole (by omega) hfw
        have kA := fun W hb => asc_any u5 _ W w.heap.size (ho.ext (W := wr) hb).elts (by omega)
        have kB := fun W hb => rasc_any u5 _ W w.heap.size (ho.ext (W := wr) hb).elts (by omega)
        have kL := fun W => list_any ⟨(flatL (sorted (ss.map el4))).toArray⟩ W (by omega)
        have hll : l.length = xs.length := by omega
        rw [hl1] at kL
        clear hl1 hl2 hl4 hfr hc1 hfw hm hsl ho hk hlt hi hz0 hz1 hz2 ehi ehz0 ehz1 ehz2 HC hall
        generalize ascB (ss.map elt4) = ab at *
        generalize (⟨(flatL (sorted (ss.map el4))).toArray⟩ : ByteArray) = S1 at *
        generalize (⟨(flatL (sorted ss)).toArray⟩ : ByteArray) = S0 at *
        have hb0 := Below.refl wr.heap.size wr
        go_wp2_with fail
        go_at_call 22
        refine (kO _ hb0).mono ?_
        rintro e w1 ⟨rfl, hb1⟩
        have hb1 := behind hb0 hb1
        go_wp2_with fail
        go_at_call 23
        refine (kR _ hb1).mono ?_
        rintro e w2 ⟨rfl, hb2⟩
        have hb2 := behind hb1 hb2
        go_wp2_with fail
        go_at_call 24
        refine (kA _ hb2).mono ?_
        rintro e w3 ⟨rfl, hb3⟩
        have hb3 := behind hb2 hb3
        go_wp2_with fail
        go_at_call 25
        refine (kB _ hb3).mono ?_
        rintro e w4 ⟨rfl, hb4⟩
        have hb4 := behind hb3 hb4
        clear hb1 hb2 hb3 kO kR kA kB
        go_wp2_with fail
        go_at_call 22
        refine (kW _ hb4).mono ?_
        rintro e w5 ⟨rfl, hb5⟩
        have hb5 := behind hb4 hb5
        clear hb4 kW
        go_wp2_with fail
        go_at_call 26
        refine (kL _).mono ?_
        rintro e w6 ⟨m, rfl, hm, hb6⟩
        have hb6 := behind hb5 hb6
        clear hb5 kL
        have kM := fun W hb => asc_any m l W _ (ownsRow_ext (W := w6) hm hb) (by omega)
        rw [hl3] at kM
        obtain ⟨ad6, c6, hv6⟩ : ∃ ad c, m = .slice ad xs.length c := by
          rcases hm.form with ⟨a, c, q, q2⟩ | ⟨g, c, q, _⟩
          · subst q2; exact ⟨a, c, by rw [q, ← hll]; rfl⟩
          · exact ⟨_, c, by rw [q, hll]⟩
        subst hv6
        clear hm hl3 hll
        go_wp2_with fail
        go_at_call 12
        refine (awake_any _).mono ?_
        rintro e w7 ⟨rfl, hb7⟩
        have kM7 := kM _ hb7
        have hb7 := behind hb6 hb7
        clear hb6 kM
        go_wp2_with fail
        go_at_call 24
        refine kM7.mono ?_
        rintro e w8 ⟨rfl, hb8⟩
        have hb8 := hB.trans ((behind hb7 hb8).mono hB.size)
        clear hb7 kM7
        go_wp2
        go_ret
        exact ⟨rfl, hb8⟩

end Go.Proofs.Ytmmoimemfdbfgaa
