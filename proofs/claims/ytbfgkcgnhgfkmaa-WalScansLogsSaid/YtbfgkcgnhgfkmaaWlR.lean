/-
  Arguments []string; short, join; logs that are cut off.
-/
import Derived.Test.YtbfgkcgnhgfkmaaWlM
import Derived.Test.YtbfgkcgnhgfkmaaDkNil
import Derived.OpenShut
import Derived.SliceStrings
import Derived.ProofKit
import Derived.Deep.Slices
namespace Go.Proofs.Ytbfgkcgnhgfkmaa.Wl
open Go Go.RowKit Go.ChangeShapes Go.WideShapes Go.Proofs.Ytbfgkcgnhgfkmaa.Slc Go.Proofs.Ytbfgkcgnhgfkmaa.Hs
open Go.Proofs.Ytbfgkcgnhgfkmaa.Dk (Fr ptr bstr bstr_size bstr_list bstr_back same_any)
set_option linter.unusedVariables false
set_option linter.unusedSimpArgs false

/-- a slice of strings that came in: it can be read, or it is empty -/
def Rq (w : World) (v : Value) (l : List B) : Prop := (l = [] ∧ ∃ a c, v = .slice a 0 c ∧ (a = none → c = 0)) ∨ Rd w Dk.encS v l
theorem Rq.form {w : World} {v : Value} {l : List B} (h : Rq w v l) : ∃ ad c, v = .slice ad l.length c := by
  rcases h with ⟨rfl, a, c, rfl, -⟩ | h
  · exact ⟨_, _, rfl⟩
  · obtain ⟨ad, c, h, -⟩ := h.form; exact ⟨_, _, h⟩
theorem Rq.below {w w' : World} {v : Value} {l : List B} (h : Rq w v l) (hb : Below w.heap.size w w') : Rq w' v l := h.imp id fun q => q.below hb
theorem Rq.rd {w : World} {v : Value} {l : List B} (h : Rq w v l) (hp : 0 < l.length) : Rd w Dk.encS v l := by
  rcases h with ⟨rfl, -⟩ | h
  · simp at hp
  · exact h
theorem cells_string : Try.prog.cellsOf 9 = 1 := by kernel_rfl
theorem cell_lt {w : World} {a : Addr} {v : Value} (h : w.cell? a = some v) : a.block < w.heap.size := by
  rcases Nat.lt_or_ge a.block w.heap.size with h' | h'
  · exact h'
  · simp [World.cell?, Array.getElem?_eq_none h'] at h
theorem flat_strs (l : List ByteArray) : (l.map fun s => s.data.toList).flatMap Dk.encS = l.map .string := by
  induction l with
  | nil => rfl
  | cons x l ih => rw [List.map_cons, List.flatMap_cons, ih, Dk.encS, bstr_back]; rfl
set_option maxRecDepth 10000 in
theorem strs_open {H : Type} {enc : TypeId × Value → H} {W : World} {b0 : Nat} {r : Reach} {v : Value} {d : DataW H} {p : List MemPlace}
    (hv : Value.okWide Try.prog W r b0 43 v) (h : DataW.Trod enc Try.prog W 0 (fun _ => true) true 43 v d p) :
    ∃ l : List B, Rq W v l ∧ l.length ≤ 9223372036854775807 ∧ ∀ x ∈ l, x.length ≤ 9223372036854775807 := by
  obtain ⟨a0, len, cap, rfl⟩ := Go.WideShapes.okWide_slice Try.underlying43 hv
  obtain ⟨fuel, hf⟩ := h
  rcases open_strings Try.underlying43 Try.underlying9 cells_string hf with ⟨hcs, hx⟩ | ⟨a, len', cap', ss, hcs, _, hl, hm, hz, hx, hcell, hsz⟩
  · simp [Value.cells] at hcs
    obtain ⟨rfl, rfl, rfl⟩ := hcs
    exact ⟨[], .inr (.inl ⟨rfl, rfl⟩), by simp, by simp⟩
  · simp [Value.cells] at hcs
    obtain ⟨rfl, rfl, rfl⟩ := hcs
    simp only [if_true] at hz
    obtain ⟨bk, o, spot⟩ := a
    rcases Nat.eq_zero_or_pos len with h0 | h0
    · subst h0; exact ⟨[], .inl ⟨rfl, _, _, rfl, fun q => by cases q⟩, by simp, by simp⟩
    · have hspot : spot = none := by simpa [Addr.add] using World.cell?_spot (hcell 0 (by omega))
      subst hspot
      have hb : bk < W.heap.size := cell_lt (hcell 0 (by omega))
      have hlen : (ss.take len).length = len := by simp; omega
      have hc : ∀ (j : Nat) y, (ss.take len)[j]? = some y → W.cell? ⟨bk, o + j, none⟩ = some (.string y) := by
        intro j y hj
        have hjl : j < len := by
          have := (List.getElem?_eq_some_iff.1 hj).1
          omega
        have hy : ss.getD j ByteArray.empty = y := by
          rw [List.getElem?_take_of_lt hjl] at hj
          simp [List.getD, hj]
        have := hcell j (by omega)
        rw [hy] at this
        rw [← this]
        congr 1
        unfold Addr.add; split
        · simp [*]
        · rfl
      refine ⟨(ss.take len).map fun s => s.data.toList, .inr (.inr ⟨bk, o, cap, by rw [List.length_map, hlen], hb, by rw [List.length_map, hlen]; exact hl, fun j u hj => ?_⟩), ?_, fun x hx => ?_⟩
      · rw [flat_strs, List.getElem?_map] at hj
        cases hy : (ss.take len)[j]? with
        | none => rw [hy] at hj; cases hj
        | some y =>
          rw [hy] at hj
          simp only [Option.map_some, Option.some.injEq] at hj
          subst hj
          exact hc j y hy
      · rw [List.length_map, hlen]
        have : maxLen = 9223372036854775807 := rfl
        omega
      · rw [List.mem_map] at hx
        obtain ⟨s, hs, rfl⟩ := hx
        have h1 := hsz s (List.mem_of_mem_take hs)
        have : maxLen = 9223372036854775807 := rfl
        have h2 : s.data.toList.length = s.size := by rw [Array.length_toList]; rfl
        omega

/-- the law's short -/
def shortS (l : List B) : Bool := (l.all fun x => decide (x.length ≤ 200)) && decide (l.length ≤ 20)
theorem shortS_len {l : List B} (h : shortS l = true) : l.length ≤ 20 ∧ ∀ x ∈ l, x.length ≤ 200 := by
  simp only [shortS, Bool.and_eq_true, decide_eq_true_eq, List.all_eq_true] at h; exact ⟨h.2, h.1⟩
set_option maxRecDepth 10000 in
theorem wshort_any (w : World) (v : Value) (l : List B) (hA : Rq w v l) (hl : l.length ≤ 9223372036854775807) (hx : ∀ x ∈ l, x.length ≤ 9223372036854775807) :
    Calls Try.prog 46 #[v] w fun e w' => e = .returned (.bool (shortS l)) ∧ w = w' := by
  obtain ⟨ad, c, rfl⟩ := hA.form
  have HA := Lib.hid hA
  have HX := Lib.hid hx
  clear hA hx
  go_enter Try.func46, Try.ntmps46
  go_wp2_with fail
  go_loop [3] (fun i => ∃ k : Nat, k ≤ l.length ∧ i = .int .i64 (k : Int) ∧ ((l.take k).all fun x => decide (x.length ≤ 200)) = true) (fun i => l.length - (intOf i).toNat)
  case atStart => exact ⟨0, Nat.zero_le _, rfl, rfl⟩
  case round =>
    obtain ⟨k, hk, rfl, hok⟩ := hrel
    have HOK := Lib.hid hok
    clear hok
    by_cases hlt : k < l.length
    · obtain ⟨b, o, c', hvf, -, -, hcell⟩ := (HA.out.rd (by omega)).cells Dk.encS_ok (by omega)
      simp only [Value.slice.injEq, true_and] at hvf
      obtain ⟨rfl, rfl⟩ := hvf
      have hcl := hcell w (fun _ _ => rfl) k hlt 0 _ (by omega) rfl
      simp only [Nat.mul_one, Nat.add_zero] at hcl
      have hsz := bstr_size l[k]
      have hxl := HX.out _ (List.getElem_mem hlt)
      have HNF := Lib.hid (show ¬ l[k].length ≤ 200 → shortS l = false from fun h => by
        unfold shortS
        rw [Bool.and_eq_false_iff]; left
        rw [List.all_eq_false]
        exact ⟨_, List.getElem_mem hlt, by simpa using h⟩)
      have HNT := Lib.hid (show l[k].length ≤ 200 → ((l.take (k + 1)).all fun x => decide (x.length ≤ 200)) = true from fun h => by
        rw [List.take_succ_eq_append_getElem hlt, List.all_append, HOK.out]; simp [h])
      clear hcell
      generalize l[k].length = ln at *
      generalize bstr l[k] = X at *
      by_cases hq : ln ≤ 200
      · have t1 : decide ((ln : Int) > 200) = false := by rw [decide_eq_false_iff_not]; omega
        have HT := Lib.hid (HNT.out hq)
        clear HNF HNT hq
        go_wp2_with fail
        go_round
        case rel => exact ⟨k + 1, by omega, by go_num, HT.out⟩
        case measure => simp [intOf]; omega
      · have t1 : decide ((ln : Int) > 200) = true := by rw [decide_eq_true_eq]; omega
        have HF := Lib.hid (HNF.out hq)
        clear HNF HNT hq
        go_wp2_with fail
        go_ret
        exact ⟨by rw [HF.out]; rfl, rfl⟩
    · obtain rfl : k = l.length := by omega
      have hq : shortS l = decide (l.length ≤ 20) := by unfold shortS; have := HOK.out; rw [List.take_length] at this; rw [this, Bool.true_and]
      by_cases hs : l.length ≤ 20
      · have t1 : decide ((l.length : Int) ≤ 20) = true := by rw [decide_eq_true_eq]; omega
        rw [decide_eq_true hs] at hq
        have HQ := Bx.mk hq
        clear hq hs
        go_wp2_with fail
        go_ret
        exact ⟨by rw [HQ.out]; rfl, rfl⟩
      · have t1 : decide ((l.length : Int) ≤ 20) = false := by rw [decide_eq_false_iff_not]; omega
        rw [decide_eq_false hs] at hq
        have HQ := Bx.mk hq
        clear hq hs
        go_wp2_with fail
        go_ret
        exact ⟨by rw [HQ.out]; rfl, rfl⟩

theorem frameR_ok (k : Nat) (d : B) (h : d.length ≤ 65536) : frameR (k : Int) d = (frameB k d, 0) := by
  unfold frameR
  rw [if_neg (by omega), if_neg (by omega), Int.toNat_natCast]
set_option maxRecDepth 10000 in
set_option maxHeartbeats 1000000 in
theorem join_any (w : World) (v : Value) (l : List B) (hA : Rq w v l) (hs : shortS l = true) :
    Calls Try.prog 47 #[v] w fun e w' => e = .returned (.string (bstr (joinB 0 l))) ∧ Below w.heap.size w w' := by
  obtain ⟨hll, hx⟩ := shortS_len hs
  obtain ⟨ad, c, rfl⟩ := hA.form
  have HA := Lib.hid hA
  have HX := Lib.hid hx
  clear hA hx hs
  have h0 : (bstr (joinB 0 (l.take 0)) : ByteArray) = ⟨#[]⟩ := by rw [List.take_zero]; rfl
  go_enter Try.func47, Try.ntmps47
  go_wp2_with fail
  go_loopw [3, 4, 5, 6] (fun s i _ _ wr => ∃ k : Nat, k ≤ l.length ∧ i = .int .i64 (k : Int) ∧ s = .string (bstr (joinB 0 (l.take k))) ∧ Below w.heap.size w wr) (fun _ i _ _ _ => l.length - (intOf i).toNat)
  case atStart => exact ⟨0, Nat.zero_le _, rfl, by rw [h0], Below.refl _ _⟩
  case round =>
    obtain ⟨k, hk, rfl, rfl, hb⟩ := hrel
    have HB := Lib.hid hb
    by_cases hlt : k < l.length
    · obtain ⟨b, o, c', hvf, -, -, hcell⟩ := ((HA.out.below hb).rd (by omega)).cells Dk.encS_ok (by omega)
      simp only [Value.slice.injEq, true_and] at hvf
      obtain ⟨rfl, rfl⟩ := hvf
      have hcl := hcell wr (fun _ _ => rfl) k hlt 0 _ (by omega) rfl
      simp only [Nat.mul_one, Nat.add_zero] at hcl
      have hxl := HX.out _ (List.getElem_mem hlt)
      have hfr := rFrame_any (k : Int) l[k] wr (by omega) (by omega)
      rw [frameR_ok k l[k] (by omega)] at hfr
      have hjl := joinB_len 200 (l.take k) 0 fun x hx => HX.out x (List.mem_of_mem_take hx)
      have hfl := frameB_len k l[k]
      have hcat := cat_b (joinB 0 (l.take k)) (frameB k l[k]) (by rw [List.length_take] at hjl; omega)
      rw [show joinB 0 (l.take k) ++ frameB k l[k] = joinB 0 (l.take (k + 1)) by
        rw [List.take_succ_eq_append_getElem hlt, joinB_snoc, List.length_take, Nat.zero_add, Nat.min_eq_left (by omega)]] at hcat
      have HFR := Lib.hid hfr
      clear hcell hxl hfr hjl hfl hb
      generalize bstr (frameB k l[k]) = FB at *
      generalize bstr l[k] = X at *
      generalize bstr (joinB 0 (l.take k)) = J0 at *
      generalize hJ1 : bstr (joinB 0 (l.take (k + 1))) = J1 at *
      have HJ1 := Bx.mk hJ1
      clear hJ1
      go_wp2_with fail
      go_at_call 49
      refine HFR.out.mono ?_
      rintro e w2 ⟨rfl, hb2⟩
      have HB2 := Lib.hid (HB.out.trans (hb2.mono HB.out.size))
      clear hb2
      go_wp2_with fail
      go_roundw
      case rel => exact ⟨k + 1, by omega, by go_num, by rw [HJ1.out], HB2.out⟩
      case measure => simp [intOf]; omega
    · obtain rfl : k = l.length := by omega
      rw [List.take_length]
      clear hb
      generalize hJ : bstr (joinB 0 l) = J at *
      have HJ := Bx.mk hJ
      clear hJ
      go_wp2_with fail
      go_ret
      exact ⟨by rw [HJ.out]; rfl, HB.out⟩

/-- a log that is cut off after n bytes: its first k records are complete -/
theorem join_take (l : List B) (k n : Nat) (hk : k < l.length) (h1 : (joinB 0 (l.take k)).length ≤ n) (h2 : n < (joinB 0 (l.take (k + 1))).length) :
    (joinB 0 l).take n = joinB 0 (l.take k) ++ (frameB k l[k]).take (n - (joinB 0 (l.take k)).length) ∧ n - (joinB 0 (l.take k)).length < (frameB k l[k]).length := by
  have e : l = l.take k ++ (l[k] :: l.drop (k + 1)) := by rw [← List.drop_eq_getElem_cons hk, List.take_append_drop]
  have ht : (l.take k).length = k := by rw [List.length_take]; omega
  have e2 : joinB 0 l = joinB 0 (l.take k) ++ (frameB k l[k] ++ joinB (k + 1) (l.drop (k + 1))) := by
    conv => lhs; rw [e]
    rw [joinB_append, joinB_cons, ht, Nat.zero_add]
  have e3 : joinB 0 (l.take (k + 1)) = joinB 0 (l.take k) ++ frameB k l[k] := by
    rw [List.take_succ_eq_append_getElem hk, joinB_snoc, ht, Nat.zero_add]
  rw [e3, List.length_append] at h2
  refine ⟨?_, by omega⟩
  rw [e2, List.take_append, List.take_of_length_le h1, List.take_append, show n - (joinB 0 (l.take k)).length - (frameB k l[k]).length = 0 by omega, List.take_zero, List.append_nil]
theorem scan_take (l : List B) (k n : Nat) (hl : Sm l) (hll : l.length ≤ 4096) (hk : k ≤ l.length) (hn : n ≤ (joinB 0 l).length) (h1 : (joinB 0 (l.take k)).length ≤ n) (h2 : k < l.length → n < (joinB 0 (l.take (k + 1))).length) :
    scanB ((joinB 0 l).take n) = some (l.take k, (joinB 0 (l.take k)).length) := by
  rcases Nat.lt_or_ge k l.length with q | q
  · obtain ⟨e1, e2⟩ := join_take l k n q h1 (h2 q)
    rw [e1]
    exact scan_cut (l.take k) l[k] k _ (fun x hx => hl x (List.mem_of_mem_take hx)) (by rw [List.length_take]; omega) e2 (hl _ (List.getElem_mem q))
  · obtain rfl : k = l.length := by omega
    rw [List.take_length] at h1 ⊢
    rw [List.take_of_length_le (by omega)]
    exact scan_whole l hl hll
end Go.Proofs.Ytbfgkcgnhgfkmaa.Wl
