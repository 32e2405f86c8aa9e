/-
  Arguments of the laws, opened: strings, nodes, mappings.
-/
/-
  The law's small; made.Few.
-/
import Derived.Test.YtmagjdocondmhaaTrKeys
import Derived.Deep.Slices
import Derived.Deep.Fields
import Derived.SliceStrings
import Derived.ChangeSame
import Derived.OpenShut
import Derived.ProofKit
import Derived.SizedLaws
namespace Go.Proofs.Ytmagjdocondmhaa.Tr
open Go Go.ChangeShapes Go.WideShapes Go.RowKit Go.Deep Go.Proofs.Ytmagjdocondmhaa.Slc Go.Proofs.Ytmagjdocondmhaa.Mp
set_option linter.unusedVariables false
set_option linter.unusedSimpArgs false
set_option maxRecDepth 10000

theorem i64_of {n : Int} (h : (Lit.int .i64 n).wf = true) : I64 n := (Lit.wf_int_iff _ _).1 h
theorem okw_slice {P : Program} {W : World} {r : Reach} {b0 len cap : Nat} {t e : TypeId} {a : Addr} (ht : P.underlying t = some (.slice e)) (h : Value.okWide P W r b0 t (.slice (some a) len cap)) : a.spot = none ∧ a.block < W.heap.size := by
  simp only [Value.okWide, ht, Cell.okWide, Cell.ok, World.has] at h
  obtain ⟨-, -, -, hs, row, cells, hsh, -⟩ := h
  refine ⟨hs, ?_⟩
  rcases Nat.lt_or_ge a.block W.heap.size with q | q
  · exact q
  · simp [World.shape?, Array.getElem?_eq_none q] at hsh
theorem cell_lt {w : World} {a : Addr} {v : Value} (h : w.cell? a = some v) : a.block < w.heap.size := by
  rcases Nat.lt_or_ge a.block w.heap.size with h' | h'
  · exact h'
  · simp [World.cell?, Array.getElem?_eq_none h'] at h
theorem flat_strs (l : List ByteArray) : (l.map fun s => s.data.toList).flatMap encS = l.map .string := by
  induction l with
  | nil => rfl
  | cons x l ih => rw [List.map_cons, List.flatMap_cons, ih, encS, bstr_back]; rfl
theorem flat_ix {α : Type} {enc : α → List Value} {z : Nat} (E : Enc z enc) : ∀ (l : List α) (j : Nat) (u : Value), (l.flatMap enc)[j]? = some u → ∃ k, ∃ hk : k < l.length, ∃ i, i < z ∧ j = k * z + i ∧ (enc (l[k]))[i]? = some u
  | [], j, u, h => by simp at h
  | x :: l, j, u, h => by
    rw [List.flatMap_cons] at h
    rcases Nat.lt_or_ge j z with q | q
    · rw [List.getElem?_append_left (by rw [E.len]; exact q)] at h
      exact ⟨0, by simp, j, q, by simp, h⟩
    · rw [List.getElem?_append_right (by rw [E.len]; exact q), E.len] at h
      obtain ⟨k, hk, i, hi, he, hu⟩ := flat_ix E l (j - z) u h
      exact ⟨k + 1, by simp; omega, i, hi, by rw [Nat.add_mul]; omega, by simpa using hu⟩
theorem weights_all {H : Type} {P : Program} {e : TypeId} {d : DataW H} {n : Nat} : ∀ {l : List (DataW H)}, d ∈ l → n ∈ d.weights P e → n ∈ DataW.weightsAll P e l
  | x :: l, hd, hn => by
    rw [DataW.weightsAll, List.mem_append]
    rcases List.mem_cons.1 hd with rfl | hd
    · exact .inl hn
    · exact .inr (weights_all hd hn)
theorem cells_str1 : Try.prog.cellsOf 9 = 1 := by kernel_rfl
theorem bytes_str1 : Try.prog.bytesOf 9 = 16 := by kernel_rfl
theorem cells_nod : Try.prog.cellsOf 56 = 4 := by kernel_rfl
theorem cells_mapg : Try.prog.cellsOf 50 = 2 := by kernel_rfl
theorem reach_val : reachBytes = 140737488351232 := by decide

theorem strs_trod {H : Type} {enc : TypeId × Value → H} {W : World} {fuel : Nat} {cs : List Value} {x : DataW H × List MemPlace}
    (h : DataW.trod enc Try.prog W 0 (fun _ => true) true fuel 35 cs = some x) :
    ∃ (u : Sl) (l : List B), cs = [u.val] ∧ Rq W u.val l ∧ (u.ad = none → u.c = 0) ∧ l.length ≤ 9223372036854775807 ∧ (∀ b ∈ l, b.length ≤ 9223372036854775807) ∧
      ((∀ n ∈ x.1.weights Try.prog 35, n ≤ reachBytes) → l.length * 16 ≤ 140737488351232) := by
  rcases open_strings Try.underlying35 Try.underlying9 cells_str1 h with ⟨rfl, rfl⟩ | ⟨a, len, cap, ss, rfl, _, hl, hm, hz, rfl, hcell, hsz⟩
  · exact ⟨⟨none, 0, 0⟩, [], rfl, .inr (.inl ⟨rfl, rfl⟩), fun _ => rfl, by simp, by simp, by simp⟩
  · simp only [if_true] at hz
    have hML : maxLen = 9223372036854775807 := rfl
    obtain ⟨bk, o, spot⟩ := a
    have hlen : (ss.take len).length = len := by simp; omega
    have hW : ((∀ n ∈ (DataW.slice (strs (H := H) (ss.take len)) (strs (ss.drop len))).weights Try.prog 35, n ≤ reachBytes) → len * 16 ≤ 140737488351232) := by
      intro hn
      have := hn _ (by rw [DataW.weights, Try.underlying35]; exact List.mem_cons_self)
      rw [bytes_str1, reach_val] at this
      have e1 : (strs (H := H) (ss.take len)).length = len := by rw [strs, List.length_map, hlen]
      omega
    rcases Nat.eq_zero_or_pos len with h0 | h0
    · subst h0
      exact ⟨⟨some ⟨bk, o, spot⟩, 0, cap⟩, [], rfl, .inl ⟨rfl, _, _, rfl⟩, (fun q => by cases q), by simp, by simp, by simp⟩
    · have hspot : spot = none := by simpa [Addr.add] using World.cell?_spot (hcell 0 (by omega))
      subst hspot
      have hb : bk < W.heap.size := cell_lt (hcell 0 (by omega))
      have hc : ∀ (j : Nat) y, (ss.take len)[j]? = some y → W.cell? ⟨bk, o + j, none⟩ = some (.string y) := by
        intro j y hj
        have hjl : j < len := by
          have := (List.getElem?_eq_some_iff.1 hj).1
          omega
        have hy : ss.getD j ByteArray.empty = y := by
          rw [List.getElem?_take_of_lt hjl] at hj
          simp [List.getD, hj]
        have := hcell j (by omega)
        rw [hy] at this
        rw [← this]
        congr 1
        unfold Addr.add; split
        · simp [*]
        · rfl
      refine ⟨⟨some ⟨bk, o, none⟩, len, cap⟩, (ss.take len).map fun s => s.data.toList, rfl, .inr (.inr ⟨bk, o, cap, by rw [List.length_map, hlen]; rfl, hb, by rw [List.length_map, hlen]; exact hl, fun j u hj => ?_⟩), (fun q => by cases q), ?_, fun x hx => ?_, ?_⟩
      · rw [flat_strs, List.getElem?_map] at hj
        cases hy : (ss.take len)[j]? with
        | none => rw [hy] at hj; cases hj
        | some y =>
          rw [hy] at hj
          simp only [Option.map_some, Option.some.injEq] at hj
          subst hj
          exact hc j y hy
      · rw [List.length_map, hlen]
        omega
      · rw [List.mem_map] at hx
        obtain ⟨s, hs, rfl⟩ := hx
        have h1 := hsz s (List.mem_of_mem_take hs)
        have h2 : s.data.toList.length = s.size := by rw [Array.length_toList]; rfl
        omega
      · rw [List.length_map, hlen]; exact hW
theorem strs_open {H : Type} {enc : TypeId × Value → H} {W : World} {b0 : Nat} {r : Reach} {v : Value} {d : DataW H} {p : List MemPlace}
    (hv : Value.okWide Try.prog W r b0 35 v) (h : DataW.Trod enc Try.prog W 0 (fun _ => true) true 35 v d p) :
    ∃ l : List B, Rd W encS v l ∧ l.length ≤ 9223372036854775807 ∧ ∀ x ∈ l, x.length ≤ 9223372036854775807 := by
  obtain ⟨a0, len, cap, rfl⟩ := okWide_slice Try.underlying35 hv
  obtain ⟨fuel, hf⟩ := h
  obtain ⟨⟨ua, un, uc⟩, l, hcs, hq, hn, hl, hb, -⟩ := strs_trod hf
  simp [Value.cells, Sl.val] at hcs
  obtain ⟨rfl, rfl, rfl⟩ := hcs
  refine ⟨l, ?_, hl, hb⟩
  rcases hq with ⟨rfl, a, c, he⟩ | hq
  · simp only [Sl.val, Value.slice.injEq] at he
    obtain ⟨rfl, rfl, rfl⟩ := he
    cases a0 with
    | none => exact .inl ⟨by rw [show cap = 0 from hn rfl], rfl⟩
    | some a =>
      obtain ⟨hsp, hlt⟩ := okw_slice Try.underlying35 hv
      obtain ⟨bk, o, spot⟩ := a
      simp only at hsp hlt
      subst hsp
      exact .inr ⟨bk, o, cap, rfl, hlt, Nat.zero_le _, fun j u hj => by simp at hj⟩
  · exact hq
/-- a node that came in -/
def NrAt (w : World) (x : Nt) : Prop := Rq w x.u.val x.n.ex ∧ x.n.pol.length ≤ 9223372036854775807 ∧ x.n.ex.length ≤ 8796093022208 ∧ ∀ b ∈ x.n.ex, b.length ≤ 9223372036854775807
theorem nod_trod {H : Type} {enc : TypeId × Value → H} {W : World} {fuel : Nat} {cs : List Value} {x : DataW H × List MemPlace}
    (h : DataW.trod enc Try.prog W 0 (fun _ => true) true fuel 56 cs = some x) (hz : ∀ n ∈ x.1.weights Try.prog 56, n ≤ reachBytes) :
    ∃ t : Nt, cs = encN t ∧ I64 t.n.d ∧ I64 t.n.p ∧ NrAt W t := by
  obtain ⟨ys, n, rfl, rfl, hlen, hyl, hf⟩ := DataW.trod_struct Try.underlying56 h
  rw [cells_nod] at hlen
  match cs, hlen with
  | [c0, c1, c2, c3], _ =>
    match ys, hyl with
    | [y0, y1, y2, y3], _ =>
      have f0 : DataW.trod enc Try.prog W 0 (fun _ => true) true n 3 (List.take (Try.prog.cellsOf 3) [c0, c1, c2, c3]) = some y0 := hf 0 _ rfl
      have f1 : DataW.trod enc Try.prog W 0 (fun _ => true) true n 3 (List.take (Try.prog.cellsOf 3) [c1, c2, c3]) = some y1 := hf 1 _ rfl
      have f2 : DataW.trod enc Try.prog W 0 (fun _ => true) true n 9 (List.take (Try.prog.cellsOf 9) [c2, c3]) = some y2 := hf 2 _ rfl
      have f3 : DataW.trod enc Try.prog W 0 (fun _ => true) true n 35 (List.take (Try.prog.cellsOf 35) [c3]) = some y3 := hf 3 _ rfl
      simp only [show Try.prog.cellsOf 3 = 1 from by kernel_rfl, show Try.prog.cellsOf 9 = 1 from by kernel_rfl, show Try.prog.cellsOf 35 = 1 from by kernel_rfl, List.take] at f0 f1 f2 f3
      obtain ⟨n0, e0, -, w0⟩ := DataW.trod_int Try.underlying3 f0
      obtain ⟨n1, e1, -, w1⟩ := DataW.trod_int Try.underlying3 f1
      obtain ⟨s2, e2, -, w2⟩ := DataW.trod_string Try.underlying9 f2
      obtain ⟨u, l, e3, hq, -, hl, hb, hw⟩ := strs_trod f3
      simp only [List.cons.injEq, and_true] at e0 e1 e2 e3
      subst e0 e1 e2 e3
      have h16 := hw fun n hn => hz n (by
        simp only [DataW.weights, Try.underlying56, List.map_cons, List.map_nil, DataW.weightsEach, List.mem_append]
        exact .inr (.inr (.inr (.inl hn))))
      have hML : maxLen = 9223372036854775807 := rfl
      refine ⟨⟨⟨n0, n1, s2.data.toList, l⟩, u⟩, ?_, i64_of w0, i64_of w1, hq, ?_, (by show l.length ≤ _; omega), hb⟩
      · show _ = [Value.int .i64 n0, .int .i64 n1, .string (bstr s2.data.toList), u.val]
        rw [bstr_back]
      · have h2 : s2.data.toList.length = s2.size := by rw [Array.length_toList]; rfl
        show s2.data.toList.length ≤ _
        omega
/-- nodes that came in -/
structure TR (w : World) (v : Value) (l : List Nt) : Prop where
  rd : Rd w encN v l
  at_ : ∀ x ∈ l, NrAt w x
theorem TR.below {w w' : World} {v : Value} {l : List Nt} (h : TR w v l) (hb : Below w.heap.size w w') : TR w' v l := ⟨h.rd.below hb, fun x hx => ⟨(h.at_ x hx).1.below hb, (h.at_ x hx).2⟩⟩
theorem nodes_open {H : Type} {enc : TypeId × Value → H} {W : World} {b0 : Nat} {r : Reach} {v : Value} {d : DataW H} {p : List MemPlace}
    (hv : Value.okWide Try.prog W r b0 23 v) (h : DataW.Trod enc Try.prog W 0 (fun _ => true) true 23 v d p) (hz : ∀ n ∈ d.weights Try.prog 23, n ≤ reachBytes) :
    ∃ l : List Nt, TR W v l ∧ l.length ≤ 9223372036854775807 := by
  obtain ⟨a0, len, cap, rfl⟩ := okWide_slice Try.underlying23 hv
  obtain ⟨fuel, hf⟩ := h
  rcases open_slice Try.underlying23 hf with ⟨hcs, hx⟩ | ⟨a, len', cap', m, n, D, Pl, hcs, _, hl, hm, hmm, hx, hi⟩
  · simp [Value.cells] at hcs
    obtain ⟨rfl, rfl, rfl⟩ := hcs
    exact ⟨[], ⟨Rd.nil W, (fun c hc => by cases hc)⟩, by simp⟩
  · simp [Value.cells] at hcs
    obtain ⟨rfl, rfl, rfl⟩ := hcs
    simp only [if_true] at hmm
    subst hmm
    simp only [Prod.mk.injEq] at hx
    obtain ⟨rfl, -⟩ := hx
    have hC : ∀ i : Fin len, ∃ c : Nt, NrAt W c ∧ W.cells? 0 (a.add (i.1 * 4)) 4 = some (encN c) := by
      intro i
      obtain ⟨cs', hc, ht⟩ := hi i.1 (by omega)
      rw [cells_nod] at hc
      obtain ⟨c, rfl, -, -, hin⟩ := nod_trod ht (fun n hn => hz n (by
        rw [DataW.weights, Try.underlying23]
        refine List.mem_cons_of_mem _ (List.mem_append.2 (.inl (weights_all ?_ hn)))
        rw [List.mem_map]
        exact ⟨i.1, List.mem_range.2 i.2, rfl⟩))
      exact ⟨c, hin, hc⟩
    obtain ⟨g, hg⟩ := Classical.axiomOfChoice hC
    obtain ⟨bk, o, spot⟩ := a
    obtain ⟨hsp, hb⟩ := okw_slice Try.underlying23 hv
    simp only at hsp hb
    subst hsp
    have key : ∀ k (hk : k < len), ∀ j u, (encN (g ⟨k, hk⟩))[j]? = some u → W.cell? ⟨bk, o + (k * 4 + j), none⟩ = some u := by
      intro k hk j u hj
      have hs := (hg ⟨k, hk⟩).2
      obtain ⟨_, _, hcell⟩ := World.cells?_some hs
      have hj8 : j < 4 := by have := (List.getElem?_eq_some_iff.1 hj).1; simpa [encN] using this
      have h0 := (hcell j hj8).trans hj
      rw [add_at, add_at, Nat.add_assoc] at h0
      exact h0
    · refine ⟨List.ofFn g, ⟨.inr ⟨bk, o, m, by rw [List.length_ofFn], hb, by simp; omega, fun j u hj => ?_⟩, fun c hc => ?_⟩, ?_⟩
      · obtain ⟨k, hk, i, hi2, he, hj2⟩ := flat_ix encN_ok (List.ofFn g) j u hj
        have hkl : k < len := by simpa using hk
        simp only [List.getElem_ofFn] at hj2
        rw [he]
        exact key k hkl i u hj2
      · rw [List.mem_ofFn] at hc
        obtain ⟨i, rfl⟩ := hc
        exact (hg i).1
      · simp only [List.length_ofFn]
        have : maxLen = 9223372036854775807 := by rfl
        omega
theorem map_trod {H : Type} {enc : TypeId × Value → H} {W : World} {fuel : Nat} {cs : List Value} {x : DataW H × List MemPlace}
    (h : DataW.trod enc Try.prog W 0 (fun _ => true) true fuel 50 cs = some x) :
    ∃ t : B × B, cs = encP t ∧ t.1.length ≤ 9223372036854775807 ∧ t.2.length ≤ 9223372036854775807 := by
  obtain ⟨ys, n, rfl, rfl, hlen, hyl, hf⟩ := DataW.trod_struct Try.underlying50 h
  rw [cells_mapg] at hlen
  match cs, hlen with
  | [c0, c1], _ =>
    match ys, hyl with
    | [y0, y1], _ =>
      have f0 : DataW.trod enc Try.prog W 0 (fun _ => true) true n 9 (List.take (Try.prog.cellsOf 9) [c0, c1]) = some y0 := hf 0 _ rfl
      have f1 : DataW.trod enc Try.prog W 0 (fun _ => true) true n 9 (List.take (Try.prog.cellsOf 9) [c1]) = some y1 := hf 1 _ rfl
      simp only [show Try.prog.cellsOf 9 = 1 from by kernel_rfl, List.take] at f0 f1
      obtain ⟨s0, e0, -, w0⟩ := DataW.trod_string Try.underlying9 f0
      obtain ⟨s1, e1, -, w1⟩ := DataW.trod_string Try.underlying9 f1
      simp only [List.cons.injEq, and_true] at e0 e1
      subst e0 e1
      have hML : maxLen = 9223372036854775807 := rfl
      refine ⟨(s0.data.toList, s1.data.toList), ?_, ?_, ?_⟩
      · show _ = [Value.string (bstr s0.data.toList), .string (bstr s1.data.toList)]
        rw [bstr_back, bstr_back]
      · have h2 : s0.data.toList.length = s0.size := by rw [Array.length_toList]; rfl
        show s0.data.toList.length ≤ _
        omega
      · have h2 : s1.data.toList.length = s1.size := by rw [Array.length_toList]; rfl
        show s1.data.toList.length ≤ _
        omega
theorem maps_open {H : Type} {enc : TypeId × Value → H} {W : World} {b0 : Nat} {r : Reach} {v : Value} {d : DataW H} {p : List MemPlace}
    (hv : Value.okWide Try.prog W r b0 41 v) (h : DataW.Trod enc Try.prog W 0 (fun _ => true) true 41 v d p) :
    ∃ l : List (B × B), Rd W encP v l ∧ (∀ x ∈ l, x.1.length ≤ 9223372036854775807 ∧ x.2.length ≤ 9223372036854775807) ∧ l.length ≤ 9223372036854775807 := by
  obtain ⟨a0, len, cap, rfl⟩ := okWide_slice Try.underlying41 hv
  obtain ⟨fuel, hf⟩ := h
  rcases open_slice Try.underlying41 hf with ⟨hcs, hx⟩ | ⟨a, len', cap', m, n, D, Pl, hcs, _, hl, hm, hmm, hx, hi⟩
  · simp [Value.cells] at hcs
    obtain ⟨rfl, rfl, rfl⟩ := hcs
    exact ⟨[], Rd.nil W, (fun c hc => by cases hc), by simp⟩
  · simp [Value.cells] at hcs
    obtain ⟨rfl, rfl, rfl⟩ := hcs
    simp only [if_true] at hmm
    subst hmm
    have hC : ∀ i : Fin len, ∃ c : B × B, (c.1.length ≤ 9223372036854775807 ∧ c.2.length ≤ 9223372036854775807) ∧ W.cells? 0 (a.add (i.1 * 2)) 2 = some (encP c) := by
      intro i
      obtain ⟨cs', hc, ht⟩ := hi i.1 (by omega)
      rw [cells_mapg] at hc
      obtain ⟨c, rfl, hin⟩ := map_trod ht
      exact ⟨c, hin, hc⟩
    obtain ⟨g, hg⟩ := Classical.axiomOfChoice hC
    obtain ⟨bk, o, spot⟩ := a
    obtain ⟨hsp, hb⟩ := okw_slice Try.underlying41 hv
    simp only at hsp hb
    subst hsp
    have key : ∀ k (hk : k < len), ∀ j u, (encP (g ⟨k, hk⟩))[j]? = some u → W.cell? ⟨bk, o + (k * 2 + j), none⟩ = some u := by
      intro k hk j u hj
      have hs := (hg ⟨k, hk⟩).2
      obtain ⟨_, _, hcell⟩ := World.cells?_some hs
      have hj8 : j < 2 := by have := (List.getElem?_eq_some_iff.1 hj).1; simpa [encP] using this
      have h0 := (hcell j hj8).trans hj
      rw [add_at, add_at, Nat.add_assoc] at h0
      exact h0
    · refine ⟨List.ofFn g, .inr ⟨bk, o, m, by rw [List.length_ofFn], hb, by simp; omega, fun j u hj => ?_⟩, fun c hc => ?_, ?_⟩
      · obtain ⟨k, hk, i, hi2, he, hj2⟩ := flat_ix encP_ok (List.ofFn g) j u hj
        have hkl : k < len := by simpa using hk
        simp only [List.getElem_ofFn] at hj2
        rw [he]
        exact key k hkl i u hj2
      · rw [List.mem_ofFn] at hc
        obtain ⟨i, rfl⟩ := hc
        exact (hg i).1
      · simp only [List.length_ofFn]
        have : maxLen = 9223372036854775807 := by rfl
        omega
end Go.Proofs.Ytmagjdocondmhaa.Tr

namespace Go.Proofs.Ytmagjdocondmhaa.Tr
open Go Go.RowKit Go.Proofs.Ytmagjdocondmhaa.Slc Go.Proofs.Ytmagjdocondmhaa.St Go.Proofs.Ytmagjdocondmhaa.Mp
set_option linter.unusedVariables false
set_option linter.unusedSimpArgs false
attribute [local go_sem] Oper.semAt_some

theorem TR.cells {w : World} {ad : Option Addr} {n c : Nat} {l : List Nt} (h : TR w (.slice ad n c) l) : n = l.length ∧ ∀ (W : World), Below w.heap.size w W → ∀ k (hk : k < l.length), ∃ b o, ad = some ⟨b, o, none⟩ ∧ b < w.heap.size ∧ W.cell? ⟨b, o + k * 4, none⟩ = some (.int .i64 (l[k]).n.d) ∧ W.cell? ⟨b, o + k * 4 + 1, none⟩ = some (.int .i64 (l[k]).n.p) ∧ W.cell? ⟨b, o + k * 4 + 2, none⟩ = some (.string (bstr (l[k]).n.pol)) ∧ W.cell? ⟨b, o + k * 4 + 3, none⟩ = some (l[k]).u.val := by
  obtain ⟨ad', c', hv, -⟩ := h.rd.form
  simp only [Value.slice.injEq] at hv
  refine ⟨hv.2.1, fun W hW k hk => ?_⟩
  obtain ⟨b, o, c, hv', _, hlt, hc⟩ := h.rd.cells encN_ok (by omega)
  simp only [Value.slice.injEq] at hv'
  have q := hc W (fun k' hk' => hW.block k' (h.rd.lt k' hk')) k hk
  exact ⟨b, o, hv'.1, hlt, q 0 _ (by omega) rfl, q 1 _ (by omega) rfl, q 2 _ (by omega) rfl, q 3 _ (by omega) rfl⟩
def shortL (l : List B) : Bool := l.all fun b => decide (b.length ≤ 100)
def shortX (x : Nd) : Bool := shortL x.ex && decide (x.pol.length ≤ 100)
def sumX (l : List Nt) : Nat := (l.map fun x => x.n.ex.length).sum
def smallB (l : List Nt) : Bool := (l.all fun x => shortX x.n) && (decide (l.length ≤ 40) && decide (sumX l ≤ 100))
theorem sumX_snoc (l : List Nt) (x : Nt) : sumX (l ++ [x]) = sumX l + x.n.ex.length := by simp [sumX]
theorem sumX_le : ∀ (l : List Nt) (x : Nt), x ∈ l → x.n.ex.length ≤ sumX l
  | y :: l, x, h => by
    simp only [sumX, List.map_cons, List.sum_cons]
    rcases List.mem_cons.1 h with rfl | h
    · omega
    · have := sumX_le l x h; unfold sumX at this; omega
theorem sumX_bd : ∀ (l : List Nt) (M : Nat), (∀ x ∈ l, x.n.ex.length ≤ M) → sumX l ≤ l.length * M
  | [], _, _ => by simp [sumX]
  | y :: l, M, h => by
    have h1 := sumX_bd l M (fun x hx => h x (List.mem_cons_of_mem _ hx))
    have h2 := h y List.mem_cons_self
    simp only [sumX, List.map_cons, List.sum_cons, List.length_cons, Nat.add_mul, Nat.one_mul] at *
    omega
theorem small_tq {w : World} {v : Value} {l : List Nt} (h : TR w v l) (hs : smallB l = true) : TQ w v l ∧ l.length ≤ 40 ∧ ∀ x ∈ l, x.n.ex.length ≤ 100 := by
  unfold smallB at hs
  simp only [Bool.and_eq_true, List.all_eq_true, decide_eq_true_eq] at hs
  obtain ⟨h1, h2, h3⟩ := hs
  have hx : ∀ x ∈ l, x.n.ex.length ≤ 100 := fun x hx => Nat.le_trans (sumX_le l x hx) h3
  refine ⟨⟨h.rd, fun x hm => ⟨(h.at_ x hm).1, ⟨?_, ?_⟩, ?_⟩⟩, h2, hx⟩
  · have := hx x hm; omega
  · intro b hb
    have := h1 x hm
    unfold shortX shortL at this
    simp only [Bool.and_eq_true, List.all_eq_true, decide_eq_true_eq] at this
    have := this.1 b hb; omega
  · have := h1 x hm
    unfold shortX at this
    simp only [Bool.and_eq_true, decide_eq_true_eq] at this
    omega
theorem i64_wrap (x : Int) : I64 (IntKind.i64.wrap x) := by
  rw [IntWalk.i64_left]
  unfold I64 wrap64; omega
set_option maxRecDepth 100000 in
set_option maxHeartbeats 2000000 in
theorem small_any (w : World) (v : Value) (l : List Nt) (h : TR w v l) (hn : l.length ≤ 9223372036854775807) :
    Calls Try.prog 10 #[v] w fun e w' => e = .returned (.bool (smallB l)) ∧ w = w' := by
  obtain ⟨ad, c, rfl, -⟩ := h.rd.form
  have HA := Bx.mk h.at_
  have HC := Bx.mk (h.cells.2 w (Below.refl _ _))
  obtain ⟨R, hR⟩ : ∃ R, R = smallB l := ⟨_, rfl⟩
  rw [← hR]
  have HR := Bx.mk hR
  obtain ⟨N, hN⟩ : ∃ N, N = l.length := ⟨_, rfl⟩
  have HN := Bx.mk hN
  rw [← hN] at hn ⊢
  clear hR hN h
  go_enter Try.func10, Try.ntmps10
  go_wp2_with fail
  go_loop [3, 4, 5] (fun n i _ => ∃ (k : Nat) (z : Int), k ≤ N ∧ i = .int .i64 (k : Int) ∧ n = .int .i64 z ∧ I64 z ∧ Bx (sumX (l.take k) ≤ 4611686018427387904 → z = (sumX (l.take k) : Nat)) ∧ Bx ((l.take k).all fun x => shortX x.n)) (fun _ i _ => N - (intOf i).toNat)
  case atStart => exact ⟨0, 0, Nat.zero_le _, rfl, rfl, by unfold I64; omega, ⟨by simp [sumX]⟩, ⟨rfl⟩⟩
  case round =>
    obtain ⟨k, z, hk, rfl, rfl, hz, hS, hok⟩ := hrel
    by_cases hlt : k < N
    · have hkl : k < l.length := by rw [← HN.out]; exact hlt
      obtain ⟨b, o, rfl, hbl, c0, c1, c2, c3⟩ := HC.out k hkl
      have hat := HA.out _ (List.getElem_mem hkl)
      have HTK := Bx.mk (List.take_succ_eq_append_getElem hkl)
      have HM := Bx.mk (List.getElem_mem hkl)
      obtain ⟨x, hx⟩ : ∃ x, x = l[k] := ⟨_, rfl⟩
      rw [← hx] at c0 c1 c2 c3 hat HTK HM
      obtain ⟨ua, uc, hu, -⟩ := hat.1.form
      have HQ := hat.1
      rw [hu] at c3 HQ
      have HCX := Bx.mk ((strs_cells_q HQ).2 w (Below.refl _ _))
      have hps : (bstr x.n.pol).size = x.n.pol.length := bstr_size _
      have hpl := hat.2.1
      have hel := hat.2.2.1
      have HEL := Bx.mk hat.2.2.2
      have HBAD := Bx.mk (show shortX x.n = false → R = false from fun h => by
        rw [HR.out]; unfold smallB; rw [Bool.and_eq_false_iff]; left
        rw [List.all_eq_false]
        exact ⟨x, HM.out, by rw [h]; simp⟩)
      obtain ⟨M, hM⟩ : ∃ M, M = x.n.ex.length := ⟨_, rfl⟩
      have HMM := Bx.mk hM
      rw [← hM] at c3 hel
      have HS2 := Bx.mk (show sumX (l.take (k + 1)) = sumX (l.take k) + M by rw [HTK.out, sumX_snoc, hM])
      have HOK2 := Bx.mk (show shortX x.n = true → ((l.take (k + 1)).all fun x => shortX x.n) = true from fun h => by
        rw [HTK.out, List.all_append, hok.out]; simp [h])
      obtain ⟨PL, hPL⟩ : ∃ PL, PL = x.n.pol.length := ⟨_, rfl⟩
      have HPL := Bx.mk hPL
      rw [← hPL] at hps hpl
      generalize bstr x.n.pol = S at *
      clear hat HQ hu hM hx hkl hPL hbl
      have HW := Bx.mk (show ∀ y : Int, wrap64 y = IntKind.i64.wrap y from fun y => (IntWalk.i64_left y).symm)
      go_wp2_with fail
      go_loop [5] (fun j => ∃ m : Nat, m ≤ M ∧ j = .int .i64 (m : Int) ∧ Bx (shortL (x.n.ex.take m) = true)) (fun j => M - (intOf j).toNat)
      case atStart => exact ⟨0, Nat.zero_le _, rfl, ⟨rfl⟩⟩
      case round =>
        obtain ⟨m, hm, rfl, hsm⟩ := hrel
        by_cases hlt2 : m < M
        · have hml : m < x.n.ex.length := by rw [← HMM.out]; exact hlt2
          obtain ⟨b2, o2, rfl, -, d0⟩ := HCX.out m hml
          have HTM := Bx.mk (List.take_succ_eq_append_getElem hml)
          have HME := Bx.mk (List.getElem_mem hml)
          obtain ⟨y, hy⟩ : ∃ y, y = x.n.ex[m] := ⟨_, rfl⟩
          rw [← hy] at d0 HTM HME
          have hys : (bstr y).size = y.length := bstr_size _
          have hyl := HEL.out y HME.out
          obtain ⟨Y, hY⟩ : ∃ Y, Y = y.length := ⟨_, rfl⟩
          have HY := Bx.mk hY
          rw [← hY] at hys hyl
          generalize bstr y = YS at *
          clear hy hml hY
          by_cases hq : Y ≤ 100
          · have t1 : decide ((Y : Int) > 100) = false := by rw [decide_eq_false_iff_not]; omega
            have HN2 := Bx.mk (show shortL (x.n.ex.take (m + 1)) = true by
              have := hsm.out
              unfold shortL at this ⊢
              rw [HTM.out, List.all_append, this]; simp [← HY.out, hq])
            clear hq
            go_wp2_with fail
            go_round
            case rel => exact ⟨m + 1, by omega, by go_num, HN2⟩
            case measure => simp [intOf]; omega
          · have t1 : decide ((Y : Int) > 100) = true := by rw [decide_eq_true_eq]; omega
            have HF := Bx.mk (HBAD.out (by
              unfold shortX shortL
              rw [Bool.and_eq_false_iff]; left
              rw [List.all_eq_false]
              exact ⟨y, HME.out, by simp [← HY.out, hq]⟩))
            clear hq
            go_wp2_with fail
            go_ret
            exact ⟨by rw [HF.out]; rfl, rfl⟩
        · obtain rfl : m = M := by omega
          have HSL := Bx.mk (show shortL x.n.ex = true by have := hsm.out; rw [HMM.out, List.take_length] at this; exact this)
          by_cases hq : PL ≤ 100
          · have t1 : decide ((PL : Int) > 100) = false := by rw [decide_eq_false_iff_not]; omega
            have HO := Bx.mk (HOK2.out (by unfold shortX; rw [HSL.out, ← HPL.out]; simp [hq]))
            clear hq
            go_wp2_with fail
            go_round
            case rel =>
              refine ⟨k + 1, IntKind.i64.wrap (z + (m : Nat)), by omega, by go_num, ?_, i64_wrap _, ⟨fun h => ?_⟩, HO⟩
              · rw [IntWalk.i64_left]
              · rw [HS2.out] at h ⊢
                rw [hS.out (by omega)]
                rw [IntWalk.i64_in _ (by omega)]; omega
            case measure => simp [intOf]; omega
          · have t1 : decide ((PL : Int) > 100) = true := by rw [decide_eq_true_eq]; omega
            have HF := Bx.mk (HBAD.out (by
              unfold shortX
              rw [Bool.and_eq_false_iff]; right
              rw [← HPL.out]; simpa using hq))
            clear hq
            go_wp2_with fail
            go_ret
            exact ⟨by rw [HF.out]; rfl, rfl⟩
    · obtain rfl : k = N := by omega
      have hR2 : R = (decide (k ≤ 40) && decide (sumX l ≤ 100)) := by
        rw [HR.out]; unfold smallB
        have := hok.out
        rw [HN.out, List.take_length] at this
        rw [this, Bool.true_and, ← HN.out]
      have HR2 := Bx.mk hR2
      clear hR2
      by_cases hq : k ≤ 40
      · have t1 : decide ((k : Int) ≤ 40) = true := by rw [decide_eq_true_eq]; omega
        have hsum : sumX l ≤ 4611686018427387904 := by
          have := sumX_bd l 8796093022208 (fun x hx => (HA.out x hx).2.2.1)
          rw [← HN.out] at this
          have h2 : k * 8796093022208 ≤ 40 * 8796093022208 := Nat.mul_le_mul_right _ hq
          omega
        have hzs : z = (sumX l : Nat) := by
          have := hS.out
          rw [HN.out, List.take_length] at this
          exact this hsum
        obtain ⟨s, hs⟩ : ∃ s, s = sumX l := ⟨_, rfl⟩
        rw [← hs] at hzs HR2
        have HR3 := Bx.mk (show R = decide ((s : Int) ≤ 100) by
          rw [HR2.out, decide_eq_true hq, Bool.true_and]
          by_cases q : s ≤ 100
          · rw [decide_eq_true q, decide_eq_true (by omega)]
          · rw [decide_eq_false q, decide_eq_false (by omega)])
        subst hzs
        clear hs hsum hq hz
        cases t2 : decide ((s : Int) ≤ 100) with
        | true =>
          rw [t2] at HR3
          go_wp2_with fail
          go_ret
          exact ⟨by rw [HR3.out]; rfl, rfl⟩
        | false =>
          rw [t2] at HR3
          go_wp2_with fail
          go_ret
          exact ⟨by rw [HR3.out]; rfl, rfl⟩
      · have t1 : decide ((k : Int) ≤ 40) = false := by rw [decide_eq_false_iff_not]; omega
        have HR3 := Bx.mk (show R = false by rw [HR2.out, decide_eq_false hq]; rfl)
        clear hq hz
        go_wp2_with fail
        go_ret
        exact ⟨by rw [HR3.out]; rfl, rfl⟩
def fewB (l : List B) (n m : Nat) : Bool := decide (l.length ≤ n) && l.all fun b => decide (b.length ≤ m)
set_option maxRecDepth 100000 in
theorem few_any (w : World) (v : Value) (l : List B) (n m : Nat) (h : Rd w encS v l) (hl : l.length ≤ 9223372036854775807) (hx : ∀ b ∈ l, b.length ≤ 9223372036854775807) (hn : n ≤ 1000000) (hm : m ≤ 1000000) :
    Calls Try.prog 31 #[v, .int .i64 n, .int .i64 m] w fun e w' => e = .returned (.bool (fewB l n m)) ∧ w = w' := by
  obtain ⟨ad, c, rfl, -⟩ := h.form
  have HC := Bx.mk ((strs_cells h).2 w (Below.refl _ _))
  have HX := Bx.mk hx
  obtain ⟨R, hR⟩ : ∃ R, R = fewB l n m := ⟨_, rfl⟩
  rw [← hR]
  have HR := Bx.mk hR
  obtain ⟨N, hN⟩ : ∃ N, N = l.length := ⟨_, rfl⟩
  have HN := Bx.mk hN
  rw [← hN] at hl ⊢
  clear hR hN h hx
  by_cases hq : N ≤ n
  · have t1 : decide ((N : Int) > (n : Int)) = false := by rw [decide_eq_false_iff_not]; omega
    have t2 : decide (n < N) = false := by rw [decide_eq_false_iff_not]; omega
    have HR2 := Bx.mk (show R = l.all fun b => decide (b.length ≤ m) by rw [HR.out]; unfold fewB; rw [← HN.out, decide_eq_true hq, Bool.true_and])
    go_enter Try.func31, Try.ntmps31
    go_wp2_with fail
    go_loop [8, 15] (fun _ i => ∃ k : Nat, k ≤ N ∧ i = .int .i64 (k : Int) ∧ Bx (((l.take k).all fun b => decide (b.length ≤ m)) = true)) (fun _ i => N - (intOf i).toNat)
    case atStart => exact ⟨0, Nat.zero_le _, rfl, ⟨rfl⟩⟩
    case round =>
      obtain ⟨k, hk, rfl, hok⟩ := hrel
      by_cases hlt : k < N
      · have hkl : k < l.length := by rw [← HN.out]; exact hlt
        obtain ⟨b2, o2, rfl, -, d0⟩ := HC.out k hkl
        have HTM := Bx.mk (List.take_succ_eq_append_getElem hkl)
        have HME := Bx.mk (List.getElem_mem hkl)
        obtain ⟨y, hy⟩ : ∃ y, y = l[k] := ⟨_, rfl⟩
        rw [← hy] at d0 HTM HME
        have hys : (bstr y).size = y.length := bstr_size _
        have hyl := HX.out y HME.out
        obtain ⟨Y, hY⟩ : ∃ Y, Y = y.length := ⟨_, rfl⟩
        have HY := Bx.mk hY
        rw [← hY] at hys hyl
        generalize bstr y = YS at *
        clear hy hkl hY
        by_cases hq2 : Y ≤ m
        · have t3 : decide ((Y : Int) > (m : Int)) = false := by rw [decide_eq_false_iff_not]; omega
          have t4 : decide (m < Y) = false := by rw [decide_eq_false_iff_not]; omega
          have HN2 := Bx.mk (show ((l.take (k + 1)).all fun b => decide (b.length ≤ m)) = true by
            rw [HTM.out, List.all_append, hok.out]; simp [← HY.out, hq2])
          go_wp2_with fail
          go_round
          case rel => exact ⟨k + 1, by omega, by go_num, HN2⟩
          case measure => simp [intOf]; omega
        · have t3 : decide ((Y : Int) > (m : Int)) = true := by rw [decide_eq_true_eq]; omega
          have t4 : decide (m < Y) = true := by rw [decide_eq_true_eq]; omega
          have HF := Bx.mk (show R = false by
            rw [HR2.out, List.all_eq_false]
            exact ⟨y, HME.out, by simp [← HY.out, hq2]⟩)
          go_wp2_with fail
          go_ret
          exact ⟨by rw [HF.out]; rfl, rfl⟩
      · obtain rfl : k = N := by omega
        have HF := Bx.mk (show R = true by rw [HR2.out]; have := hok.out; rw [HN.out, List.take_length] at this; exact this)
        go_wp2_with fail
        go_ret
        exact ⟨by rw [HF.out]; rfl, rfl⟩
  · have t1 : decide ((N : Int) > (n : Int)) = true := by rw [decide_eq_true_eq]; omega
    have t2 : decide (n < N) = true := by rw [decide_eq_true_eq]; omega
    have HR2 := Bx.mk (show R = false by rw [HR.out]; unfold fewB; rw [← HN.out, decide_eq_false hq, Bool.false_and])
    go_enter Try.func31, Try.ntmps31
    go_wp2_with fail
    go_ret
    exact ⟨by rw [HR2.out]; rfl, rfl⟩
end Go.Proofs.Ytmagjdocondmhaa.Tr
