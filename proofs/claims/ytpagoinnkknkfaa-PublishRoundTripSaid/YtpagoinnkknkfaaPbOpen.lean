/-
  Arguments of the laws, opened: changes and issued certificates. (Written by wip/gen/gen_pbop.py.)
-/
import Derived.Test.YtpagoinnkknkfaaPbAwake
import Derived.Deep.Slices
import Derived.Deep.Fields
import Derived.ChangeSame
import Derived.OpenShut
import Derived.ProofKit
namespace Go.Proofs.Ytpagoinnkknkfaa.Pb
open Go Go.ChangeShapes Go.WideShapes Go.RowKit Go.Deep Go.Proofs.Ytpagoinnkknkfaa.Slc
set_option linter.unusedVariables false
set_option linter.unusedSimpArgs false
set_option maxRecDepth 10000

theorem i64_of {n : Int} (h : (Lit.int .i64 n).wf = true) : I64 n := (Lit.wf_int_iff _ _).1 h
theorem add_at2 (b o j : Nat) : (⟨b, o, none⟩ : Addr).add j = ⟨b, o + j, none⟩ := by
  by_cases h : j = 0 <;> simp [Addr.add, h]
theorem okw_slice {P : Program} {W : World} {r : Reach} {b0 len cap : Nat} {t e : TypeId} {a : Addr} (ht : P.underlying t = some (.slice e)) (h : Value.okWide P W r b0 t (.slice (some a) len cap)) : a.spot = none ∧ a.block < W.heap.size := by
  simp only [Value.okWide, ht, Cell.okWide, Cell.ok, World.has] at h
  obtain ⟨-, -, -, hs, row, cells, hsh, -⟩ := h
  refine ⟨hs, ?_⟩
  rcases Nat.lt_or_ge a.block W.heap.size with q | q
  · exact q
  · simp [World.shape?, Array.getElem?_eq_none q] at hsh
/-- all numbers of a change are ints -/
def Ch.In (c : Ch) : Prop := I64 c.s ∧ I64 c.t ∧ I64 c.r ∧ I64 c.v
theorem cells_ch : Try.prog.cellsOf 24 = 4 := by kernel_rfl
theorem cells_iss : Try.prog.cellsOf 50 = 3 := by kernel_rfl
theorem ch_cells {H : Type} {enc : TypeId × Value → H} {W : World} {base fuel : Nat} {sp : Nat → Bool} {held : Bool} {cs : List Value} {x : DataW H × List MemPlace}
    (h : DataW.trod enc Try.prog W base sp held fuel 24 cs = some x) : ∃ c : Ch, c.In ∧ cs = encC c := by
  obtain ⟨ys, n, rfl, rfl, hlen, hyl, hf⟩ := DataW.trod_struct Try.underlying24 h
  rw [cells_ch] at hlen
  match cs, hlen with
  | [c0, c1, c2, c3], _ =>
    match ys, hyl with
    | [y0, y1, y2, y3], _ =>
      have f0 : DataW.trod enc Try.prog W base sp held n 3 (List.take (Try.prog.cellsOf 3) [c0, c1, c2, c3]) = some y0 := hf 0 _ rfl
      have f1 : DataW.trod enc Try.prog W base sp held n 3 (List.take (Try.prog.cellsOf 3) [c1, c2, c3]) = some y1 := hf 1 _ rfl
      have f2 : DataW.trod enc Try.prog W base sp held n 3 (List.take (Try.prog.cellsOf 3) [c2, c3]) = some y2 := hf 2 _ rfl
      have f3 : DataW.trod enc Try.prog W base sp held n 3 (List.take (Try.prog.cellsOf 3) [c3]) = some y3 := hf 3 _ rfl
      simp only [show Try.prog.cellsOf 3 = 1 from by kernel_rfl, List.take] at f0 f1 f2 f3
      obtain ⟨n0, e0, -, w0⟩ := DataW.trod_int Try.underlying3 f0
      obtain ⟨n1, e1, -, w1⟩ := DataW.trod_int Try.underlying3 f1
      obtain ⟨n2, e2, -, w2⟩ := DataW.trod_int Try.underlying3 f2
      obtain ⟨n3, e3, -, w3⟩ := DataW.trod_int Try.underlying3 f3
      simp only [List.cons.injEq, and_true] at e0 e1 e2 e3
      subst e0 e1 e2 e3
      exact ⟨⟨n0, n1, n2, n3⟩, ⟨i64_of w0, i64_of w1, i64_of w2, i64_of w3⟩, rfl⟩
def Iss.In (c : Iss) : Prop := I64 c.s
theorem iss_cells {H : Type} {enc : TypeId × Value → H} {W : World} {base fuel : Nat} {sp : Nat → Bool} {held : Bool} {cs : List Value} {x : DataW H × List MemPlace}
    (h : DataW.trod enc Try.prog W base sp held fuel 50 cs = some x) : ∃ c : Iss, c.In ∧ cs = encI c := by
  obtain ⟨ys, n, rfl, rfl, hlen, hyl, hf⟩ := DataW.trod_struct Try.underlying50 h
  rw [cells_iss] at hlen
  match cs, hlen with
  | [c0, c1, c2], _ =>
    match ys, hyl with
    | [y0, y1, y2], _ =>
      have f0 : DataW.trod enc Try.prog W base sp held n 3 (List.take (Try.prog.cellsOf 3) [c0, c1, c2]) = some y0 := hf 0 _ rfl
      have f1 : DataW.trod enc Try.prog W base sp held n 4 (List.take (Try.prog.cellsOf 4) [c1, c2]) = some y1 := hf 1 _ rfl
      have f2 : DataW.trod enc Try.prog W base sp held n 9 (List.take (Try.prog.cellsOf 9) [c2]) = some y2 := hf 2 _ rfl
      simp only [show Try.prog.cellsOf 3 = 1 from by kernel_rfl, show Try.prog.cellsOf 4 = 1 from by kernel_rfl, show Try.prog.cellsOf 9 = 1 from by kernel_rfl, List.take] at f0 f1 f2
      obtain ⟨n0, e0, -, w0⟩ := DataW.trod_int Try.underlying3 f0
      obtain ⟨b1, e1, -⟩ := DataW.trod_bool Try.underlying4 f1
      obtain ⟨s2, e2, -, w2⟩ := DataW.trod_string Try.underlying9 f2
      simp only [List.cons.injEq, and_true] at e0 e1 e2
      subst e0 e1 e2
      exact ⟨⟨n0, b1, s2⟩, i64_of w0, rfl⟩
theorem flat_at {α : Type} {enc : α → List Value} {z : Nat} (E : Enc z enc) : ∀ (l : List α) (j : Nat) (u : Value), (l.flatMap enc)[j]? = some u → ∃ k, ∃ hk : k < l.length, ∃ i, i < z ∧ j = k * z + i ∧ (enc (l[k]))[i]? = some u
  | [], j, u, h => by simp at h
  | x :: l, j, u, h => by
    rw [List.flatMap_cons] at h
    rcases Nat.lt_or_ge j z with q | q
    · rw [List.getElem?_append_left (by rw [E.len]; exact q)] at h
      exact ⟨0, by simp, j, q, by simp, h⟩
    · rw [List.getElem?_append_right (by rw [E.len]; exact q), E.len] at h
      obtain ⟨k, hk, i, hi, he, hu⟩ := flat_at E l (j - z) u h
      exact ⟨k + 1, by simp; omega, i, hi, by rw [Nat.add_mul]; omega, by simpa using hu⟩
theorem chs_open {H : Type} {enc : TypeId × Value → H} {W : World} {b0 : Nat} {r : Reach} {v : Value} {d : DataW H} {p : List MemPlace}
    (hv : Value.okWide Try.prog W r b0 27 v) (h : DataW.Trod enc Try.prog W 0 (fun _ => true) true 27 v d p) :
    ∃ l : List Ch, Rd W encC v l ∧ (∀ c ∈ l, c.In) ∧ l.length ≤ 9223372036854775807 := by
  obtain ⟨a0, len, cap, rfl⟩ := okWide_slice Try.underlying27 hv
  obtain ⟨fuel, hf⟩ := h
  rcases open_slice Try.underlying27 hf with ⟨hcs, hx⟩ | ⟨a, len', cap', m, n, D, Pl, hcs, _, hl, hm, hmm, hx, hi⟩
  · simp [Value.cells] at hcs
    obtain ⟨rfl, rfl, rfl⟩ := hcs
    exact ⟨[], Rd.nil W, (fun c hc => by cases hc), by simp⟩
  · simp [Value.cells] at hcs
    obtain ⟨rfl, rfl, rfl⟩ := hcs
    simp only [if_true] at hmm
    subst hmm
    have hC : ∀ i : Fin len, ∃ c : Ch, c.In ∧ W.cells? 0 (a.add (i.1 * 4)) 4 = some (encC c) := by
      intro i
      obtain ⟨cs', hc, ht⟩ := hi i.1 (by omega)
      rw [cells_ch] at hc
      obtain ⟨c, hin, rfl⟩ := ch_cells ht
      exact ⟨c, hin, hc⟩
    obtain ⟨g, hg⟩ := Classical.axiomOfChoice hC
    obtain ⟨bk, o, spot⟩ := a
    obtain ⟨hsp, hb⟩ := okw_slice Try.underlying27 hv
    simp only at hsp hb
    subst hsp
    have key : ∀ k (hk : k < len), ∀ j u, (encC (g ⟨k, hk⟩))[j]? = some u → W.cell? ⟨bk, o + (k * 4 + j), none⟩ = some u := by
      intro k hk j u hj
      have hs := (hg ⟨k, hk⟩).2
      obtain ⟨_, _, hcell⟩ := World.cells?_some hs
      have hj8 : j < 4 := by have := (List.getElem?_eq_some_iff.1 hj).1; simpa [encC] using this
      have h0 := (hcell j hj8).trans hj
      rw [add_at2, add_at2, Nat.add_assoc] at h0
      exact h0
    · refine ⟨List.ofFn g, .inr ⟨bk, o, m, by rw [List.length_ofFn], hb, by simp; omega, fun j u hj => ?_⟩, fun c hc => ?_, ?_⟩
      · obtain ⟨k, hk, i, hi2, he, hj2⟩ := flat_at encC_ok (List.ofFn g) j u hj
        have hkl : k < len := by simpa using hk
        simp only [List.getElem_ofFn] at hj2
        rw [he]
        exact key k hkl i u hj2
      · rw [List.mem_ofFn] at hc
        obtain ⟨i, rfl⟩ := hc
        exact (hg i).1
      · simp only [List.length_ofFn]
        have : maxLen = 9223372036854775807 := by rfl
        omega
theorem isss_open {H : Type} {enc : TypeId × Value → H} {W : World} {b0 : Nat} {r : Reach} {v : Value} {d : DataW H} {p : List MemPlace}
    (hv : Value.okWide Try.prog W r b0 46 v) (h : DataW.Trod enc Try.prog W 0 (fun _ => true) true 46 v d p) :
    ∃ l : List Iss, Rd W encI v l ∧ (∀ c ∈ l, c.In) ∧ l.length ≤ 9223372036854775807 := by
  obtain ⟨a0, len, cap, rfl⟩ := okWide_slice Try.underlying46 hv
  obtain ⟨fuel, hf⟩ := h
  rcases open_slice Try.underlying46 hf with ⟨hcs, hx⟩ | ⟨a, len', cap', m, n, D, Pl, hcs, _, hl, hm, hmm, hx, hi⟩
  · simp [Value.cells] at hcs
    obtain ⟨rfl, rfl, rfl⟩ := hcs
    exact ⟨[], Rd.nil W, (fun c hc => by cases hc), by simp⟩
  · simp [Value.cells] at hcs
    obtain ⟨rfl, rfl, rfl⟩ := hcs
    simp only [if_true] at hmm
    subst hmm
    have hC : ∀ i : Fin len, ∃ c : Iss, c.In ∧ W.cells? 0 (a.add (i.1 * 3)) 3 = some (encI c) := by
      intro i
      obtain ⟨cs', hc, ht⟩ := hi i.1 (by omega)
      rw [cells_iss] at hc
      obtain ⟨c, hin, rfl⟩ := iss_cells ht
      exact ⟨c, hin, hc⟩
    obtain ⟨g, hg⟩ := Classical.axiomOfChoice hC
    obtain ⟨bk, o, spot⟩ := a
    obtain ⟨hsp, hb⟩ := okw_slice Try.underlying46 hv
    simp only at hsp hb
    subst hsp
    have key : ∀ k (hk : k < len), ∀ j u, (encI (g ⟨k, hk⟩))[j]? = some u → W.cell? ⟨bk, o + (k * 3 + j), none⟩ = some u := by
      intro k hk j u hj
      have hs := (hg ⟨k, hk⟩).2
      obtain ⟨_, _, hcell⟩ := World.cells?_some hs
      have hj8 : j < 3 := by have := (List.getElem?_eq_some_iff.1 hj).1; simpa [encI] using this
      have h0 := (hcell j hj8).trans hj
      rw [add_at2, add_at2, Nat.add_assoc] at h0
      exact h0
    · refine ⟨List.ofFn g, .inr ⟨bk, o, m, by rw [List.length_ofFn], hb, by simp; omega, fun j u hj => ?_⟩, fun c hc => ?_, ?_⟩
      · obtain ⟨k, hk, i, hi2, he, hj2⟩ := flat_at encI_ok (List.ofFn g) j u hj
        have hkl : k < len := by simpa using hk
        simp only [List.getElem_ofFn] at hj2
        rw [he]
        exact key k hkl i u hj2
      · rw [List.mem_ofFn] at hc
        obtain ⟨i, rfl⟩ := hc
        exact (hg i).1
      · simp only [List.length_ofFn]
        have : maxLen = 9223372036854775807 := by rfl
        omega
theorem ch_open {H : Type} {enc : TypeId × Value → H} {w : World} {base b0 : Nat} {spare : Nat → Bool} {held : Bool} {r : Reach} {v : Value} {d : DataW H} {p : List MemPlace}
    (hv : Value.okWide Try.prog w r b0 24 v) (h : DataW.Trod enc Try.prog w base spare held 24 v d p) : ∃ c : Ch, c.In ∧ v = chV c := by
  obtain ⟨cs, rfl, hsz⟩ := okWide_struct Try.underlying24 hv
  obtain ⟨fuel, hf⟩ := h
  obtain ⟨c, hc, he⟩ := ch_cells hf
  refine ⟨c, hc, ?_⟩
  have e : cs = (encC c).toArray := by
    have : cs.toList = encC c := he
    rw [← this]
  rw [e]; rfl
end Go.Proofs.Ytpagoinnkknkfaa.Pb
