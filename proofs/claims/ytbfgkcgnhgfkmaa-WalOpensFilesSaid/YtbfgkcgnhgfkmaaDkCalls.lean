/-
  An argument []Call, opened to the calls that it holds.
-/
import Derived.Test.YtbfgkcgnhgfkmaaDkDo
import Derived.Deep.Slices
import Derived.Deep.Fields
import Derived.ChangeSame
import Derived.OpenShut
import Derived.ProofKit
namespace Go.Proofs.Ytbfgkcgnhgfkmaa.Dk
open Go Go.ChangeShapes Go.WideShapes Go.RowKit Go.Deep Go.Proofs.Ytbfgkcgnhgfkmaa.Slc
set_option linter.unusedVariables false
set_option linter.unusedSimpArgs false
set_option maxRecDepth 10000

/-- what an argument's call fulfils -/
structure Cl.In (c : Cl) : Prop where
  ok : c.Ok
  name : c.name.length ≤ 9223372036854775807
  data : c.data.length ≤ 9223372036854775807
theorem cells_call : Try.prog.cellsOf 39 = 8 := by kernel_rfl
theorem i64_of {n : Int} (h : (Lit.int .i64 n).wf = true) : i64ok n := by
  have := bounds_i64 h; exact ⟨this.1, this.2⟩
theorem call_cells {H : Type} {enc : TypeId × Value → H} {W : World} {fuel : Nat} {cs : List Value} {x : DataW H × List MemPlace}
    (h : DataW.trod enc Try.prog W 0 (fun _ => true) true fuel 39 cs = some x) : ∃ c : Cl, c.In ∧ cs = c.cells := by
  obtain ⟨ys, n, rfl, rfl, hlen, hyl, hf⟩ := DataW.trod_struct Try.underlying39 h
  rw [cells_call] at hlen
  match cs, hlen with
  | [c0, c1, c2, c3, c4, c5, c6, c7], _ =>
    match ys, hyl with
    | [y0, y1, y2, y3, y4, y5, y6, y7], _ =>
      have f0 : DataW.trod enc Try.prog W 0 (fun _ => true) true n 3 (List.take (Try.prog.cellsOf 3) [c0, c1, c2, c3, c4, c5, c6, c7]) = some y0 := hf 0 _ rfl
      have f1 : DataW.trod enc Try.prog W 0 (fun _ => true) true n 3 (List.take (Try.prog.cellsOf 3) [c1, c2, c3, c4, c5, c6, c7]) = some y1 := hf 1 _ rfl
      have f2 : DataW.trod enc Try.prog W 0 (fun _ => true) true n 3 (List.take (Try.prog.cellsOf 3) [c2, c3, c4, c5, c6, c7]) = some y2 := hf 2 _ rfl
      have f3 : DataW.trod enc Try.prog W 0 (fun _ => true) true n 3 (List.take (Try.prog.cellsOf 3) [c3, c4, c5, c6, c7]) = some y3 := hf 3 _ rfl
      have f4 : DataW.trod enc Try.prog W 0 (fun _ => true) true n 3 (List.take (Try.prog.cellsOf 3) [c4, c5, c6, c7]) = some y4 := hf 4 _ rfl
      have f5 : DataW.trod enc Try.prog W 0 (fun _ => true) true n 9 (List.take (Try.prog.cellsOf 9) [c5, c6, c7]) = some y5 := hf 5 _ rfl
      have f6 : DataW.trod enc Try.prog W 0 (fun _ => true) true n 9 (List.take (Try.prog.cellsOf 9) [c6, c7]) = some y6 := hf 6 _ rfl
      have f7 : DataW.trod enc Try.prog W 0 (fun _ => true) true n 4 (List.take (Try.prog.cellsOf 4) [c7]) = some y7 := hf 7 _ rfl
      simp only [show Try.prog.cellsOf 3 = 1 from by kernel_rfl, show Try.prog.cellsOf 9 = 1 from by kernel_rfl, show Try.prog.cellsOf 4 = 1 from by kernel_rfl, List.take] at f0 f1 f2 f3 f4 f5 f6 f7
      obtain ⟨n0, e0, -, w0⟩ := DataW.trod_int Try.underlying3 f0
      obtain ⟨n1, e1, -, w1⟩ := DataW.trod_int Try.underlying3 f1
      obtain ⟨n2, e2, -, w2⟩ := DataW.trod_int Try.underlying3 f2
      obtain ⟨n3, e3, -, w3⟩ := DataW.trod_int Try.underlying3 f3
      obtain ⟨n4, e4, -, w4⟩ := DataW.trod_int Try.underlying3 f4
      obtain ⟨s5, e5, -, w5⟩ := DataW.trod_string Try.underlying9 f5
      obtain ⟨s6, e6, -, w6⟩ := DataW.trod_string Try.underlying9 f6
      obtain ⟨b7, e7, -⟩ := DataW.trod_bool Try.underlying4 f7
      simp only [List.cons.injEq, and_true] at e0 e1 e2 e3 e4 e5 e6 e7
      subst e0 e1 e2 e3 e4 e5 e6 e7
      refine ⟨⟨n0, n1, n2, n3, n4, s5.data.toList, s6.data.toList, b7⟩, ⟨⟨i64_of w0, i64_of w1, i64_of w2, i64_of w3, i64_of w4⟩, ?_, ?_⟩, ?_⟩
      · rw [Array.length_toList]; exact w5
      · rw [Array.length_toList]; exact w6
      · rfl
/-- an argument []Call that holds the calls l -/
def Arg (W : World) (v : Value) (l : List Cl) : Prop :=
  ∃ ad c, v = .slice ad l.length c ∧ ∀ k (hk : k < l.length), ∃ b o, ad = some ⟨b, o, none⟩ ∧ b < W.heap.size ∧ ∀ j u, l[k].cells[j]? = some u → W.cell? ⟨b, o + (k * 8 + j), none⟩ = some u
theorem Arg.below {W W' : World} {v : Value} {l : List Cl} (h : Arg W v l) (hb : Below W.heap.size W W') : Arg W' v l := by
  obtain ⟨ad, c, rfl, hx⟩ := h
  refine ⟨ad, c, rfl, fun k hk => ?_⟩
  obtain ⟨b, o, h1, h2, h3⟩ := hx k hk
  refine ⟨b, o, h1, Nat.lt_of_lt_of_le h2 hb.size, fun j u hj => ?_⟩
  rw [← h3 j u hj]
  unfold World.cell?
  rw [hb.block b h2]
theorem cells_len (c : Cl) : c.cells.length = 8 := rfl
theorem add_at' (b o k : Nat) : (Addr.mk b o none).add k = ⟨b, o + k, none⟩ := by
  unfold Addr.add; split
  · simp [*]
  · rfl
theorem calls_open {H : Type} {enc : TypeId × Value → H} {W : World} {b0 : Nat} {r : Reach} {v : Value} {d : DataW H} {p : List MemPlace}
    (hv : Value.okWide Try.prog W r b0 33 v) (h : DataW.Trod enc Try.prog W 0 (fun _ => true) true 33 v d p) :
    ∃ l : List Cl, Arg W v l ∧ (∀ c ∈ l, c.In) ∧ l.length ≤ 9223372036854775807 := by
  obtain ⟨a0, len, cap, rfl⟩ := okWide_slice Try.underlying33 hv
  obtain ⟨fuel, hf⟩ := h
  rcases open_slice Try.underlying33 hf with ⟨hcs, hx⟩ | ⟨a, len', cap', m, n, D, Pl, hcs, _, hl, hm, hmm, hx, hi⟩
  · simp [Value.cells] at hcs
    obtain ⟨rfl, rfl, rfl⟩ := hcs
    exact ⟨[], ⟨none, 0, rfl, fun k hk => by simp at hk⟩, (fun c hc => by cases hc), by simp⟩
  · simp [Value.cells] at hcs
    obtain ⟨rfl, rfl, rfl⟩ := hcs
    simp only [if_true] at hmm
    subst hmm
    have hC : ∀ i : Fin len, ∃ c : Cl, c.In ∧ W.cells? 0 (a.add (i.1 * 8)) 8 = some c.cells := by
      intro i
      obtain ⟨cs', hc, ht⟩ := hi i.1 (by omega)
      rw [cells_call] at hc
      obtain ⟨c, hin, rfl⟩ := call_cells ht
      exact ⟨c, hin, hc⟩
    obtain ⟨g, hg⟩ := Classical.axiomOfChoice hC
    refine ⟨List.ofFn g, ⟨some a, m, by rw [List.length_ofFn], fun k hk => ?_⟩, fun c hc => ?_, ?_⟩
    · have hkl : k < len := by simpa using hk
      have hs := (hg ⟨k, hkl⟩).2
      obtain ⟨_, _, hcell⟩ := World.cells?_some hs
      obtain ⟨bk, o, spot⟩ := a
      have h0 := hcell 0 (by omega)
      have hspot : spot = none := by
        have h00 := (World.cells?_some (hg ⟨0, by omega⟩).2).2.2 0 (by omega)
        have := World.cell?_spot (h00.trans (show _ = some (Value.int .i64 (g ⟨0, by omega⟩).kind) from rfl))
        simpa [Addr.add] using this
      subst hspot
      have hb : bk < W.heap.size := by
        have h0' := h0
        rcases Nat.lt_or_ge bk W.heap.size with q | q
        · exact q
        · rw [add_at', add_at'] at h0'
          simp [World.cell?, Array.getElem?_eq_none q, Cl.cells] at h0'
      refine ⟨bk, o, rfl, hb, fun j u hj => ?_⟩
      simp only [List.getElem_ofFn] at hj
      have hj8 : j < 8 := by have := (List.getElem?_eq_some_iff.1 hj).1; rwa [cells_len] at this
      have := hcell j hj8
      rw [add_at', add_at', Nat.add_assoc] at this
      rw [this]; exact hj
    · rw [List.mem_ofFn] at hc
      obtain ⟨i, rfl⟩ := hc
      exact (hg i).1
    · simp only [List.length_ofFn]
      have : maxLen = 9223372036854775807 := by rfl
      omega

end Go.Proofs.Ytbfgkcgnhgfkmaa.Dk
