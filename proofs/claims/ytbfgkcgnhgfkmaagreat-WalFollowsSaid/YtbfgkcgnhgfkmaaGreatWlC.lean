/-
  An argument []Call of the law, opened; few. (Written by wip/gen/gen_wlc.py.)
-/
import Derived.Test.YtbfgkcgnhgfkmaaGreatWlZ
import Derived.Deep.Slices
import Derived.Deep.Fields
import Derived.ChangeSame
import Derived.OpenShut
import Derived.ProofKit
namespace Go.Proofs.YtbfgkcgnhgfkmaaGreat.Wl
open Go Go.ChangeShapes Go.WideShapes Go.RowKit Go.Deep Go.Proofs.YtbfgkcgnhgfkmaaGreat.Slc Go.Proofs.YtbfgkcgnhgfkmaaGreat.Hs
open Go.Proofs.YtbfgkcgnhgfkmaaGreat.Dk (ptr bstr bstr_size i64ok add_at')
set_option linter.unusedVariables false
set_option linter.unusedSimpArgs false
set_option maxRecDepth 10000

/-- what an argument's call fulfils -/
structure WC.In (c : WC) : Prop where
  kind : i64ok c.kind
  n : i64ok c.n
  m : i64ok c.m
  data : c.data.length ≤ 9223372036854775807
theorem wcells_call : Tryz.prog.cellsOf 38 = 4 := by kernel_rfl
theorem wi64_of {n : Int} (h : (Lit.int .i64 n).wf = true) : i64ok n := by
  have := bounds_i64 h; exact ⟨this.1, this.2⟩
theorem wcall_cells {H : Type} {enc : TypeId × Value → H} {W : World} {fuel : Nat} {cs : List Value} {x : DataW H × List MemPlace}
    (h : DataW.trod enc Tryz.prog W 0 (fun _ => true) true fuel 38 cs = some x) : ∃ c : WC, c.In ∧ cs = c.cells := by
  obtain ⟨ys, n, rfl, rfl, hlen, hyl, hf⟩ := DataW.trod_struct Tryz.underlying38 h
  rw [wcells_call] at hlen
  match cs, hlen with
  | [c0, c1, c2, c3], _ =>
    match ys, hyl with
    | [y0, y1, y2, y3], _ =>
      have f0 : DataW.trod enc Tryz.prog W 0 (fun _ => true) true n 3 (List.take (Tryz.prog.cellsOf 3) [c0, c1, c2, c3]) = some y0 := hf 0 _ rfl
      have f1 : DataW.trod enc Tryz.prog W 0 (fun _ => true) true n 3 (List.take (Tryz.prog.cellsOf 3) [c1, c2, c3]) = some y1 := hf 1 _ rfl
      have f2 : DataW.trod enc Tryz.prog W 0 (fun _ => true) true n 3 (List.take (Tryz.prog.cellsOf 3) [c2, c3]) = some y2 := hf 2 _ rfl
      have f3 : DataW.trod enc Tryz.prog W 0 (fun _ => true) true n 9 (List.take (Tryz.prog.cellsOf 9) [c3]) = some y3 := hf 3 _ rfl
      simp only [show Tryz.prog.cellsOf 3 = 1 from by kernel_rfl, show Tryz.prog.cellsOf 9 = 1 from by kernel_rfl, List.take] at f0 f1 f2 f3
      obtain ⟨n0, e0, -, w0⟩ := DataW.trod_int Tryz.underlying3 f0
      obtain ⟨n1, e1, -, w1⟩ := DataW.trod_int Tryz.underlying3 f1
      obtain ⟨n2, e2, -, w2⟩ := DataW.trod_int Tryz.underlying3 f2
      obtain ⟨s3, e3, -, w3⟩ := DataW.trod_string Tryz.underlying9 f3
      simp only [List.cons.injEq, and_true] at e0 e1 e2 e3
      subst e0 e1 e2 e3
      refine ⟨⟨n0, n1, n2, s3.data.toList⟩, ⟨wi64_of w0, wi64_of w1, wi64_of w2, ?_⟩, ?_⟩
      · rw [Array.length_toList]; exact w3
      · rfl
/-- an argument []Call that holds the calls l -/
def WArg (W : World) (v : Value) (l : List WC) : Prop :=
  ∃ ad c, v = .slice ad l.length c ∧ ∀ k (hk : k < l.length), ∃ b o, ad = some ⟨b, o, none⟩ ∧ b < W.heap.size ∧ ∀ j u, l[k].cells[j]? = some u → W.cell? ⟨b, o + (k * 4 + j), none⟩ = some u
theorem WArg.below {W W' : World} {v : Value} {l : List WC} (h : WArg W v l) (hb : Below W.heap.size W W') : WArg W' v l := by
  obtain ⟨ad, c, rfl, hx⟩ := h
  refine ⟨ad, c, rfl, fun k hk => ?_⟩
  obtain ⟨b, o, h1, h2, h3⟩ := hx k hk
  refine ⟨b, o, h1, Nat.lt_of_lt_of_le h2 hb.size, fun j u hj => ?_⟩
  rw [← h3 j u hj]
  unfold World.cell?
  rw [hb.block b h2]
theorem wcells_len (c : WC) : c.cells.length = 4 := rfl
theorem WArg.four {W : World} {ad : Option Addr} {n c : Nat} {l : List WC} (h : WArg W (.slice ad n c) l) (k : Nat) (hk : k < l.length) :
    ∃ b o, ad = some ⟨b, o, none⟩ ∧ b < W.heap.size ∧ W.cell? ⟨b, o + k * 4, none⟩ = some (.int .i64 l[k].kind) ∧ W.cell? ⟨b, o + k * 4 + 1, none⟩ = some (.int .i64 l[k].n) ∧ W.cell? ⟨b, o + k * 4 + 2, none⟩ = some (.int .i64 l[k].m) ∧ W.cell? ⟨b, o + k * 4 + 3, none⟩ = some (.string (bstr l[k].data)) := by
  obtain ⟨ad', c', hv, hx⟩ := h
  simp only [Value.slice.injEq] at hv
  obtain ⟨rfl, rfl, rfl⟩ := hv
  obtain ⟨b, o, h1, h2, h3⟩ := hx k hk
  refine ⟨b, o, h1, h2, ?_, ?_, ?_, ?_⟩
  · exact h3 0 _ rfl
  all_goals rw [Nat.add_assoc]
  · exact h3 1 _ rfl
  · exact h3 2 _ rfl
  · exact h3 3 _ rfl
def fewB (l : List WC) : Bool := (l.all fun c => decide (c.data.length ≤ 200)) && decide (l.length ≤ 30)
theorem few_len {l : List WC} (h : fewB l = true) (hi : ∀ c ∈ l, c.In) : l.length ≤ 30 ∧ ∀ c ∈ l, c.Ok := by
  simp only [fewB, Bool.and_eq_true, decide_eq_true_eq, List.all_eq_true] at h
  exact ⟨h.2, fun c hc => ⟨(hi c hc).kind, (hi c hc).n, (hi c hc).m, h.1 c hc⟩⟩
theorem few_any (w : World) (v : Value) (l : List WC) (hA : WArg w v l) (hin : ∀ c ∈ l, c.In) (hl : l.length ≤ 9223372036854775807) :
    Calls Tryz.prog 4 #[v] w fun e w' => e = .returned (.bool (fewB l)) ∧ w = w' := by
  obtain ⟨ad, c, rfl, -⟩ := id hA
  have HA := Lib.hid hA
  have HI := Lib.hid hin
  clear hA hin
  go_enter Tryz.func4, Tryz.ntmps4
  go_wp2
  go_loopw [3] (fun i wx => ∃ k : Nat, k ≤ l.length ∧ i = .int .i64 (k : Int) ∧ ((l.take k).all fun c => decide (c.data.length ≤ 200)) = true ∧ w = wx) (fun i _ => l.length - (intOf i).toNat)
  case atStart => exact ⟨0, Nat.zero_le _, rfl, rfl, rfl⟩
  case round =>
    obtain ⟨k, hk, rfl, hok, rfl⟩ := hrel
    have HOK := Lib.hid hok
    clear hok
    by_cases hlt : k < l.length
    · obtain ⟨b, o, rfl, -, -, -, -, h6⟩ := HA.out.four k hlt
      have hin := HI.out _ (List.getElem_mem hlt)
      have z6 := bstr_size l[k].data
      have hn6 := hin.data
      have HNF := Lib.hid (show ¬ l[k].data.length ≤ 200 → fewB l = false from fun h => by
        unfold fewB
        rw [Bool.and_eq_false_iff]; left
        rw [List.all_eq_false]
        exact ⟨_, List.getElem_mem hlt, by simpa using h⟩)
      have HNT := Lib.hid (show l[k].data.length ≤ 200 → ((l.take (k + 1)).all fun c => decide (c.data.length ≤ 200)) = true from fun h => by
        rw [List.take_succ_eq_append_getElem hlt, List.all_append, HOK.out]; simp [h])
      clear hin
      rw [← z6] at hn6 HNF HNT
      clear z6
      generalize bstr l[k].data = Y at *
      by_cases hd : Y.size ≤ 200
      · have HT := Lib.hid (HNT.out hd)
        clear HNF HNT
        go_wp2
        go_roundw
        case rel => exact ⟨k + 1, by omega, by go_num, HT.out, by trivial⟩
        case measure => simp [intOf]; omega
      · have HF := Lib.hid (HNF.out hd)
        clear HNF HNT
        go_wp2
        go_ret
        exact ⟨by rw [HF.out]; rfl, rfl⟩
    · obtain rfl : k = l.length := by omega
      have HS := Lib.hid (show fewB l = decide ((l.length : Int) ≤ 30) by
        have := HOK.out
        rw [List.take_length] at this
        unfold fewB; rw [this, Bool.true_and]
        exact decide_eq_decide.2 (by omega))
      go_wp2
      go_ret
      exact ⟨by rw [HS.out]; rfl, rfl⟩
end Go.Proofs.YtbfgkcgnhgfkmaaGreat.Wl
