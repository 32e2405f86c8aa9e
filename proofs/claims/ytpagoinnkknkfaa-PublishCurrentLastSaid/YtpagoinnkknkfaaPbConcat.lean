/-
  slices.Grow of nil, slices.Concat.
-/
import Derived.Test.YtpagoinnkknkfaaPbEach
import Derived.Lib.AppendZerosOnto
namespace Go.Proofs.Ytpagoinnkknkfaa.Pb
open Go Go.RowKit Go.Proofs.Ytpagoinnkknkfaa.Slc
set_option linter.unusedVariables false
set_option linter.unusedSimpArgs false

theorem zero_cells_size (z : Value) (hz : z.cells.size = 5) (k : Nat) : (Builtin.zeroCells z.cells k).size = k * 5 := by
  rw [size_zeroCells, hz]
set_option maxRecDepth 10000 in
set_option maxHeartbeats 1000000 in
theorem grow_any (w : World) (n : Nat) (hn : n ≤ 1000000) :
    Calls Try.prog 73 #[.slice none 0 0, .int .i64 n] w fun e w' => ∃ v', e = .returned v' ∧ Own w' w.heap.size 44 5 encE v' [] ∧ Below w.heap.size w w' := by
  obtain ⟨i0, hi0, hz0, hz1, hz2⟩ := info_parts info_entry
  have hs0 : ∀ W, (Instr.slice 40 (.slice none 0 0) none (some (.int .i64 0)) none).run Try.prog W = .ok (.slice none 0 0) W := fun W => by
    rw [show (0 : Int) = ((0 : Nat) : Int) from rfl, run_slice_h W _ _ _ _ und_entries' _ _ (by omega) (by omega)]
    simp [size_entries, sliced, Result.andThen]
  rcases Nat.eq_zero_or_pos n with h0 | h0
  · subst h0
    have t0 : ((0 : Nat) : Int) = 0 := rfl
    rw [t0]
    clear t0
    go_enter Try.func73, Try.ntmps73
    go_wp2
    go_ret
    exact ⟨_, rfl, Own.nil _ _, Below.refl _ _⟩
  · have hold : (Builtin.firstCells i0.size 0 (.slice none 0 0)).run Try.prog w.drew = .ok (([] : List Value)).toArray w.drew := run_firstCells_none w.drew i0.size 0 0 0
    have hfit : Builtin.nextslicecap (0 + n) 0 * i0.bytes ≤ 281474976710656 := growslice_fits (by omega) (by rw [hz2]; omega)
    have hrz := fun ty => Lib.run_append_grow_zeros (P := Try.prog) w 40 3 ty 44 i0 _ .i64 .i64 und_entries Try.underlying3 hi0 hz0 none 0 0 [] hold n h0 (by rw [hz1]; omega) (by omega) (by omega) (by rw [hz2]; omega) hfit
    simp only [Nat.zero_add] at hrz
    have hGn : n ≤ grownCap w n 0 44 := grownCap_ge w n 0 _
    have hGm : grownCap w n 0 44 ≤ maxLen := grownCap_le_maxLen w n 0 _ (by unfold maxLen; omega)
    generalize grownCap w n 0 44 = G at *
    have hs1 : ∀ W, (Instr.slice 40 (.slice (some ⟨w.heap.size, 0, none⟩) n G) none (some (.int .i64 0)) none).run Try.prog W = .ok (.slice (some ⟨w.heap.size, 0, none⟩) 0 G) W := fun W => by
      rw [show (0 : Int) = ((0 : Nat) : Int) from rfl, run_slice_h W _ _ _ _ und_entries' _ _ (by omega) (by omega)]
      simp [size_entries, sliced, Result.andThen, add_at]
    obtain ⟨X, hX⟩ : ∃ X : Array Value, X = (([] : List Value).toArray ++ Builtin.zeroCells (Value.agg #[.int .i64 0, .int .i64 0, .int .i64 0, .int .i64 0, .slice none 0 0]).cells n ++ Builtin.zeroCells (Value.agg #[.int .i64 0, .int .i64 0, .int .i64 0, .int .i64 0, .slice none 0 0]).cells (G - n)) := ⟨_, rfl⟩
    have hXs : X.size = G * 5 := by
      rw [hX]
      simp only [Array.size_append, List.size_toArray, List.length_nil, Nat.zero_add]
      rw [zero_cells_size _ rfl, zero_cells_size _ rfl]; omega
    rw [← hX] at hrz
    have HOWN := Bx.mk (show Own (w.drew.alloc (.cells X 44)) w.heap.size 44 5 encE (.slice (some ⟨w.heap.size, 0, none⟩) 0 G) [] from
      ⟨by simp, .inr ⟨w.heap.size, G, X, rfl, Nat.le_refl _, heap_alloc_new w.drew _, Nat.zero_le _, hGm, hXs, by simp⟩⟩)
    have HB := Bx.mk (show Below w.heap.size w (w.drew.alloc (.cells X 44)) from (Below.refl _ _).drew.alloc (Nat.le_refl _) _)
    have t0 : decide ((n : Int) > 0) = true := by simp; omega
    have t1 : decide ((n : Int) < 0) = false := by simp
    clear hold hfit hX hXs hGn hGm
    go_enter Try.func73, Try.ntmps73
    go_wp2_with (at_builtin; refine Lib.wpList_append_run _ rfl _ _ _ _ rfl _ _ rfl rfl _ _ (hrz _) ?_)
    go_ret
    exact ⟨_, rfl, HOWN.out, HB.out⟩

/-- slices of entries, several -/
def LLs (w : World) (vs : List Sl) (ls : List (List Et)) : Prop := ∃ hl : vs.length = ls.length, ∀ i (h : i < ls.length), EL w (vs[i]'(by omega)).val ls[i]
def LL (w : World) (v : Value) (ls : List (List Et)) : Prop := ∃ vs : List Sl, Rd w encV1 v vs ∧ LLs w vs ls
theorem LL.below {w w' : World} {v : Value} {ls : List (List Et)} (h : LL w v ls) (hb : Below w.heap.size w w') : LL w' v ls := by
  obtain ⟨vs, h1, hl, h2⟩ := h
  exact ⟨vs, h1.below hb, hl, fun i hi => (h2 i hi).below hb⟩
def lens (ls : List (List Et)) : Nat := ls.flatten.length
theorem lens_take (ls : List (List Et)) (k : Nat) (h : k < ls.length) : lens (ls.take (k + 1)) = lens (ls.take k) + (ls[k]).length := by
  unfold lens; rw [List.take_succ_eq_append_getElem h, List.flatten_append]; simp
theorem lens_le (ls : List (List Et)) (k : Nat) : lens (ls.take k) ≤ lens ls := by
  have h : lens ls = lens (ls.take k) + lens (ls.drop k) := by
    unfold lens
    conv => lhs; rw [← List.take_append_drop k ls]
    rw [List.flatten_append, List.length_append]
  omega

set_option maxRecDepth 10000 in
set_option maxHeartbeats 4000000 in
theorem concat_any (w : World) (v : Value) (ls : List (List Et)) (hv : LL w v ls) (hn : ls.length ≤ 1000) (ht : lens ls ≤ 1000000) :
    Calls Try.prog 63 #[v] w fun e w' => ∃ v', e = .returned v' ∧ EO w' w.heap.size v' ls.flatten ∧ Below w.heap.size w w' := by
  obtain ⟨i0, hi0, hz0, hz1, hz2⟩ := info_parts info_entry
  obtain ⟨vs, hr, hl, hx⟩ := hv
  obtain ⟨ad, c, rfl, -⟩ := hr.form
  have HL := Bx.mk hl
  have HC := Bx.mk (show ∀ (W : World), Below w.heap.size w W → ∀ k (hk : k < vs.length), ∃ b o, ad = some ⟨b, o, none⟩ ∧ W.cell? ⟨b, o + k, none⟩ = some (vs[k]).val from fun W hW k hk => by
    obtain ⟨b, o, c, hv', _, hlt, hc⟩ := hr.cells encV1_ok (by omega)
    simp only [Value.slice.injEq] at hv'
    have q := hc W (fun k' hk' => hW.block k' (hr.lt k' hk')) k hk 0 _ (by omega) rfl
    rw [Nat.mul_one, Nat.add_zero] at q
    exact ⟨b, o, hv'.1, q⟩)
  have HX := Bx.mk (show ∀ k (hk : k < vs.length), EL w (vs[k]).val (ls[k]'(by rw [← HL.out]; exact hk)) from fun k hk => hx k (by rw [← HL.out]; exact hk))
  have HT := Bx.mk ht
  have hnl : vs.length ≤ 1000 := by omega
  clear hr hx hl ht
  go_enter Try.func63, Try.ntmps63
  go_wp2
  go_loop [3, 11] (fun s i => ∃ k : Nat, k ≤ vs.length ∧ i = .int .i64 k ∧ s = .int .i64 (lens (ls.take k) : Nat)) (fun _ i => vs.length - (intOf i).toNat)
  case atStart => exact ⟨0, by omega, rfl, by simp [lens]⟩
  case round =>
    obtain ⟨k, hk, rfl, rfl⟩ := hrel
    have hle := lens_le ls k
    by_cases hlt : k < vs.length
    · obtain ⟨b, o, rfl, hcell⟩ := HC.out w (Below.refl _ _) k hlt
      have hel := HX.out k hlt
      obtain ⟨ea, ec, hf, -⟩ := hel.rd.form
      have hle2 := lens_le ls (k + 1)
      have hsucc := lens_take ls k (by have := HL.out; omega)
      rw [hf] at hcell
      have HS := Bx.mk hsucc
      have hb1 : lens (ls.take k) + (ls[k]'(by have := HL.out; omega)).length ≤ 1000000 := by have := HT.out; omega
      have hb2 : lens (ls.take k) ≤ 1000000 := by have := HT.out; omega
      clear hel hf hsucc hle hle2
      generalize (ls[k]'(by have := HL.out; omega)).length = m at *
      generalize hA : lens (ls.take k) = A at *
      clear hA
      have t0 : decide (((A + m : Nat) : Int) < 0) = false := by simp; omega
      have t1 : decide (((A : Int) + (m : Int)) < 0) = false := by simp; omega
      go_wp2
      go_round
      case rel => exact ⟨k + 1, by omega, by go_num, by rw [HS.out]; go_num⟩
      case measure => simp [intOf]; omega
    · obtain rfl : k = vs.length := by omega
      have hall : lens (ls.take vs.length) = lens ls := by rw [HL.out, List.take_length]
      have hg := grow_any w (lens ls) HT.out
      rw [hall]
      have hlb := HT.out
      clear hall hle
      obtain ⟨A, hA⟩ : ∃ A, A = lens ls := ⟨_, rfl⟩
      rw [← hA] at hg hlb ⊢
      have HA := Bx.mk hA
      clear hA
      go_wp2_with fail
      go_at_call 73
      refine hg.mono ?_
      rintro e w1 ⟨v1, rfl, hown, hb1⟩
      have HG := Bx.mk (show GE w w.heap.size w1 v1 [] from ⟨⟨hown, fun x hx => by cases hx⟩, hb1, Nat.le_refl _⟩)
      obtain ⟨a1, c1, rfl, -⟩ := HG.out.form
      clear hown hb1 hg
      go_wp2
      go_loopw [6, 27] (fun nv i wr => ∃ (k : Nat) (out : List Et), k ≤ vs.length ∧ i = .int .i64 k ∧ GE w w.heap.size wr nv out ∧ Bx (out = (ls.take k).flatten)) (fun _ i _ => vs.length - (intOf i).toNat)
      case atStart => exact ⟨0, [], by omega, rfl, HG.out, ⟨by simp⟩⟩
      case round =>
        obtain ⟨k, out, hk, rfl, hge, hout⟩ := hrel
        obtain ⟨av, cv, rfl, -⟩ := hge.form
        have HGE := Bx.mk hge
        by_cases hlt : k < vs.length
        · obtain ⟨b, o, rfl, hcell⟩ := HC.out wr hge.bel k hlt
          have hel := HX.out k hlt
          obtain ⟨l1, hl1⟩ : ∃ l1, l1 = ls[k]'(by have := HL.out; omega) := ⟨_, rfl⟩
          rw [← hl1] at hel
          obtain ⟨ea, ec, hf, -⟩ := hel.rd.form
          have hsrc := (hel.below hge.bel).rd.src encE_ok
          rw [hf] at hcell hsrc
          have HOUT2 := Bx.mk (show out ++ l1 = (ls.take (k + 1)).flatten by rw [hout.out, hl1, List.take_succ_eq_append_getElem (by have := HL.out; omega), List.flatten_append]; simp)
          have hlen : out.length + l1.length ≤ 1000000 := by
            have := congrArg List.length HOUT2.out
            rw [List.length_append] at this
            have h2 := lens_le ls (k + 1)
            have h3 := HT.out
            unfold lens at h2 h3
            omega
          have HM := Bx.mk (show ∀ x ∈ l1, EtIn wr (fun k => (Value.slice av out.length cv).ownBlock ≠ some k) x from fun x hx => EtAt.other HGE.out (hel.at_ x hx) fun k hk => hk)
          have HOWN := Bx.mk hge.eo.own
          have hm1 : out.length + l1.length ≤ maxLen := by unfold maxLen; omega
          have hm2 : (out.length + l1.length) * 56 ≤ 140737488355328 := by omega
          have hbz := hge.sz
          clear hel hf hl1 hge hout hlen
          go_wp2_with (refine wpList_append_any rfl _ _ _ rfl w.heap.size 44 i0 _ 5 56 und_entries hi0 hz0 hz1 hz2 rfl (by decide) _ out.length (out.flatMap encE) rfl HOWN.out _ l1.length (l1.flatMap encE) rfl hsrc hm1 hm2 hbz ?_)
          intro v2 w3 hapd
          have HG2 := Bx.mk (HGE.out.apd (m := l1) HM.out rfl rfl rfl rfl hapd)
          clear hapd hsrc hbz HOWN hm1 hm2
          go_wp2
          go_roundw
          case rel => exact ⟨k + 1, out ++ l1, by omega, by go_num, HG2.out, HOUT2⟩
          case measure => simp [intOf]; omega
        · obtain rfl : k = vs.length := by omega
          have HFF := Bx.mk (show out = ls.flatten by rw [hout.out, HL.out, List.take_length])
          clear hge hout
          go_wp2
          go_ret
          exact ⟨_, rfl, by rw [← HFF.out]; exact HGE.out.eo, HGE.out.bel⟩
end Go.Proofs.Ytpagoinnkknkfaa.Pb
