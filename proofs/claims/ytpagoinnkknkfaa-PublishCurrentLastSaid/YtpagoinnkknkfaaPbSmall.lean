/-
  slices.SortStableFunc at fewer than 20 entries; sorted.
-/
import Derived.Test.YtpagoinnkknkfaaPbSort
namespace Go.Proofs.Ytpagoinnkknkfaa.Pb
open Go Go.RowKit Go.Sort Go.Proofs.Ytpagoinnkknkfaa.Slc Go.Proofs.Ytpagoinnkknkfaa.St
set_option linter.unusedVariables false
set_option linter.unusedSimpArgs false

theorem enc_one5 : ∀ x, ∀ v ∈ encE x, v.oneCell' = true := encE_ok.one
/-- behind the sort -/
theorem EO.sorted {w W : World} {B g n cap : Nat} {l : List Et} {dk : Array Et} (h : EO w B (.slice (some ⟨g, 0, none⟩) n cap) l) (hs : dk.size = l.length) (hS : SWK encE 5 w g 0 dk W) (h1 : Srt ltE dk.toList) (h2 : Stab ltE l dk.toList) :
    EO W B (.slice (some ⟨g, 0, none⟩) n cap) dk.toList ∧ ens dk.toList = sortE (ens l) ∧ w.grownBy W (some g) := by
  obtain ⟨ho, hg⟩ := own_sorted encE_ok h.own hs hS
  refine ⟨⟨ho, fun x hx => ?_⟩, sorted_ens h1 h2, hg⟩
  exact (h.nm x (h2.symm.mem ltE_ord hx)).keep hg.size fun k hk hlt => hg.block k hlt fun e => hk e.symm
theorem ins_none (p : Option Addr) (cap : Nat) (fv : Value) (w : World) :
    Calls Try.prog 90 #[.slice p 0 cap, .int .i64 0, .int .i64 0, fv] w fun e w' => e = .returned (.tuple #[]) ∧ w = w' := by
  go_enter Try.func90, Try.ntmps90
  go_wp2
  go_loopw [8] (fun i wr => i = .int .i64 1 ∧ w = wr) (fun i _ => 1 - (intOf i).toNat)
  case atStart => exact ⟨rfl, rfl⟩
  case round =>
    obtain ⟨rfl, rfl⟩ := hrel
    go_wp2
    go_end0
    exact ⟨rfl, rfl⟩
set_option maxRecDepth 10000 in
set_option maxHeartbeats 2000000 in
theorem stable_small (w : World) (B : Nat) (v : Value) (l : List Et) (h : EO w B v l) (hn : l.length < 20) :
    Calls Try.prog 74 #[v, .int .i64 (l.length : Nat), .func (.func 65) #[] #[]] w fun e w' => e = .returned (.tuple #[]) ∧ ∃ l', EO w' B v l' ∧ ens l' = sortE (ens l) ∧ w.grownBy w' v.ownBlock := by
  obtain ⟨ad, c, rfl, -⟩ := h.own.rd.form
  have H := Bx.mk h
  have t0 : decide ((20 : Int) ≤ (l.length : Nat)) = false := by simp; omega
  have t1 : decide ((20 : Int) < (l.length : Nat)) = false := by simp; omega
  rcases Nat.eq_zero_or_pos l.length with h0 | hp
  · obtain rfl : l = [] := List.eq_nil_of_length_eq_zero h0
    have hc := fun W => ins_none ad c (.func (.func 65) #[] #[]) W
    have hz : ((([] : List Et).length : Nat) : Int) = 0 := rfl
    have hz2 : ([] : List Et).length = 0 := rfl
    rw [hz, hz2]
    rw [hz2] at H
    clear t0 t1 hz hz2 h h0 hn
    go_enter Try.func74, Try.ntmps74
    go_wp2
    go_loopw [7, 8] (fun a b wr => a = .int .i64 0 ∧ b = .int .i64 20 ∧ w = wr) (fun _ b _ => 40 - (intOf b).toNat)
    case atStart => exact ⟨rfl, rfl, rfl⟩
    case round =>
      obtain ⟨rfl, rfl, rfl⟩ := hrel
      go_wp2_with (go_at_call 90; refine (hc _).mono ?_; rintro e w' ⟨rfl, rfl⟩)
      go_loopw [6] (fun a wr => a = .int .i64 20 ∧ w = wr) (fun b _ => 40 - (intOf b).toNat)
      case atStart => exact ⟨rfl, rfl⟩
      case round =>
        obtain ⟨rfl, rfl⟩ := hrel
        go_wp2
        go_end0
        exact ⟨rfl, [], H.out, rfl, ⟨rfl, rfl, rfl, Nat.le_refl _, fun _ _ _ => rfl⟩⟩
  · rcases h.own.2 with ⟨_, hn0⟩ | ⟨g, cap, cur, hv, hB, hb, hc, hm, hcs, ht⟩
    · omega
    simp only [Value.slice.injEq] at hv
    obtain ⟨rfl, -, rfl⟩ := hv
    have R : RowK encE 5 w g 0 l.toArray := ⟨encE_ok.len, enc_one5, holds_own encE_ok h.own, lt_of_block hb⟩
    have hcall := ins_any (cap := c) R l.toArray w rfl (SWK.start R.hH) [] l [] (by simp) (by simp; omega) (n := l.length) (a := 0) (b := l.length) (by simp) rfl (by simp)
    have hz : ((0 : Nat) : Int) = 0 := rfl
    rw [hz] at hcall
    clear hz h R hb ht
    go_enter Try.func74, Try.ntmps74
    go_wp2
    go_loopw [7, 8] (fun a b wr => a = .int .i64 0 ∧ b = .int .i64 20 ∧ w = wr) (fun _ b _ => 40 - (intOf b).toNat)
    case atStart => exact ⟨rfl, rfl, rfl⟩
    case round =>
      obtain ⟨rfl, rfl, rfl⟩ := hrel
      go_wp2_with fail
      go_at_call 90
      refine hcall.mono ?_
      rintro e w1 ⟨rfl, dk, S, h1, h2, h3, h4⟩
      have HR := Bx.mk (show EO w1 B (.slice (some ⟨g, 0, none⟩) l.length c) dk.toList ∧ ens dk.toList = sortE (ens l) ∧ w.grownBy w1 (some g) from by
        have e1 : dk.toList = S := by rw [h1]; simp
        refine H.out.sorted ?_ h4 (by rw [e1]; exact h2) (by rw [e1]; exact h3)
        rw [← Array.length_toList, e1, ← h3.length ltE_ord])
      clear h1 h2 h3 h4 hcall
      go_wp2
      go_loopw [6] (fun a wr => a = .int .i64 20 ∧ w1 = wr) (fun b _ => 40 - (intOf b).toNat)
      case atStart => exact ⟨rfl, rfl⟩
      case round =>
        obtain ⟨rfl, rfl⟩ := hrel
        go_wp2
        go_end0
        exact ⟨rfl, _, HR.out⟩

/-- sorted: copies of the entries of some lists, one list after the other, sorted -/
theorem sortstable_any (w : World) (B : Nat) (v : Value) (l : List Et) (h : EO w B v l) (hn : l.length < 20) :
    Calls Try.prog 64 #[v, .func (.func 65) #[] #[]] w fun e w' => e = .returned (.tuple #[]) ∧ ∃ l', EO w' B v l' ∧ ens l' = sortE (ens l) ∧ w.grownBy w' v.ownBlock := by
  have hc := stable_small w B v l h hn
  obtain ⟨ad, c, rfl, -⟩ := h.own.rd.form
  clear h
  go_enter Try.func64, Try.ntmps64
  go_wp2_with (go_at_call 74; refine hc.mono ?_; rintro e w' ⟨rfl, hr⟩)
  have HR := Bx.mk hr
  clear hr hc
  go_end0
  exact ⟨rfl, HR.out⟩
theorem sorted_any (w : World) (v : Value) (ls : List (List Et)) (hv : LL w v ls) (hn : ls.length ≤ 1000) (ht : lens ls < 20) :
    Calls Try.prog 50 #[v] w fun e w' => ∃ v' l', e = .returned v' ∧ EO w' w.heap.size v' l' ∧ ens l' = sortE (ens ls.flatten) ∧ Below w.heap.size w w' := by
  have hc := concat_any w v ls hv hn (by omega)
  go_enter Try.func50, Try.ntmps50
  go_wp2_with fail
  go_at_call 63
  refine hc.mono ?_
  rintro e w1 ⟨v1, rfl, heo1, hb1⟩
  have hc2 := entries_any w1 v1 ls.flatten heo1.el (by unfold lens at ht; omega)
  have HB1 := Bx.mk hb1
  clear hb1 hc heo1
  go_wp2_with fail
  go_at_call 62
  refine hc2.mono ?_
  rintro e w2 ⟨v2, l2, rfl, heo2, hen2, hb2⟩
  have hlen : l2.length = ls.flatten.length := by have := congrArg List.length hen2; simp only [ens, List.length_map] at this; exact this
  have hc3 := sortstable_any w2 w1.heap.size v2 l2 heo2 (by unfold lens at ht; omega)
  have HB2 := Bx.mk (HB1.out.trans (hb2.mono HB1.out.size))
  have HV2 := Bx.mk (show ∀ k, v2.ownBlock = some k → w1.heap.size ≤ k from fun k hk => (heo2.own.lt k hk).1)
  have HE2 := Bx.mk hen2
  clear hb2 hc2 heo2 hen2 hlen
  go_wp2_with fail
  go_at_call 64
  refine hc3.mono ?_
  rintro e w3 ⟨rfl, l3, heo3, hen3, hg3⟩
  have HF := Bx.mk (show EO w3 w.heap.size v2 l3 ∧ ens l3 = sortE (ens ls.flatten) ∧ Below w.heap.size w w3 from
    ⟨heo3.mono HB1.out.size, by rw [hen3, HE2.out], HB2.out.grown hg3 HB2.out.size fun k hk => Nat.le_trans HB1.out.size (HV2.out k hk)⟩)
  clear heo3 hen3 hg3 hc3
  go_wp2
  go_ret
  exact ⟨_, l3, rfl, HF.out.1, HF.out.2.1, HF.out.2.2⟩
end Go.Proofs.Ytpagoinnkknkfaa.Pb
