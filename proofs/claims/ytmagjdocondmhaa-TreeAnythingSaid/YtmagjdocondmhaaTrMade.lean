/-
  made.Policy, made2.Policies, made2.Mappings.
-/
import Derived.Test.YtmagjdocondmhaaTrKeys
import Derived.Test.YtmagjdocondmhaaDeck
namespace Go.Proofs.Ytmagjdocondmhaa.Tr
open Go Go.RowKit Go.Proofs.Ytmagjdocondmhaa.Slc Go.Proofs.Ytmagjdocondmhaa.St Go.Proofs.Ytmagjdocondmhaa.Mp
set_option linter.unusedVariables false
set_option linter.unusedSimpArgs false
attribute [local go_sem] Oper.semAt_some

theorem grown_below {w w' : World} {g : Option Nat} (h : Below w.heap.size w w') : w.grownBy w' g := ⟨h.os, h.tape, h.output, h.size, fun k hk _ => h.block k hk⟩
theorem deck_keep {W0 : World} {v : Value} {zs : List Int} {w w' : World} {g B : Nat} (h : Deck W0 v zs w g) (hb : Below B w w') (hg : g < B) (hB : W0.heap.size ≤ B) : Deck W0 v zs w' g := by
  obtain ⟨k, hk, hc⟩ := h.c1
  exact ⟨h.ints, h.bel.trans (hb.mono hB), h.ge, (hb.cell (p := ⟨g, 0, none⟩) hg).trans h.c0, ⟨k, hk, (hb.cell (p := ⟨g, 1, none⟩) hg).trans hc⟩, fun k => (hb.frozen (p := ⟨g, k, none⟩) hg).trans (h.fr k), Nat.lt_of_lt_of_le h.lt hb.size, fun j s e => h.ns j s ((hb.cell (p := ⟨g, j, none⟩) hg).symm.trans e)⟩
theorem own_grown {α : Type} {w w' : World} {B z g : Nat} {t : TypeId} {enc : α → List Value} {v : Value} {l : List α} (h : Slc.Own w B t z enc v l) (hg : w.grownBy w' (some g)) (hgB : g < B) : Slc.Own w' B t z enc v l :=
  h.keep fun k hk hlt => hg.block k hlt (by simp only [ne_eq, Option.some.injEq]; intro e; have := (h.lt k hk).1; omega)
/-- a string is never read from the deck -/
theorem rd_deck {W0 : World} {v u : Value} {zs : List Int} {w w' : World} {g : Nat} {l : List B} (h : Rd w encS u l) (hd : Deck W0 v zs w g) (hg : w.grownBy w' (some g)) : Rd w' encS u l := by
  rcases h with h | ⟨b, o, c, rfl, hlt, hc, hcell⟩
  · exact .inl h
  · refine .inr ⟨b, o, c, rfl, by have := hg.size; omega, hc, fun j x hj => ?_⟩
    have hne : b ≠ g := by
      rintro rfl
      have h1 := hcell j x hj
      have hx : ∃ s, x = .string s := by
        have := List.mem_of_getElem? hj
        rw [List.mem_flatMap] at this
        obtain ⟨y, -, hy⟩ := this
        simp [encS] at hy
        exact ⟨_, hy⟩
      obtain ⟨s, rfl⟩ := hx
      exact hd.ns _ _ h1
    rw [← hcell j x hj]
    have := hg.block b hlt (by simp only [ne_eq, Option.some.injEq]; exact hne)
    unfold World.cell?
    rw [this]
theorem TO.deck {W0 : World} {v tv : Value} {zs : List Int} {w w' : World} {g Bk : Nat} {l : List Nt} (h : TO w Bk tv l) (hd : Deck W0 v zs w g) (hg : w.grownBy w' (some g)) (hgB : g < Bk) : TO w' Bk tv l :=
  ⟨own_grown h.own hg hgB, fun x hx => ⟨⟨rd_deck (h.nm x hx).1.1 hd hg, (h.nm x hx).1.2⟩, (h.nm x hx).2⟩⟩
/-- a list that a call makes while it draws -/
structure MSt {α : Type} (t : TypeId) (z : Nat) (enc : α → List Value) (W0 : World) (v : Value) (zs : List Int) (w : World) (g : Nat) (hv : Value) (out : List α) (wr : World) : Prop where
  own : Slc.Own wr w.heap.size t z enc hv out
  dk : Deck W0 v zs wr g
  gr : w.grownBy wr (some g)
section
variable {α : Type} {t : TypeId} {z : Nat} {enc : α → List Value} {W0 : World} {v : Value} {zs : List Int} {w : World} {g : Nat} {hv : Value} {out : List α} {wr w' : World}
theorem MSt.below (h : MSt t z enc W0 v zs w g hv out wr) (hb : Below wr.heap.size wr w') : MSt t z enc W0 v zs w g hv out w' :=
  ⟨h.own.below hb, h.dk.below hb, h.gr.trans (grown_below hb)⟩
theorem MSt.grow (h : MSt t z enc W0 v zs w g hv out wr) (hg : wr.grownBy w' (some g)) (hd : Deck W0 v zs w' g) (hgl : g < w.heap.size) : MSt t z enc W0 v zs w g hv out w' :=
  ⟨own_grown h.own hg hgl, hd, h.gr.trans hg⟩
theorem MSt.apd {a b : Nat} {xs news : List Value} {m : List α} {v' : Value} (h : MSt t z enc W0 v zs w g hv out wr) (hgl : g < w.heap.size) (hw0 : W0.heap.size ≤ w.heap.size) (hx : xs = out.flatMap enc) (hy : news = m.flatMap enc) (ha : a = out.length) (hb : b = m.length) (h' : Apd wr w.heap.size t z hv a b xs news v' w') : MSt t z enc W0 v zs w g v' (out ++ m) w' := by
  have hbb : Below w.heap.size wr w' := (Below.refl _ _).grown h'.grown h.gr.size fun k hk => (h.own.lt k hk).1
  exact ⟨h.own.apd hx hy ha hb h', deck_keep h.dk hbb hgl hw0, ⟨hbb.os.trans h.gr.os, hbb.tape.trans h.gr.tape, hbb.output.trans h.gr.output, Nat.le_trans h.gr.size hbb.size, fun k hk hne => (hbb.block k hk).trans (h.gr.block k hk hne)⟩⟩
end
set_option maxRecDepth 100000 in
set_option maxHeartbeats 4000000 in
theorem policy_any (w : World) (m : Nat) (hm : m < 9) : Calls Try.prog 34 #[.int .i64 m] w fun e w' => ∃ p : B, e = .returned (.string (bstr p)) ∧ p.length ≤ 100 ∧ Below w.heap.size w w' := by
  have hb : ∀ x, Below w.heap.size w (w.alloc x) := fun x => (Below.refl _ _).alloc (Nat.le_refl _) _
  have HB := Bx.mk hb
  clear hb
  obtain rfl | rfl | rfl | rfl | rfl | rfl | rfl | rfl | rfl : m = 0 ∨ m = 1 ∨ m = 2 ∨ m = 3 ∨ m = 4 ∨ m = 5 ∨ m = 6 ∨ m = 7 ∨ m = 8 := by omega
  all_goals
    clear hm
    go_enter Try.func34, Try.ntmps34
    go_wp2_with fail
    go_ret
  · exact ⟨[49, 46, 50, 46, 51, 46, 49], rfl, by decide, HB.out _⟩
  · exact ⟨[49, 46, 50, 46, 51, 46, 50], rfl, by decide, HB.out _⟩
  · exact ⟨[49, 46, 50, 46, 51, 46, 51], rfl, by decide, HB.out _⟩
  · exact ⟨[49, 46, 50, 46, 51, 46, 52], rfl, by decide, HB.out _⟩
  · exact ⟨[49, 46, 50, 46, 51, 46, 53], rfl, by decide, HB.out _⟩
  · exact ⟨[50, 46, 57, 57, 57, 46, 49], rfl, by decide, HB.out _⟩
  · exact ⟨[50, 46, 57, 57, 57, 46, 50], rfl, by decide, HB.out _⟩
  · exact ⟨[49, 46, 50, 46, 51], rfl, by decide, HB.out _⟩
  · exact ⟨anyP, rfl, by decide, HB.out _⟩
theorem info_map2 : (Try.prog.info? 50).map (fun i => (i.zero, i.size, i.bytes)) = some (some (.agg #[.string ⟨#[]⟩, .string ⟨#[]⟩]), 2, 32) := by kernel_rfl
theorem und_maps : Try.prog.underlying 41 = some (.slice 50) := by kernel_rfl
theorem src_map (w : World) (x y : B) : SrcV (w.alloc (.cells #[.string (bstr x), .string (bstr y)] 50)) 2 (.slice (some ⟨w.heap.size, 0, none⟩) 1 1) 1 ([(x, y)].flatMap encP) := src_new encP_ok (heap_alloc_new _ _)
set_option maxRecDepth 100000 in
set_option maxHeartbeats 4000000 in
theorem policies_any (W0 : World) (v : Value) (zs : List Int) (w : World) (g n : Nat) (h : Deck W0 v zs w g) (hn : n ≤ 1000) :
    Calls Try.prog 20 #[.pointer (some ⟨g, 0, none⟩), .int .i64 n] w fun e w' => ∃ (rv : Value) (out : List B), e = .returned rv ∧ MSt 9 1 encS W0 v zs w g rv out w' ∧ out.length ≤ n ∧ ∀ p ∈ out, p.length ≤ 100 := by
  obtain ⟨i0, hi0, hz0, hz1, hz2⟩ := info_parts info_str
  have hgl := h.lt
  have hw0 := h.bel.size
  have hnx := next_any W0 v zs w g ((n : Int) + 1) h (by omega) (by omega)
  go_enter Try.func20, Try.ntmps20
  go_wp2_with fail
  refine hnx.mono ?_
  rintro e w1 ⟨r, rfl, a1, b1, hD1, hg1⟩
  have HS1 := Bx.mk (show MSt 9 1 encS W0 v zs w g (.slice none 0 0) [] w1 from ⟨Slc.Own.nil _ _, hD1, hg1⟩)
  clear hnx hD1 hg1 h
  go_wp2_with fail
  go_loopw [5, 6] (fun hv i wr => ∃ (k : Int) (out : List B), 0 ≤ k ∧ i = .int .i64 k ∧ out.length + k ≤ n ∧ Bx (MSt 9 1 encS W0 v zs w g hv out wr) ∧ Bx (∀ p ∈ out, p.length ≤ 100)) (fun _ i _ => (intOf i).toNat)
  case atStart => exact ⟨r, [], a1, rfl, by simp; omega, HS1, ⟨fun p hp => by cases hp⟩⟩
  case round =>
    clear HS1
    obtain ⟨k, out, hk, rfl, hlen, hS, hP⟩ := hrel
    obtain ⟨av, cv, rfl, -⟩ := hS.out.own.rd.form
    by_cases hlt : 0 < k
    · have tk : decide (k > 0) = true := decide_eq_true hlt
      have tk2 : decide (0 < k) = true := decide_eq_true hlt
      have hwk : IntKind.i64.wrap (k - 1) = k - 1 := IntWalk.i64_in _ (by omega)
      obtain ⟨W2, hW2⟩ : ∃ W2, W2 = wr.alloc (.cells #[.int .i64 0, .int .i64 1, .int .i64 2, .int .i64 3, .int .i64 8] 3) := ⟨_, rfl⟩
      have hb2 : Below wr.heap.size wr W2 := by rw [hW2]; exact (Below.refl _ _).alloc (Nat.le_refl _) _
      have hq2 : W2.heap[wr.heap.size]? = some (.cells #[.int .i64 0, .int .i64 1, .int .i64 2, .int .i64 3, .int .i64 8] 3 (0, 0)) := by rw [hW2]; exact heap_alloc_new _ _
      have HS2 := Bx.mk (hS.out.below hb2)
      have hnx := next_any W0 v zs W2 g 5 HS2.out.dk (by omega) (by omega)
      have hsz : w.heap.size ≤ wr.heap.size := hS.out.gr.size
      have HQ2 := Bx.mk hq2
      clear hb2 hq2
      go_upto_if 20 with fail
      rw [← hW2]
      clear hW2
      refine hnx.mono ?_
      rintro e w3 ⟨r3, rfl, a3, b3, hD3, hg3⟩
      clear hnx
      have HS3 := Bx.mk (HS2.out.grow hg3 hD3 hgl)
      have hq3 := (hg3.block wr.heap.size (lt_of_some HQ2.out) (by simp only [ne_eq, Option.some.injEq]; omega)).trans HQ2.out
      obtain ⟨m, rfl⟩ : ∃ m : Nat, r3 = (m : Int) := ⟨r3.toNat, by omega⟩
      obtain ⟨c, hc9, hx⟩ : ∃ c : Nat, c < 9 ∧ w3.cell? ⟨wr.heap.size, m, none⟩ = some (.int .i64 (c : Int)) := by
        have hm5 : m = 0 ∨ m = 1 ∨ m = 2 ∨ m = 3 ∨ m = 4 := by omega
        rcases hm5 with rfl | rfl | rfl | rfl | rfl
        · exact ⟨0, by omega, cell_of_row _ _ 0 _ _ _ hq3⟩
        · exact ⟨1, by omega, cell_of_row _ _ 1 _ _ _ hq3⟩
        · exact ⟨2, by omega, cell_of_row _ _ 2 _ _ _ hq3⟩
        · exact ⟨3, by omega, cell_of_row _ _ 3 _ _ _ hq3⟩
        · exact ⟨8, by omega, cell_of_row _ _ 4 _ _ _ hq3⟩
      have hm5 : m < 5 := by omega
      have hpl := policy_any w3 c hc9
      clear hD3 hg3 hq3 HS2 HQ2 a3 b3
      go_upto_if 20 with fail
      go_at_call 34
      refine hpl.mono ?_
      rintro e w4 ⟨p, rfl, hp, hb4⟩
      clear hpl
      have HS4 := Bx.mk (HS3.out.below hb4)
      have HS5 := Bx.mk (HS4.out.below ((Below.refl w4.heap.size w4).alloc (Nat.le_refl _) (.cells #[.string (bstr p)] 9)))
      have HP5 := Bx.mk (show ∀ q ∈ out ++ [p], q.length ≤ 100 from fun q hq => by
        rcases List.mem_append.1 hq with e | e
        · exact hP.out q e
        · rw [List.mem_singleton] at e; subst e; exact hp)
      have HSRC := Bx.mk (src_str w4 p)
      have hm1 : out.length + 1 ≤ maxLen := by unfold maxLen; omega
      have hm2 : (out.length + 1) * 16 ≤ 140737488355328 := by omega
      have hbz : w.heap.size ≤ (w4.alloc (.cells #[.string (bstr p)] 9)).heap.size := HS5.out.gr.size
      clear hb4 hx HS3 hc9 hm5 hp
      go_wp2_with (at_builtin; refine wpList_append_any rfl _ _ _ rfl w.heap.size 9 i0 _ 1 16 und_strs hi0 hz0 hz1 hz2 rfl (by decide) _ out.length (out.flatMap encS) rfl HS5.out.own _ 1 ([p].flatMap encS) rfl HSRC.out hm1 hm2 hbz ?_)
      intro v9 w9 hapd
      have HS9 := Bx.mk (HS5.out.apd (m := [p]) hgl hw0 rfl rfl rfl rfl hapd)
      clear hapd hm1 hm2 hbz HS5 HS4
      go_wp2_with fail
      go_roundw
      case rel => exact ⟨k - 1, out ++ [p], by omega, by go_num, by simp; omega, HS9, HP5⟩
      case measure => simp [intOf]; omega
    · go_wp2_with fail
      go_ret
      exact ⟨_, rfl, out, hS.out, by omega, hP.out⟩
set_option maxRecDepth 100000 in
set_option maxHeartbeats 4000000 in
theorem mappings_any (W0 : World) (v : Value) (zs : List Int) (w : World) (g n : Nat) (h : Deck W0 v zs w g) (hn : n ≤ 1000) :
    Calls Try.prog 23 #[.pointer (some ⟨g, 0, none⟩), .int .i64 n] w fun e w' => ∃ (rv : Value) (out : List (B × B)), e = .returned rv ∧ MSt 50 2 encP W0 v zs w g rv out w' ∧ out.length ≤ n + 1 ∧ ∀ p ∈ out, p.1.length ≤ 100 ∧ p.2.length ≤ 100 := by
  obtain ⟨i0, hi0, hz0, hz1, hz2⟩ := info_parts info_map2
  have hgl := h.lt
  have hw0 := h.bel.size
  have hnx := next_any W0 v zs w g ((n : Int) + 1) h (by omega) (by omega)
  go_enter Try.func23, Try.ntmps23
  go_wp2_with fail
  refine hnx.mono ?_
  rintro e w1 ⟨r, rfl, a1, b1, hD1, hg1⟩
  have HS1 := Bx.mk (show MSt 50 2 encP W0 v zs w g (.slice none 0 0) [] w1 from ⟨Slc.Own.nil _ _, hD1, hg1⟩)
  clear hnx hD1 hg1 h
  go_wp2_with fail
  go_loopw [5, 6] (fun hv i wr => ∃ (k : Int) (out : List (B × B)), 0 ≤ k ∧ i = .int .i64 k ∧ out.length + k ≤ n ∧ Bx (MSt 50 2 encP W0 v zs w g hv out wr) ∧ Bx (∀ p ∈ out, p.1.length ≤ 100 ∧ p.2.length ≤ 100)) (fun _ i _ => (intOf i).toNat)
  case atStart => exact ⟨r, [], a1, rfl, by simp; omega, HS1, ⟨fun p hp => by cases hp⟩⟩
  case round =>
    clear HS1
    obtain ⟨k, out, hk, rfl, hlen, hS, hP⟩ := hrel
    obtain ⟨av, cv, rfl, -⟩ := hS.out.own.rd.form
    by_cases hlt : 0 < k
    · have tk : decide (k > 0) = true := decide_eq_true hlt
      have tk2 : decide (0 < k) = true := decide_eq_true hlt
      have hwk : IntKind.i64.wrap (k - 1) = k - 1 := IntWalk.i64_in _ (by omega)
      have hnx := next_any W0 v zs wr g 4 hS.out.dk (by omega) (by omega)
      go_upto_if 20 with fail
      refine hnx.mono ?_
      rintro e w3 ⟨r3, rfl, a3, b3, hD3, hg3⟩
      clear hnx
      have HS3 := Bx.mk (hS.out.grow hg3 hD3 hgl)
      obtain ⟨m, rfl⟩ : ∃ m : Nat, r3 = (m : Int) := ⟨r3.toNat, by omega⟩
      have hpl := policy_any w3 m (by omega)
      clear hD3 hg3 hS a3 b3
      go_upto_if 20 with fail
      go_at_call 34
      refine hpl.mono ?_
      rintro e w4 ⟨p, rfl, hp, hb4⟩
      clear hpl
      have HS4 := Bx.mk (HS3.out.below hb4)
      have hnx := next_any W0 v zs w4 g 4 HS4.out.dk (by omega) (by omega)
      clear hb4 HS3
      go_upto_if 20 with fail
      refine hnx.mono ?_
      rintro e w5 ⟨r5, rfl, a5, b5, hD5, hg5⟩
      clear hnx
      have HS5 := Bx.mk (HS4.out.grow hg5 hD5 hgl)
      obtain ⟨m2, rfl⟩ : ∃ m : Nat, r5 = (m : Int) := ⟨r5.toNat, by omega⟩
      have hpl := policy_any w5 m2 (by omega)
      clear hD5 hg5 HS4 a5 b5
      go_upto_if 20 with fail
      go_at_call 34
      refine hpl.mono ?_
      rintro e w6 ⟨p2, rfl, hp2, hb6⟩
      clear hpl
      have HS6 := Bx.mk (HS5.out.below hb6)
      have HS7 := Bx.mk (HS6.out.below ((Below.refl w6.heap.size w6).alloc (Nat.le_refl _) (.cells #[.string (bstr p), .string (bstr p2)] 50)))
      have HP7 := Bx.mk (show ∀ q ∈ out ++ [(p, p2)], q.1.length ≤ 100 ∧ q.2.length ≤ 100 from fun q hq => by
        rcases List.mem_append.1 hq with e | e
        · exact hP.out q e
        · rw [List.mem_singleton] at e; subst e; exact ⟨hp, hp2⟩)
      have HSRC := Bx.mk (src_map w6 p p2)
      have hm1 : out.length + 1 ≤ maxLen := by unfold maxLen; omega
      have hm2 : (out.length + 1) * 32 ≤ 140737488355328 := by omega
      have hbz : w.heap.size ≤ (w6.alloc (.cells #[.string (bstr p), .string (bstr p2)] 50)).heap.size := HS7.out.gr.size
      clear hb6 HS5 hp hp2
      go_wp2_with (at_builtin; refine wpList_append_any rfl _ _ _ rfl w.heap.size 50 i0 _ 2 32 und_maps hi0 hz0 hz1 hz2 rfl (by decide) _ out.length (out.flatMap encP) rfl HS7.out.own _ 1 ([(p, p2)].flatMap encP) rfl HSRC.out hm1 hm2 hbz ?_)
      intro v9 w9 hapd
      have HS9 := Bx.mk (HS7.out.apd (m := [(p, p2)]) hgl hw0 rfl rfl rfl rfl hapd)
      clear hapd hm1 hm2 hbz HS7 HS6
      go_wp2_with fail
      go_roundw
      case rel => exact ⟨k - 1, out ++ [(p, p2)], by omega, by go_num, by simp; omega, HS9, HP7⟩
      case measure => simp [intOf]; omega
    · have hnx := next_any W0 v zs wr g 12 hS.out.dk (by omega) (by omega)
      go_wp2_with fail
      refine hnx.mono ?_
      rintro e w3 ⟨r3, rfl, a3, b3, hD3, hg3⟩
      clear hnx
      have HS3 := Bx.mk (hS.out.grow hg3 hD3 hgl)
      clear hD3 hg3
      by_cases h1 : r3 = 1
      · have t1 : (r3 == 1) = true := by simp [h1]
        have hpl := policy_any w3 0 (by omega)
        clear a3 b3
        go_wp2_with fail
        go_at_call 34
        refine hpl.mono ?_
        rintro e w6 ⟨p2, rfl, hp2, hb6⟩
        clear hpl
        have HS6 := Bx.mk (HS3.out.below hb6)
        have HS7 := Bx.mk (HS6.out.below ((Below.refl w6.heap.size w6).alloc (Nat.le_refl _) (.cells #[.string (bstr anyP), .string (bstr p2)] 50)))
        have HP7 := Bx.mk (show ∀ q ∈ out ++ [(anyP, p2)], q.1.length ≤ 100 ∧ q.2.length ≤ 100 from fun q hq => by
          rcases List.mem_append.1 hq with e | e
          · exact hP.out q e
          · rw [List.mem_singleton] at e; subst e; exact ⟨(by decide : anyP.length ≤ 100), hp2⟩)
        have HSRC := Bx.mk (src_map w6 anyP p2)
        have hm1 : out.length + 1 ≤ maxLen := by unfold maxLen; omega
        have hm2 : (out.length + 1) * 32 ≤ 140737488355328 := by omega
        have hbz : w.heap.size ≤ (w6.alloc (.cells #[.string (bstr anyP), .string (bstr p2)] 50)).heap.size := HS7.out.gr.size
        clear hb6 HS3 hp2
        go_wp2_with (at_builtin; refine wpList_append_any rfl _ _ _ rfl w.heap.size 50 i0 _ 2 32 und_maps hi0 hz0 hz1 hz2 rfl (by decide) _ out.length (out.flatMap encP) rfl HS7.out.own _ 1 ([(anyP, p2)].flatMap encP) rfl HSRC.out hm1 hm2 hbz ?_)
        intro v9 w9 hapd
        have HS9 := Bx.mk (HS7.out.apd (m := [(anyP, p2)]) hgl hw0 rfl rfl rfl rfl hapd)
        clear hapd hm1 hm2 hbz HS7 HS6
        go_wp2_with fail
        go_ret
        exact ⟨_, out ++ [(anyP, p2)], rfl, HS9.out, by simp; omega, HP7.out⟩
      · have t1 : (r3 == 1) = false := by simp [h1]
        go_wp2_with fail
        go_ret
        exact ⟨_, out, rfl, HS3.out, by omega, hP.out⟩
end Go.Proofs.Ytmagjdocondmhaa.Tr
