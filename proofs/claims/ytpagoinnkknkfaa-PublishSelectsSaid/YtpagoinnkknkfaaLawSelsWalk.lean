/-
  PublishSelects, walked.
-/
import Derived.Test.YtpagoinnkknkfaaLawPartsWalk
namespace Go.Proofs.Ytpagoinnkknkfaa.Pb
open Go Go.RowKit Go.Shelf Go.Proofs.Ytpagoinnkknkfaa.Slc
set_option linter.unusedVariables false
set_option linter.unusedSimpArgs false
attribute [local go_sem] Oper.semAt_some

/-- the facts of the region of the four numbers -/
def SlF (g : Nat) : Nat → Value → World → Prop
  | 0, x, _ => x = .pointer (some ⟨g, 0, none⟩)
  | 1, x, _ => ∃ r : Int, x = .int .i64 r
  | 2, x, _ => x = .pointer (some ⟨g, 0, none⟩)
  | 3, x, _ => ∃ r : Int, x = .int .i64 r ∧ 0 ≤ r ∧ r < 5
  | 4, x, _ => ∃ r : Int, x = .int .i64 r
  | 5, x, _ => x = .pointer (some ⟨g, 0, none⟩)
  | 6, x, _ => ∃ r : Int, x = .int .i64 r
  | 7, x, w => ∃ b : Nat, x = .slice (some ⟨b, 0, none⟩) 5 5 ∧ b ≠ g ∧ w.heap[b]? = some (.cells #[.int .i64 0, .int .i64 2, .int .i64 64, .int .i64 128, .int .i64 510] 3 (0, 0))
  | 8, x, _ => x = .pointer (some ⟨g, 0, none⟩)
  | 9, x, _ => ∃ n : Nat, x = .int .i64 n ∧ n < 5
  | 10, x, w => ∃ b n : Nat, x = .pointer (some ⟨b, n, none⟩) ∧ n < 5 ∧ b ≠ g ∧ w.heap[b]? = some (.cells #[.int .i64 0, .int .i64 2, .int .i64 64, .int .i64 128, .int .i64 510] 3 (0, 0))
  | 11, x, _ => ∃ r : Int, x = .int .i64 r
  | 12, x, _ => ∃ r : Int, x = .int .i64 r
  | 13, x, _ => ∃ r : Int, x = .int .i64 r
  | 14, x, _ => ∃ r : Int, x = .int .i64 r
  | 15, x, _ => ∃ r : Int, x = .int .i64 r
  | _, _, _ => True
theorem SlF.stable (g : Nat) (i : Nat) (x : Value) (w w' : World) (h : SlF g i x w) (hg : w.grownBy w' (some g)) : SlF g i x w' := by
  match i with
  | 0 | 1 | 2 | 3 | 4 | 5 | 6 | 8 | 9 | 11 | 12 | 13 | 14 | 15 => exact h
  | 7 => obtain ⟨b, h1, h2, h3⟩ := h; exact ⟨b, h1, h2, grown_row hg h3 h2⟩
  | 10 => obtain ⟨b, n, h1, h2, h3, h4⟩ := h; exact ⟨b, n, h1, h2, h3, grown_row hg h4 h3⟩
  | _ + 16 => exact trivial
set_option maxRecDepth 100000 in
set_option maxHeartbeats 8000000 in
theorem law_sels (v : Value) (zs : List Int) (rv : Value) (certs : List Iss) (parts part cls reasons : Int) (w : World) (hI : Ints w .i64 v zs) (hR : Rd w encI rv certs) (hRs : ∀ c ∈ certs, c.In) (hRl : certs.length ≤ 9223372036854775807) :
    Calls Try.prog 7 #[v, rv, .int .i64 parts, .int .i64 part, .int .i64 cls, .int .i64 reasons] w fun e w' => e = .returned (.bool true) ∧ Below w.heap.size w w' := by
  obtain ⟨i0, hi0, hz0, hz1, hz2⟩ := info_parts info_issued
  obtain ⟨ra, rc, rfl, -⟩ := hR.form
  have haw := awake_any
  by_cases h20 : 20 < certs.length
  · have t0 : decide ((certs.length : Int) > 20) = true := decide_eq_true (by omega)
    have t1 : decide (20 < certs.length) = true := decide_eq_true h20
    clear hR hRl
    go_enter Try.func7, Try.ntmps7
    go_wp2_with (go_at_call 18; refine (haw _).mono ?_; rintro e w2 ⟨rfl, hb2⟩)
    go_ret
    exact ⟨rfl, hb2⟩
  have t0 : decide ((certs.length : Int) > 20) = false := decide_eq_false (by omega)
  have t1 : decide (20 < certs.length) = false := decide_eq_false h20
  have hcl20 : certs.length ≤ 20 := by omega
  have hnew := new_any w v zs w hI (Below.refl _ _)
  have HRD := Bx.mk hR
  have HRS := Bx.mk (show ∀ c ∈ certs, I64 c.s from fun c hc => hRs c hc)
  clear hR hRs hRl h20
  go_enter Try.func7, Try.ntmps7
  go_wp2_with fail
  refine hnew.mono ?_
  rintro e W1 ⟨rfl, hb1, hD1⟩
  clear hnew
  obtain ⟨g, hg⟩ : ∃ g, g = w.heap.size := ⟨_, rfl⟩
  rw [← hg] at hD1 hb1 ⊢
  have HG := Bx.mk hg
  have HB1 := Bx.mk hb1
  have hgl := hD1.lt
  clear hb1 hg
  have hm1 := made_any w v zs W1 g 20 false hD1 (by omega)
  clear hD1
  go_wp2_with fail
  refine hm1.mono ?_
  rintro e W2 ⟨xv, X, rfl, hX, lX, oX, hD2, hg2⟩
  clear hm1
  have HX2 := Bx.mk hX
  have HOX := Bx.mk oX
  have HBW := Bx.mk (show Below w.heap.size w W2 from HG.out ▸ HB1.out.grown hg2 (by omega) (fun k hk => by simp only [Option.some.injEq] at hk; omega))
  have hgl2 : g < W2.heap.size := hD2.lt
  obtain ⟨xa, xc, rfl, -⟩ := hX.el.rd.form
  have hnx := next_any w v zs W2 g 8 hD2 (by omega) (by omega)
  clear hX oX hg2 hD2
  go_wp2_with fail
  refine hnx.mono ?_
  rintro e W5 ⟨r8, rfl, ra8, rb8, hD5, hg5⟩
  clear hnx
  have HX5 := Bx.mk (HX2.out.grow hg5 hgl)
  have hz5 := hg5.size
  have HB5 := Bx.mk (HBW.out.grown hg5 HBW.out.size (fun k hk => by simp only [Option.some.injEq] at hk; have := HG.out; omega))
  have HD5 := Bx.mk hD5
  clear hg5 hD5
  have hwd : w.heap.size ≤ g := by have := HG.out; omega
  go_wp2_with fail
  go_loopw [15, 16] (fun cv i wr => ∃ (K : Int) (cs : List Iss), 0 ≤ K ∧ K < 8 ∧ i = .int .i64 K ∧ (cs.length : Int) + K ≤ 8 ∧ wr.ownsRow W5.heap.size 50 3 cv cs.length (cs.flatMap encI) ∧ Deck w v zs wr g ∧ W5.grownBy wr (some g) ∧ Bx (∀ c ∈ cs, I64 c.s)) (fun _ i _ => (intOf i).toNat)
  case atStart => exact ⟨r8, [], by omega, by omega, rfl, by simp; omega, World.ownsRow_nil _ _ _ _, HD5.out, grown_refl _ _, ⟨fun c hc => (by cases hc)⟩⟩
  case round =>
    obtain ⟨K, cs, hK1, hK2, rfl, hcl, hown, hD, hGr, hP⟩ := hrel
    have hO : Go.Proofs.Ytpagoinnkknkfaa.Slc.Own wr W5.heap.size 50 3 encI _ cs := hown
    obtain ⟨ca, cc, rfl, -⟩ := hO.rd.form
    by_cases hlt : 0 < K
    · have tk : decide (K > 0) = true := decide_eq_true hlt
      have tk2 : decide (0 < K) = true := decide_eq_true hlt
      have hnx := next_any w v zs wr g 5 hD (by omega) (by omega)
      have HO := Bx.mk hO
      have HGR := Bx.mk hGr
      have HCL := Bx.mk hcl
      clear hO hown hD hGr hcl
      go_upto_region 9 with fail
      go_wp2_with fail
      refine hnx.mono ?_
      rintro e w1 ⟨s, rfl, s0, s2, hD1, hg1⟩
      clear hnx
      have hnx := next_any w v zs w1 g 2 hD1 (by omega) (by omega)
      have HO1 := Bx.mk (show Go.Proofs.Ytpagoinnkknkfaa.Slc.Own w1 W5.heap.size 50 3 encI (.slice ca cs.length cc) cs from own_grown HO.out hg1 (by omega))
      have HGR1 := Bx.mk (HGR.out.trans hg1)
      clear hD1 hg1 HO HGR
      go_wp2_with fail
      refine hnx.mono ?_
      rintro e w2 ⟨q, rfl, q0, q2, hD2, hg2⟩
      clear hnx
      have HO2 := Bx.mk (show Go.Proofs.Ytpagoinnkknkfaa.Slc.Own w2 W5.heap.size 50 3 encI (.slice ca cs.length cc) cs from own_grown HO1.out hg2 (by omega))
      have HGR2 := Bx.mk (HGR1.out.trans hg2)
      obtain ⟨bb, hbb⟩ : ∃ bb, (q == 1) = bb := ⟨_, rfl⟩
      have hw1s : IntKind.i64.wrap (1 + s) = 1 + s := IntWalk.i64_in _ (by omega)
      have hbox : Below w2.heap.size w2 (w2.alloc (.cells #[.int .i64 (1 + s), .bool bb, .string ⟨#[]⟩] 50)) := (Below.refl _ _).alloc (Nat.le_refl _) _
      have HO3 := Bx.mk (Go.Proofs.Ytpagoinnkknkfaa.Slc.Own.below (t := 50) HO2.out hbox)
      have HD3 := Bx.mk (hD2.below hbox)
      have HGR3 := Bx.mk (grown_alloc HGR2.out (.cells #[.int .i64 (1 + s), .bool bb, .string ⟨#[]⟩] 50))
      have hsz3 : W5.heap.size ≤ (w2.alloc (.cells #[.int .i64 (1 + s), .bool bb, .string ⟨#[]⟩] 50)).heap.size := HGR3.out.size
      have hsrc : SrcV (w2.alloc (.cells #[.int .i64 (1 + s), .bool bb, .string ⟨#[]⟩] 50)) 3 (.slice (some ⟨w2.heap.size, 0, none⟩) 1 1) 1 ([(⟨1 + s, bb, ⟨#[]⟩⟩ : Iss)].flatMap encI) := src_new encI_ok (by rw [heap_alloc_new]; rfl)
      have hm1 : cs.length + 1 ≤ maxLen := by have := HCL.out; unfold maxLen; omega
      have hm2 : (cs.length + 1) * 32 ≤ 140737488355328 := by have := HCL.out; omega
      have HP2 := Bx.mk (show (∀ c ∈ cs ++ [(⟨1 + s, bb, ⟨#[]⟩⟩ : Iss)], I64 c.s) from
        fun c hc => (List.mem_append.1 hc).elim (hP.out c) (fun h => by rw [List.mem_singleton] at h; subst h; exact ⟨by show -9223372036854775808 ≤ 1 + s; omega, by show 1 + s ≤ 9223372036854775807; omega⟩))
      clear hbox hD2 hg2 HO1 HGR1 HO2 HGR2 q0 q2 hP hw1s
      go_wp2_with (refine wpList_append_any rfl _ _ _ rfl W5.heap.size 50 i0 _ 3 32 und_issueds hi0 hz0 hz1 hz2 rfl (by decide) _ cs.length (cs.flatMap encI) rfl HO3.out _ 1 ([(⟨1 + s, bb, ⟨#[]⟩⟩ : Iss)].flatMap encI) rfl hsrc hm1 hm2 hsz3 ?_)
      intro v9 w9 hapd
      have hbb9 : Below W5.heap.size (w2.alloc (.cells #[.int .i64 (1 + s), .bool bb, .string ⟨#[]⟩] 50)) w9 := (Below.refl _ _).grown hapd.grown hsz3 (fun k hk => (HO3.out.lt k hk).1)
      have HO9 := Bx.mk (show w9.ownsRow W5.heap.size 50 3 v9 (cs ++ [(⟨1 + s, bb, ⟨#[]⟩⟩ : Iss)]).length ((cs ++ [(⟨1 + s, bb, ⟨#[]⟩⟩ : Iss)]).flatMap encI) by rw [List.length_append, List.flatMap_append]; exact hapd.own)
      have HD9 := Bx.mk (deck_keep HD3.out hbb9 (by omega) (by omega))
      have HG9 := Bx.mk (show W5.grownBy w9 (some g) from ⟨hbb9.os.trans HGR3.out.os, hbb9.tape.trans HGR3.out.tape, hbb9.output.trans HGR3.out.output, Nat.le_trans HGR3.out.size hbb9.size, fun k hk hne => (hbb9.block k hk).trans (HGR3.out.block k hk hne)⟩)
      clear hapd hsrc hbb9 hm1 hm2 HO3 HD3 HGR3
      go_wp2
      go_roundw
      case rel => exact ⟨K - 1, cs ++ [(⟨1 + s, bb, ⟨#[]⟩⟩ : Iss)], by omega, by omega, by go_num, by have := HCL.out; simp; omega, HO9.out, HD9.out, HG9.out, ⟨HP2.out⟩⟩
      case measure => simp [intOf]; omega
    · have tk : decide (K > 0) = false := decide_eq_false hlt
      have tk2 : decide (0 < K) = false := decide_eq_false hlt
      have hgl5 : g < W5.heap.size := by omega
      have HX := Bx.mk (HX5.out.grow hGr hgl)
      have HBR := Bx.mk (HB5.out.grown hGr HB5.out.size (fun k hk => by simp only [Option.some.injEq] at hk; omega))
      have HS5 := Bx.mk (show ∀ x ∈ X, I64 x.e.s from fun x hx => ⟨by have := (HOX.out.s5 x hx).1; omega, by have := (HOX.out.s5 x hx).2; omega⟩)
      have hcl8 : cs.length ≤ 8 := by omega
      have HD := Bx.mk hD
      have HC := Bx.mk hO
      clear hO hown hD hGr hcl hK1 hK2 hlt
      go_wp2_with fail
      refine wp_region_rel 16 (fun a b => a.grownBy b (some g)) (fun w' => Deck w v zs w' g ∧ wr.grownBy w' (some g)) (SlF g) (by kernel_rfl) (by kernel_rfl) (by rfl) (fun a b hab => grown_below hab) (SlF.stable g) ⟨HD.out.drewN 1, grown_drewN (grown_refl _ _) 1⟩ ?_ ?_
      · intro i oo hi ho x w7 hI hN
        obtain ⟨hD7, hG7⟩ := hI
        have hgw7 := hD7.lt
        have hcs : i = 0 ∨ i = 1 ∨ i = 2 ∨ i = 3 ∨ i = 4 ∨ i = 5 ∨ i = 6 ∨ i = 7 ∨ i = 8 ∨ i = 9 ∨ i = 10 ∨ i = 11 ∨ i = 12 ∨ i = 13 ∨ i = 14 ∨ i = 15 := by omega
        simp only [List.take_succ_cons, List.take_zero, putFrom, Act.put, List.setIfInBounds_toArray, List.set_cons_succ, List.set_cons_zero, Nat.zero_add, Nat.reduceAdd]
        have HI7 := Bx.mk (And.intro hD7 hG7)
        have HX5 := Bx.mk (next_any w v zs w7 g 5 hD7 (by omega) (by omega))
        have HX4 := Bx.mk (next_any w v zs w7 g 4 hD7 (by omega) (by omega))
        have HAL := Bx.mk (show ∀ ob, w7.grownBy (w7.alloc ob) (some g) ∧ Deck w v zs (w7.alloc ob) g ∧ wr.grownBy (w7.alloc ob) (some g) from fun ob => ⟨World.grownBy_alloc _ _ _, hD7.below ((Below.refl _ _).alloc (Nat.le_refl _) _), grown_alloc hG7 _⟩)
        clear hD7 hG7
        rcases hcs with rfl | rfl | rfl | rfl | rfl | rfl | rfl | rfl | rfl | rfl | rfl | rfl | rfl | rfl | rfl | rfl
        all_goals
          simp only [List.getElem?_cons_succ, List.getElem?_cons_zero, Option.some.injEq] at ho
          subst ho
          simp [NeedsB, Region.binds, SlF] at hN
        case inr.inl =>
          go_wp2_with (go_at_call 25; refine HX5.out.mono ?_; rintro e w8 ⟨r, rfl, a1, b1, hD8, hg8⟩)
          exact ⟨rfl, rfl, ⟨r, rfl⟩, hg8, hD8, HI7.out.2.trans hg8⟩
        case inr.inr.inr.inl =>
          go_wp2_with (go_at_call 25; refine HX5.out.mono ?_; rintro e w8 ⟨r, rfl, a1, b1, hD8, hg8⟩)
          exact ⟨rfl, rfl, ⟨r, rfl, a1, b1⟩, hg8, hD8, HI7.out.2.trans hg8⟩
        case inr.inr.inr.inr.inl =>
          obtain ⟨r, q1, q2, q3⟩ := hN
          go_wp2_with fail
          exact ⟨rfl, rfl, ⟨_, rfl⟩, grown_refl _ _, HI7.out⟩
        case inr.inr.inr.inr.inr.inr.inl =>
          go_wp2_with (go_at_call 25; refine HX4.out.mono ?_; rintro e w8 ⟨r, rfl, a1, b1, hD8, hg8⟩)
          exact ⟨rfl, rfl, ⟨r, rfl⟩, hg8, hD8, HI7.out.2.trans hg8⟩
        case inr.inr.inr.inr.inr.inr.inr.inl =>
          go_wp2_with fail
          exact ⟨rfl, rfl, ⟨w7.heap.size, rfl, by omega, heap_alloc_new _ _⟩, HAL.out _⟩
        case inr.inr.inr.inr.inr.inr.inr.inr.inr.inl =>
          go_wp2_with (go_at_call 25; refine HX5.out.mono ?_; rintro e w8 ⟨r, rfl, a1, b1, hD8, hg8⟩)
          exact ⟨rfl, rfl, ⟨r.toNat, by rw [Int.toNat_of_nonneg a1]; rfl, by omega⟩, hg8, hD8, HI7.out.2.trans hg8⟩
        case inr.inr.inr.inr.inr.inr.inr.inr.inr.inr.inl =>
          obtain ⟨⟨b, q1, q2, q3⟩, ⟨n, q4, q5⟩⟩ := hN
          go_wp2_with fail
          exact ⟨rfl, rfl, ⟨b, n, rfl, q5, q2, q3⟩, grown_refl _ _, HI7.out⟩
        case inr.inr.inr.inr.inr.inr.inr.inr.inr.inr.inr.inl =>
          obtain ⟨b, n, q1, q2, q3, q4⟩ := hN
          have hn : n = 0 ∨ n = 1 ∨ n = 2 ∨ n = 3 ∨ n = 4 := by omega
          obtain ⟨R, hR⟩ : ∃ R : Int, w7.cell? ⟨b, n, none⟩ = some (.int .i64 R) := by
            rw [cell_of_row _ _ n _ _ _ q4]
            rcases hn with rfl | rfl | rfl | rfl | rfl <;> exact ⟨_, rfl⟩
          clear q4 hn
          go_wp2_with fail
          exact ⟨rfl, rfl, ⟨R, rfl⟩, grown_refl _ _, HI7.out⟩
        case inr.inr.inr.inr.inr.inr.inr.inr.inr.inr.inr.inr.inl =>
          have hN1 : ∃ r : Int, x 1 = .int .i64 r := by first | exact hN | exact hN.1 | exact hN.2.1 | exact hN.2.2.1 | exact hN.2.2.2.1
          obtain ⟨r, q1⟩ := hN1
          go_wp2_with fail
          exact ⟨rfl, rfl, ⟨_, rfl⟩, grown_refl _ _, HI7.out⟩
        case inr.inr.inr.inr.inr.inr.inr.inr.inr.inr.inr.inr.inr.inl =>
          have hN1 : ∃ r : Int, x 4 = .int .i64 r := by first | exact hN | exact hN.1 | exact hN.2.1 | exact hN.2.2.1 | exact hN.2.2.2.1
          obtain ⟨r, q1⟩ := hN1
          go_wp2_with fail
          exact ⟨rfl, rfl, ⟨_, rfl⟩, grown_refl _ _, HI7.out⟩
        case inr.inr.inr.inr.inr.inr.inr.inr.inr.inr.inr.inr.inr.inr.inl =>
          have hN1 : ∃ r : Int, x 6 = .int .i64 r := by first | exact hN | exact hN.1 | exact hN.2.1 | exact hN.2.2.1 | exact hN.2.2.2.1
          obtain ⟨r, q1⟩ := hN1
          go_wp2_with fail
          exact ⟨rfl, rfl, ⟨_, rfl⟩, grown_refl _ _, HI7.out⟩
        case inr.inr.inr.inr.inr.inr.inr.inr.inr.inr.inr.inr.inr.inr.inr =>
          have hN1 : ∃ r : Int, x 11 = .int .i64 r := by first | exact hN | exact hN.1 | exact hN.2.1 | exact hN.2.2.1 | exact hN.2.2.2.1
          obtain ⟨r, q1⟩ := hN1
          go_wp2_with fail
          exact ⟨rfl, rfl, ⟨_, rfl⟩, grown_refl _ _, HI7.out⟩
        all_goals
          go_wp2_with fail
          exact ⟨rfl, rfl, rfl, grown_refl _ _, HI7.out⟩
      · intro x w7 hI hf
        obtain ⟨hD7, hG7⟩ := hI
        have f12 := hf 12 (by omega)
        have f13 := hf 13 (by omega)
        have f14 := hf 14 (by omega)
        have f15 := hf 15 (by omega)
        simp only [SlF] at f12 f13 f14 f15
        clear hf
        obtain ⟨a1, f12⟩ := f12
        obtain ⟨a2, f13⟩ := f13
        obtain ⟨a3, f14⟩ := f14
        obtain ⟨a4, f15⟩ := f15
        have HXW := Bx.mk (HX.out.grow hG7 hgl).el
        have HCW := Bx.mk (show Go.Proofs.Ytpagoinnkknkfaa.Slc.Own w7 W5.heap.size 50 3 encI (.slice ca cs.length cc) cs from own_grown HC.out hG7 hgl5).rd
        have HBB := Bx.mk (HBR.out.grown hG7 HBR.out.size (fun k hk => by simp only [Option.some.injEq] at hk; omega))
        have HRW := Bx.mk (HRD.out.below HBB.out)
        simp only [List.take_succ_cons, List.take_zero, List.drop_succ_cons, List.drop_zero, putFrom, Act.put, List.setIfInBounds_toArray, List.set_cons_succ, List.set_cons_zero, Nat.zero_add, Nat.reduceAdd, f12, f13, f14, f15]
        clear f12 f13 f14 f15 hD7 hG7 HX HD HC
        generalize x 0 = x0, x 1 = x1, x 2 = x2, x 3 = x3, x 4 = x4, x 5 = x5, x 6 = x6, x 7 = x7, x 8 = x8, x 9 = x9, x 10 = x10, x 11 = x11
        have hp1 := psel_any w7 (.slice xa X.length xc) (.slice ca cs.length cc) X cs a1 a2 a3 a4 HXW.out (by omega) HCW.out (by omega) hP.out HS5.out
        go_wp2_with fail
        refine hp1.mono ?_
        rintro e w8 ⟨av, A, rfl, eA, hA, hb8⟩
        clear hp1
        have HA := Bx.mk hA.el
        have HEA := Bx.mk eA
        have HB8 := Bx.mk hb8
        have hp2 := rsel_any w8 (.slice xa X.length xc) (.slice ca cs.length cc) X cs a1 a2 a3 a4 (HXW.out.below hb8) (by omega) (HCW.out.below hb8) (by omega)
        clear hA eA hb8
        go_wp2_with fail
        refine hp2.mono ?_
        rintro e w9 ⟨bv, Bl, rfl, eB, hB, hb9⟩
        clear hp2
        have HB9 := Bx.mk (HB8.out.trans (hb9.mono HB8.out.size))
        have HLB := Bx.mk (show ∀ (f : En → Bool), ((ens X).filter f).length ≤ 20 from fun f => by
          have := List.length_filter_le f (ens X)
          rw [List.length_map] at this; omega)
        have hsm := rsameE_any w9 av bv A Bl (HA.out.below hb9) hB.el (by have h1 := congrArg List.length HEA.out; have h2 := HLB.out (selC cs a1 a2 a3 a4); simp only [ens, List.length_map] at h1 h2; omega) (by have h1 := congrArg List.length eB; have h2 := HLB.out (selC cs a1 a2 a3 a4); simp only [ens, List.length_map] at h1 h2; omega)
        rw [HEA.out, eB, sameB_refl] at hsm
        clear hB eB hb9
        go_wp2_with fail
        refine hsm.mono ?_
        rintro e w10 ⟨rfl, hb10⟩
        clear hsm
        have HB10 := Bx.mk (HB9.out.trans (hb10.mono HB9.out.size))
        have hp1 := psel_any w10 (.slice xa X.length xc) (.slice ra certs.length rc) X certs parts part cls reasons (HXW.out.below HB10.out) (by omega) (HRW.out.below HB10.out) (by omega) HRS.out HS5.out
        clear hb10
        go_wp2_with fail
        refine hp1.mono ?_
        rintro e w11 ⟨cv, C, rfl, eC, hC, hb11⟩
        clear hp1
        have HC := Bx.mk hC.el
        have HEC := Bx.mk eC
        have HB11 := Bx.mk (HB10.out.trans (hb11.mono HB10.out.size))
        have hp2 := rsel_any w11 (.slice xa X.length xc) (.slice ra certs.length rc) X certs parts part cls reasons (HXW.out.below HB11.out) (by omega) (HRW.out.below HB11.out) (by omega)
        clear hC eC hb11
        go_wp2_with fail
        refine hp2.mono ?_
        rintro e w12 ⟨dv, D, rfl, eD, hDD, hb12⟩
        clear hp2
        have HB12 := Bx.mk (HB11.out.trans (hb12.mono HB11.out.size))
        have hsm := rsameE_any w12 cv dv C D (HC.out.below hb12) hDD.el (by have h1 := congrArg List.length HEC.out; have h2 := HLB.out (selC certs parts part cls reasons); simp only [ens, List.length_map] at h1 h2; omega) (by have h1 := congrArg List.length eD; have h2 := HLB.out (selC certs parts part cls reasons); simp only [ens, List.length_map] at h1 h2; omega)
        rw [HEC.out, eD, sameB_refl] at hsm
        clear hDD eD hb12
        go_wp2_with fail
        refine hsm.mono ?_
        rintro e w13 ⟨rfl, hb13⟩
        clear hsm
        have HB13 := Bx.mk (HBB.out.trans ((HB12.out.trans (hb13.mono HB12.out.size)).mono HBB.out.size))
        clear hb13
        go_wp2_with (go_at_call 18; refine (haw _).mono ?_; rintro e w8 ⟨rfl, hb8⟩)
        have HB14 := Bx.mk (HB13.out.trans (hb8.mono HB13.out.size))
        clear hb8
        go_wp2
        go_ret
        exact ⟨rfl, HB14.out⟩
end Go.Proofs.Ytpagoinnkknkfaa.Pb
