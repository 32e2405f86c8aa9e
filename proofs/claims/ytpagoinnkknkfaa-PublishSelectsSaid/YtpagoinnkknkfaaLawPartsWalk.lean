/-
  PublishParts, walked.
-/
import Derived.Test.YtpagoinnkknkfaaPbMade
import Derived.Test.YtpagoinnkknkfaaPbRSel
namespace Go.Proofs.Ytpagoinnkknkfaa.Pb
open Go Go.RowKit Go.Shelf Go.Proofs.Ytpagoinnkknkfaa.Slc
set_option linter.unusedVariables false
set_option linter.unusedSimpArgs false
attribute [local go_sem] Oper.semAt_some

theorem ints_one2 {w : World} {b : Nat} {t : TypeId} {k : Int} (h : w.heap[b]? = some (.cells #[.int .i64 k] t (0, 0))) : Ints w .i64 (.slice (some ⟨b, 0, none⟩) 1 1) [k] :=
  .some b 0 1 [k] (lt_of_block h) (by simp) (by simp) (by unfold maxLen; simp) fun j y hj => by
    have hjl : j = 0 := by have := (List.getElem?_eq_some_iff.1 hj).1; simpa using this
    subst hjl
    simp only [List.getElem?_cons_zero, Option.some.injEq] at hj
    subst hj
    rw [Nat.add_zero, cell_of_row _ _ 0 _ _ _ h]; rfl
theorem info_issued : (Try.prog.info? 50).map (fun i => (i.zero, i.size, i.bytes)) = some (some (.agg #[.int .i64 0, .bool false, .string ⟨#[]⟩]), 3, 32) := by kernel_rfl
theorem und_issueds : Try.prog.underlying 46 = some (.slice 50) := by kernel_rfl
theorem firstI_snoc (cs : List Iss) (c : Iss) (s : Int) : (firstI (cs ++ [c]) s).isSome = ((firstI cs s).isSome || (c.s == s)) := by
  unfold firstI
  rw [List.find?_append]
  cases q : cs.find? (fun c => c.s == s) with
  | some x => simp
  | none =>
    simp only [Option.none_or, Option.map_none, Option.isSome_none, Bool.false_or, List.find?_cons, List.find?_nil]
    cases c.s == s <;> rfl
/-- the entries of a part that are in a class -/
def inP (n p : Int) (e : En) : Bool := e.s.tmod n == p
theorem sel_all (cs : List Iss) (n p : Int) (hn : 0 < n) (hp : 0 ≤ p) (e : En) : selC cs n p 0 0 e = inP n p e := by
  rw [selC_eq]
  unfold partB reasB inP
  rw [decide_eq_false (by omega), decide_eq_false (by omega)]
  have : clsB 0 (firstI cs e.s) = true := by unfold clsB; split <;> rfl
  rw [this]; simp
theorem sel_two (cs : List Iss) (n p : Int) (hn : 0 < n) (hp : 0 ≤ p) (e : En) (h : (firstI cs e.s).isSome = true) : (selC cs n p 1 0 e).toNat + (selC cs n p 2 0 e).toNat = (inP n p e).toNat := by
  rw [selC_eq, selC_eq]
  unfold partB reasB inP
  rw [decide_eq_false (by omega), decide_eq_false (by omega)]
  obtain ⟨ca, hca⟩ := Option.isSome_iff_exists.1 h
  rw [hca]
  cases ca <;> cases (e.s.tmod n == p) <;> rfl
theorem filt_two (f g h : En → Bool) : ∀ (l : List En), (∀ e ∈ l, (f e).toNat + (g e).toNat = (h e).toNat) → (l.filter f).length + (l.filter g).length = (l.filter h).length
  | [], _ => rfl
  | e :: l, hh => by
    have ih := filt_two f g h l fun x hx => hh x (by simp [hx])
    have he := hh e (by simp)
    rw [List.filter_cons, List.filter_cons, List.filter_cons]
    cases q1 : f e <;> cases q2 : g e <;> cases q3 : h e <;> simp [q1, q2, q3] at he ⊢ <;> omega
def below (n p : Int) (e : En) : Bool := decide (e.s.tmod n < p)
theorem below_succ (n p : Int) (l : List En) : (l.filter (below n (p + 1))).length = (l.filter (below n p)).length + (l.filter (inP n p)).length := by
  refine (filt_two _ _ _ l fun e _ => ?_).symm
  unfold below inP
  by_cases h1 : e.s.tmod n < p
  · have h2 : (e.s.tmod n == p) = false := by simp; omega
    have h3 : e.s.tmod n < p + 1 := by omega
    rw [decide_eq_true h1, decide_eq_true h3, h2]; rfl
  · by_cases h4 : e.s.tmod n = p
    · have h3 : e.s.tmod n < p + 1 := by omega
      rw [decide_eq_false h1, decide_eq_true h3, beq_iff_eq.2 h4]; rfl
    · have h3 : ¬ e.s.tmod n < p + 1 := by omega
      rw [decide_eq_false h1, decide_eq_false h3, beq_eq_false_iff_ne.2 h4]; rfl
theorem below_zero (n : Int) (hn : 0 < n) (l : List En) (h : ∀ e ∈ l, 0 ≤ e.s) : (l.filter (below n 0)).length = 0 := by
  rw [List.length_eq_zero_iff, List.filter_eq_nil_iff]
  intro e he
  have := Int.tmod_nonneg n (h e he)
  simp [below]; omega
theorem below_all (n : Int) (hn : 0 < n) (l : List En) : (l.filter (below n n)).length = l.length := by
  congr 1
  rw [List.filter_eq_self]
  intro e he
  have := Int.tmod_lt_of_pos e.s hn
  simp [below]; exact this
set_option maxRecDepth 100000 in
set_option maxHeartbeats 8000000 in
theorem law_parts (v : Value) (zs : List Int) (n0 : Int) (w : World) (hI : Ints w .i64 v zs) :
    Calls Try.prog 8 #[v, .int .i64 n0] w fun e w' => e = .returned (.bool true) ∧ Below w.heap.size w w' := by
  obtain ⟨i0, hi0, hz0, hz1, hz2⟩ := info_parts info_issued
  have haw := awake_any
  have hnew := new_any w v zs w hI (Below.refl _ _)
  go_enter Try.func8, Try.ntmps8
  go_wp2_with fail
  refine hnew.mono ?_
  rintro e W1 ⟨rfl, hb1, hD1⟩
  clear hnew
  obtain ⟨g, hg⟩ : ∃ g, g = w.heap.size := ⟨_, rfl⟩
  rw [← hg] at hD1 hb1 ⊢
  have HG := Bx.mk hg
  have HB1 := Bx.mk hb1
  have hgl := hD1.lt
  clear hb1 hg
  have hm1 := made_any w v zs W1 g 12 true hD1 (by omega)
  clear hD1
  go_wp2_with fail
  refine hm1.mono ?_
  rintro e W2 ⟨xv, X, rfl, hX, lX, oX, hD2, hg2⟩
  clear hm1
  have HX2 := Bx.mk hX
  have HOX := Bx.mk oX
  have HBW := Bx.mk (show Below w.heap.size w W2 from HG.out ▸ HB1.out.grown hg2 (by omega) (fun k hk => by simp only [Option.some.injEq] at hk; omega))
  have hz2' := hg2.size
  have HD2 := Bx.mk hD2
  have hgl2 : g < W2.heap.size := hD2.lt
  obtain ⟨xa, xc, rfl, -⟩ := hX.el.rd.form
  clear hX oX hg2 hD2
  obtain ⟨W3, hW3⟩ : ∃ W3, W3 = W2.alloc (.cells #[.int .i64 n0] 3) := ⟨_, rfl⟩
  have hb3 : Below W2.heap.size W2 W3 := by rw [hW3]; exact (Below.refl _ _).alloc (Nat.le_refl _) _
  have hr3 : W3.heap[W2.heap.size]? = some (.cells #[.int .i64 n0] 3 (0, 0)) := by rw [hW3]; exact heap_alloc_new _ _
  have hnw := new_any W3 _ [n0] W3 (ints_one2 hr3) (Below.refl _ _)
  go_wp2_with fail
  rw [← hW3]
  clear hW3 hr3
  refine hnw.mono ?_
  rintro e W4 ⟨rfl, hb4, hD4⟩
  clear hnw
  have hnx := next_any W3 _ [n0] W4 W3.heap.size 4 hD4 (by omega) (by omega)
  have HB24 := Bx.mk (hb3.trans (hb4.mono hb3.size))
  have hz3 := hb3.size
  have hz4 : W3.heap.size ≤ W4.heap.size := hb4.size
  clear hD4 hb4 hb3
  go_wp2_with fail
  refine hnx.mono ?_
  rintro e W5 ⟨r, rfl, r0, r4, -, hg5⟩
  clear hnx
  have HB25 := Bx.mk (show Below W2.heap.size W2 W5 from HB24.out.grown hg5 (by omega) (fun k hk => by simp only [Option.some.injEq] at hk; omega))
  have HX5 := Bx.mk (HX2.out.below HB25.out)
  have HD5 := Bx.mk (HD2.out.below HB25.out)
  have hz5 := HB25.out.size
  clear hg5 HB24 hz3 hz4
  have hwn : IntKind.i64.wrap (1 + r) = 1 + r := IntWalk.i64_in _ (by omega)
  go_wp2_with fail
  clear hwn
  obtain ⟨n, hn⟩ : ∃ n, n = 1 + r := ⟨_, rfl⟩
  rw [← hn]
  have hn1 : 0 < n := by omega
  have hn2 : n ≤ 4 := by omega
  clear hn r0 r4
  have hwd : w.heap.size ≤ g := by have := HG.out; omega
  go_loopw [7, 8] (fun cv i wr => ∃ (K : Int) (cs : List Iss), 1 ≤ K ∧ K ≤ 6 ∧ i = .int .i64 K ∧ (cs.length : Int) = K - 1 ∧ wr.ownsRow W5.heap.size 50 3 cv cs.length (cs.flatMap encI) ∧ Deck w v zs wr g ∧ W5.grownBy wr (some g) ∧ Bx ((∀ c ∈ cs, I64 c.s) ∧ ∀ s, 1 ≤ s → s < K → (firstI cs s).isSome = true)) (fun _ i _ => 6 - (intOf i).toNat)
  case atStart => exact ⟨1, [], by omega, by omega, rfl, by simp, World.ownsRow_nil _ _ _ _, HD5.out, grown_refl _ _, ⟨fun c hc => (by cases hc), fun s h1 h2 => by omega⟩⟩
  case round =>
    obtain ⟨K, cs, hK1, hK2, rfl, hcl, hown, hD, hGr, hP⟩ := hrel
    have hO : Go.Proofs.Ytpagoinnkknkfaa.Slc.Own wr W5.heap.size 50 3 encI _ cs := hown
    obtain ⟨ca, cc, rfl, -⟩ := hO.rd.form
    by_cases hlt : K ≤ 5
    · have tk : decide (K ≤ 5) = true := decide_eq_true hlt
      have hnx := next_any w v zs wr g 2 hD (by omega) (by omega)
      have HO := Bx.mk hO
      have HGR := Bx.mk hGr
      have HCL := Bx.mk hcl
      clear hO hown hD hGr hcl
      go_upto_region 8 with fail
      go_wp2_with fail
      refine hnx.mono ?_
      rintro e w2 ⟨q, rfl, q0, q2, hD2, hg2⟩
      clear hnx
      have HO2 := Bx.mk (show Go.Proofs.Ytpagoinnkknkfaa.Slc.Own w2 W5.heap.size 50 3 encI (.slice ca cs.length cc) cs from own_grown HO.out hg2 (by omega))
      have HGR2 := Bx.mk (HGR.out.trans hg2)
      have HD2' := Bx.mk hD2
      obtain ⟨bb, hbb⟩ : ∃ bb, (q == 1) = bb := ⟨_, rfl⟩
      have hbox : Below w2.heap.size w2 (w2.alloc (.cells #[.int .i64 K, .bool bb, .string ⟨#[]⟩] 50)) := (Below.refl _ _).alloc (Nat.le_refl _) _
      have HO3 := Bx.mk (Go.Proofs.Ytpagoinnkknkfaa.Slc.Own.below (t := 50) HO2.out hbox)
      have HD3 := Bx.mk (hD2.below hbox)
      have HGR3 := Bx.mk (grown_alloc HGR2.out (.cells #[.int .i64 K, .bool bb, .string ⟨#[]⟩] 50))
      have hsz3 : W5.heap.size ≤ (w2.alloc (.cells #[.int .i64 K, .bool bb, .string ⟨#[]⟩] 50)).heap.size := HGR3.out.size
      have hsrc : SrcV (w2.alloc (.cells #[.int .i64 K, .bool bb, .string ⟨#[]⟩] 50)) 3 (.slice (some ⟨w2.heap.size, 0, none⟩) 1 1) 1 ([(⟨K, bb, ⟨#[]⟩⟩ : Iss)].flatMap encI) := src_new encI_ok (by rw [heap_alloc_new]; rfl)
      have hm1 : cs.length + 1 ≤ maxLen := by have := HCL.out; unfold maxLen; omega
      have hm2 : (cs.length + 1) * 32 ≤ 140737488355328 := by have := HCL.out; omega
      have HP2 := Bx.mk (show (∀ c ∈ cs ++ [(⟨K, bb, ⟨#[]⟩⟩ : Iss)], I64 c.s) ∧ ∀ s, 1 ≤ s → s < K + 1 → (firstI (cs ++ [(⟨K, bb, ⟨#[]⟩⟩ : Iss)]) s).isSome = true from
        ⟨fun c hc => (List.mem_append.1 hc).elim (hP.out.1 c) (fun h => by rw [List.mem_singleton] at h; subst h; exact ⟨by show -9223372036854775808 ≤ K; omega, by show K ≤ 9223372036854775807; omega⟩),
         fun s h1 h2 => by
          rw [firstI_snoc]
          by_cases hs : s = K
          · simp [hs]
          · rw [hP.out.2 s h1 (by omega)]; rfl⟩)
      clear hbox hD2 hg2 HO HGR HO2 HGR2 HD2' q0 q2 hP
      go_wp2_with (refine wpList_append_any rfl _ _ _ rfl W5.heap.size 50 i0 _ 3 32 und_issueds hi0 hz0 hz1 hz2 rfl (by decide) _ cs.length (cs.flatMap encI) rfl HO3.out _ 1 ([(⟨K, bb, ⟨#[]⟩⟩ : Iss)].flatMap encI) rfl hsrc hm1 hm2 hsz3 ?_)
      intro v9 w9 hapd
      have hbb9 : Below W5.heap.size (w2.alloc (.cells #[.int .i64 K, .bool bb, .string ⟨#[]⟩] 50)) w9 := (Below.refl _ _).grown hapd.grown hsz3 (fun k hk => (HO3.out.lt k hk).1)
      have HO9 := Bx.mk (show w9.ownsRow W5.heap.size 50 3 v9 (cs ++ [(⟨K, bb, ⟨#[]⟩⟩ : Iss)]).length ((cs ++ [(⟨K, bb, ⟨#[]⟩⟩ : Iss)]).flatMap encI) by rw [List.length_append, List.flatMap_append]; exact hapd.own)
      have HD9 := Bx.mk (deck_keep HD3.out hbb9 (by omega) (by omega))
      have HG9 := Bx.mk (show W5.grownBy w9 (some g) from ⟨hbb9.os.trans HGR3.out.os, hbb9.tape.trans HGR3.out.tape, hbb9.output.trans HGR3.out.output, Nat.le_trans HGR3.out.size hbb9.size, fun k hk hne => (hbb9.block k hk).trans (HGR3.out.block k hk hne)⟩)
      clear hapd hsrc hbb9 hm1 hm2 HO3 HD3 HGR3
      go_wp2
      go_roundw
      case rel => exact ⟨K + 1, cs ++ [(⟨K, bb, ⟨#[]⟩⟩ : Iss)], by omega, by omega, by go_num, by have := HCL.out; simp; omega, HO9.out, HD9.out, HG9.out, ⟨HP2.out⟩⟩
      case measure => simp [intOf]; omega
    · obtain rfl : K = 6 := by omega
      have tk : decide ((6 : Int) ≤ 5) = false := by decide
      have HC := Bx.mk hO.rd
      have HX := Bx.mk (HX5.out.grow hGr (by omega)).el
      have HCP := Bx.mk hP.out
      have HBR := Bx.mk ((HBW.out.trans (HB25.out.mono HBW.out.size)).grown hGr (Nat.le_trans HBW.out.size hz5) (fun k hk => by simp only [Option.some.injEq] at hk; omega))
      have HS5 := Bx.mk (show ∀ x ∈ X, I64 x.e.s from fun x hx => ⟨by have := (HOX.out.s5 x hx).1; omega, by have := (HOX.out.s5 x hx).2; omega⟩)
      have hcl5 : cs.length ≤ 5 := by omega
      clear hO hown hD hGr hP hcl hK1 hK2 hlt
      obtain ⟨wo, hwo⟩ : ∃ wo, wo = wr := ⟨_, rfl⟩
      subst hwo
      go_wp2_with fail
      go_loopw [9, 10] (fun sv pv w6 => ∃ (Sz P : Int), sv = .int .i64 Sz ∧ pv = .int .i64 P ∧ 0 ≤ P ∧ P ≤ n ∧ Bx (Sz = (((ens X).filter (below n P)).length : Nat)) ∧ Below wo.heap.size wo w6) (fun _ pv _ => (n - intOf pv).toNat)
      case atStart => exact ⟨0, 0, rfl, rfl, by omega, by omega, ⟨by rw [below_zero n hn1 _ (fun e he => by obtain ⟨x, hx, rfl⟩ := List.mem_map.1 he; have := (HOX.out.s5 x hx).1; omega)]; rfl⟩, Below.refl _ _⟩
      case round =>
        obtain ⟨Sz, P, rfl, rfl, hP0, hPn, hSz, hb6⟩ := hrel
        have HSZ := Bx.mk (show 0 ≤ Sz ∧ Sz ≤ 12 by
          have h1 := List.length_filter_le (below n P) (ens X)
          rw [List.length_map] at h1
          rw [hSz.out]; omega)
        by_cases hltp : P < n
        · have tp : decide (P < n) = true := decide_eq_true hltp
          have hp1 := psel_any wr (.slice xa X.length xc) (.slice ca cs.length cc) X cs n P 1 0 (HX.out.below hb6) (by omega) (HC.out.below hb6) (by omega) HCP.out.1 HS5.out
          have HB6 := Bx.mk hb6
          clear hb6
          go_wp2_with fail
          refine hp1.mono ?_
          rintro e w7 ⟨av, A, rfl, eA, hA, hb7⟩
          clear hp1
          have HB7 := Bx.mk (HB6.out.trans (hb7.mono HB6.out.size))
          have hp2 := psel_any w7 (.slice xa X.length xc) (.slice ca cs.length cc) X cs n P 2 0 (HX.out.below HB7.out) (by omega) (HC.out.below HB7.out) (by omega) HCP.out.1 HS5.out
          have HEA := Bx.mk eA
          obtain ⟨aa, ac, rfl, -⟩ := hA.el.rd.form
          clear hb7 hA eA
          go_wp2_with fail
          refine hp2.mono ?_
          rintro e w8 ⟨bv, Bl, rfl, eB, hB, hb8⟩
          clear hp2
          have HB8 := Bx.mk (HB7.out.trans (hb8.mono HB7.out.size))
          have hp3 := psel_any w8 (.slice xa X.length xc) (.slice ca cs.length cc) X cs n P 0 0 (HX.out.below HB8.out) (by omega) (HC.out.below HB8.out) (by omega) HCP.out.1 HS5.out
          have HEB := Bx.mk eB
          obtain ⟨ba, bc, rfl, -⟩ := hB.el.rd.form
          clear hb8 hB eB
          go_wp2_with fail
          refine hp3.mono ?_
          rintro e w9 ⟨cv, C, rfl, eC, hC, hb9⟩
          clear hp3
          have HB9 := Bx.mk (HB8.out.trans (hb9.mono HB8.out.size))
          have eC2 : ens C = (ens X).filter (inP n P) := by
            rw [eC]
            exact List.filter_congr fun e _ => sel_all cs n P hn1 hP0 e
          have HEC := Bx.mk eC2
          obtain ⟨c1, c2, rfl, -⟩ := hC.el.rd.form
          have HCC := Bx.mk hC.el.cells.2
          have hlen : A.length + Bl.length = C.length := by
            have h1 := congrArg List.length HEA.out
            have h2 := congrArg List.length HEB.out
            have h3 := congrArg List.length eC2
            have h4 := filt_two (selC cs n P 1 0) (selC cs n P 2 0) (inP n P) (ens X) fun e he => by
              obtain ⟨x, hx, rfl⟩ := List.mem_map.1 he
              have := HOX.out.s5 x hx
              exact sel_two cs n P hn1 hP0 x.e (HCP.out.2 x.e.s this.1 (by omega))
            simp only [ens, List.length_map] at h1 h2 h3 h4
            omega
          have hcl : C.length ≤ 12 := by
            have h3 := congrArg List.length eC2
            have h1 := List.length_filter_le (inP n P) (ens X)
            rw [← h3] at h1
            simp only [ens, List.length_map] at h1
            omega
          have HMOD := Bx.mk (show ∀ j (hj : j < C.length), (C[j]).e.s.tmod n = P from fun j hj => by
            have h1 : (C[j]).e ∈ ens C := List.mem_map_of_mem (List.getElem_mem hj)
            rw [eC2] at h1
            simpa [inP] using (List.mem_filter.1 h1).2)
          have HST := Bx.mk (show Sz + (C.length : Nat) = (((ens X).filter (below n (P + 1))).length : Nat) by
            rw [below_succ, hSz.out, ← eC2, List.length_map]; push_cast; rfl)
          have tl : ((A.length : Int) + (Bl.length : Int) != (C.length : Int)) = false := by simp; omega
          have hal : A.length ≤ 12 := by omega
          have hbl : Bl.length ≤ 12 := by omega
          have hp0 : n ≠ 0 := by omega
          clear eC eC2 hC hb9 hSz hlen
          obtain ⟨wq, hwq⟩ : ∃ wq, wq = w9 := ⟨_, rfl⟩
          subst hwq
          go_wp2_with fail
          go_loopw [14] (fun j w10 => ∃ m : Nat, j = .int .i64 m ∧ m ≤ C.length ∧ w10 = wq) (fun j _ => C.length - (intOf j).toNat)
          case atStart => exact ⟨0, rfl, by omega, rfl⟩
          case round =>
            obtain ⟨m, rfl, hm, hw10⟩ := hrel
            subst hw10
            by_cases hltm : m < C.length
            · obtain ⟨b, o, rfl, -, d0, -, -, -, -⟩ := HCC.out _ (Below.refl _ _) m hltm
              have hmod := HMOD.out m hltm
              generalize (C[m]).e.s = S1 at *
              have tm : (S1.tmod n != P) = false := by rw [hmod]; simp
              clear hmod
              go_wp2_with fail
              go_roundw
              case rel => exact ⟨m + 1, by go_num, by omega, trivial⟩
              case measure => simp [intOf]; omega
            · obtain rfl : m = C.length := by omega
              have HZ := HSZ.out
              clear HMOD HCC
              go_wp2_with fail
              go_roundw
              case rel => exact ⟨Sz + (C.length : Nat), P + 1, by go_num, by go_num, by omega, by omega, HST, HB9.out⟩
              case measure => simp [intOf]; omega
        · obtain rfl : P = n := by omega
          have tp : decide (P < P) = false := by simp
          have HE := Bx.mk (show Sz = (X.length : Nat) by rw [hSz.out, below_all _ hn1, List.length_map])
          have ts : (Sz == (X.length : Int)) = true := by rw [HE.out]; simp
          have HB7 := Bx.mk (HBR.out.trans (hb6.mono HBR.out.size))
          clear hb6 hSz
          go_wp2_with (go_at_call 18; refine (haw _).mono ?_; rintro e w8 ⟨rfl, hb8⟩)
          have HB8 := Bx.mk (HB7.out.trans (hb8.mono HB7.out.size))
          clear hb8
          go_wp2
          go_ret
          exact ⟨rfl, HB8.out⟩
end Go.Proofs.Ytpagoinnkknkfaa.Pb
