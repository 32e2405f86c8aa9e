/-
  The reference's TreePolicies, TreeRoot, SameTree.
-/
/-
  The reference's TreeRestrict.
-/
import Derived.Test.YtmagjdocondmhaaTrRefV
import Derived.Test.YtmagjdocondmhaaTrRefI
import Derived.Test.YtmagjdocondmhaaTrAwake
import Derived.Test.YtmagjdocondmhaaTrRefT
namespace Go.Proofs.Ytmagjdocondmhaa.Tr
open Go Go.RowKit Go.Proofs.Ytmagjdocondmhaa.Slc Go.Proofs.Ytmagjdocondmhaa.St Go.Proofs.Ytmagjdocondmhaa.Mp Go.Proofs.Ytmagjdocondmhaa.Rg
set_option linter.unusedVariables false
set_option linter.unusedSimpArgs false
attribute [local go_sem] Oper.semAt_some

theorem rpolK_len (t : List Nd) (D : Int) (k : Nat) : (rpolK t D k).length ≤ k := by
  unfold rpolK; rw [List.length_map]
  exact Nat.le_trans (List.length_filter_le _ _) (by simp)
theorem rpolK_one (t : List Nd) (D : Int) : rpolK t D 1 = [] := by
  have : rpolC t D 0 = false := by unfold rpolC; rfl
  rw [rpolK_succ, this]; simp [rpolK]
set_option maxRecDepth 100000 in
set_option maxHeartbeats 4000000 in
theorem rpol_any (w : World) (v : Value) (l : List Nt) (h : TL w v l) (hn : l.length ≤ 100000) (D : Int) :
    Calls Try.prog 30 #[v, .int .i64 D] w fun e w' => ∃ v', e = .returned v' ∧ Slc.Own w' w.heap.size 9 1 encS v' (rpolP (nds l) D) ∧ Below w.heap.size w w' := by
  obtain ⟨i0, hi0, hz0, hz1, hz2⟩ := info_parts info_str
  have hval := rvalid_any w v l h hn D
  obtain ⟨ad, c, rfl, -⟩ := h.rd.form
  have HL := Bx.mk h
  have HC := Bx.mk h.cells.2
  obtain ⟨V, hV⟩ : ∃ V, V = rvalidP (nds l) D := ⟨_, rfl⟩
  rw [← hV] at hval
  have HV := Bx.mk (show V = validB (nds l) D by rw [hV]; exact rvalid_eq _ _)
  obtain ⟨N, hN⟩ : ∃ N, N = l.length := ⟨_, rfl⟩
  have HN := Bx.mk hN
  rw [← hN] at hn hval ⊢
  clear h hV hN
  go_enter Try.func30, Try.ntmps30
  go_wp2_with fail
  go_at_call 16
  refine hval.mono ?_
  rintro e w1 ⟨rfl, hb1⟩
  clear hval
  cases V with
  | false =>
    have HF := Bx.mk (show rpolP (nds l) D = [] by unfold rpolP; rw [← HV.out]; rfl)
    go_wp2_with fail
    go_ret
    exact ⟨_, rfl, by rw [HF.out]; exact Slc.Own.nil _ _, hb1⟩
  | true =>
    have HVV := Bx.mk ((valid_iff _ _).1 HV.out.symm)
    have HF := Bx.mk (show rpolP (nds l) D = setB (rpolK (nds l) D N) by unfold rpolP; rw [← HV.out, nds_len, HN.out]; rfl)
    have HB1 := Bx.mk hb1
    clear hb1
    go_wp2_with fail
    go_loopw [5, 6] (fun ov i wr => ∃ (k : Nat) (out : List B), 1 ≤ k ∧ (k ≤ N ∨ k = 1) ∧ i = .int .i64 k ∧ out.length ≤ k ∧ Bx (GS w w.heap.size wr ov out) ∧ Bx (out = rpolK (nds l) D k)) (fun _ i _ => N - (intOf i).toNat)
    case atStart => exact ⟨1, [], by omega, .inr rfl, rfl, by simp, ⟨(GS.nil w _ (Nat.le_refl _)).below HB1.out⟩, ⟨(rpolK_one _ _).symm⟩⟩
    case round =>
      obtain ⟨k, out, hk1, hk, rfl, hlen, hG, hF⟩ := hrel
      obtain ⟨av, cv, rfl, -⟩ := hG.out.form
      have hb0 : Below w.heap.size w wr := hG.out.bel
      by_cases hlt : k < N
      · have hkl : k < l.length := by rw [← HN.out]; exact hlt
        obtain ⟨b, o, rfl, hbl, c0, c1, c2, c3⟩ := HC.out wr hb0 k hkl
        have HX := Bx.mk (show (nds l)[k]! = (l[k]).n from nds_at l k hkl)
        have hpp := HVV.out.par k (by omega) (by rw [nds_len]; exact hkl)
        obtain ⟨x, hx⟩ : ∃ x, x = l[k] := ⟨_, rfl⟩
        rw [← hx] at c0 c1 c2 c3 HX
        rw [HX.out] at hpp
        obtain ⟨pp, hppe⟩ : ∃ pp : Nat, x.n.p = (pp : Int) := ⟨x.n.p.toNat, by omega⟩
        have hppN : pp < N := by omega
        have hppl : pp < l.length := by rw [← HN.out]; exact hppN
        obtain ⟨b', o', hbe, -, d0, d1, d2, d3⟩ := HC.out wr hb0 pp hppl
        simp only [Option.some.injEq, Addr.mk.injEq, and_true] at hbe
        obtain ⟨rfl, rfl⟩ := hbe
        have HPN := Bx.mk (show pn (nds l) x.n = (l[pp]).n by unfold pn; rw [hppe, Int.toNat_natCast]; exact nds_at l pp hppl)
        obtain ⟨y, hy⟩ : ∃ y, y = l[pp] := ⟨_, rfl⟩
        rw [← hy] at d2 HPN
        obtain ⟨R, hR⟩ : ∃ R, R = rpolC (nds l) D k := ⟨_, rfl⟩
        have HKS := Bx.mk (rpolK_succ (nds l) D k)
        rw [← hR, HX.out] at HKS
        have HRR := Bx.mk (show R = ((!spec x.n && spec y.n) || (spec x.n && decide (x.n.d = D))) by
          rw [hR]; unfold rpolC; rw [HX.out, HPN.out, decide_eq_true (by omega), Bool.true_and])
        have l3 := same_any x.n.pol
        have l4 := same_any y.n.pol
        rw [show decide (x.n.pol = anyP) = spec x.n from rfl] at l3
        rw [show decide (y.n.pol = anyP) = spec y.n from rfl] at l4
        obtain ⟨SX, hSX⟩ : ∃ s, s = spec x.n := ⟨_, rfl⟩
        obtain ⟨SY, hSY⟩ : ∃ s, s = spec y.n := ⟨_, rfl⟩
        rw [← hSX] at l3 HRR
        rw [← hSY] at l4 HRR
        rw [hppe] at c1
        have hq : (x.n.d == D) = decide (x.n.d = D) := rfl
        obtain ⟨q, hqq⟩ : ∃ q, q = decide (x.n.d = D) := ⟨_, rfl⟩
        rw [← hqq] at hq HRR
        have hqc : (x.n.d = D) = (q = true) := by rw [hqq]; simp
        clear hx hy hkl hbl hR hSX hSY hpp hppe hppl d0 d1 d3 c3 hqq HPN hb0
        go_upto_region 7 with fail
        go_cut [51] (fun c wx => c = .bool R ∧ wx = wr)
        case first =>
          cases SX with
          | true =>
            have HH := Bx.mk (show R = q by rw [HRR.out]; simp)
            generalize bstr x.n.pol = X at *
            generalize bstr y.n.pol = Y at *
            go_wp2_with fail
            go_meet
            exact ⟨by rw [HH.out], rfl⟩
          | false =>
            have HH := Bx.mk (show R = SY by rw [HRR.out]; simp)
            generalize bstr x.n.pol = X at *
            generalize bstr y.n.pol = Y at *
            cases SY with
            | true =>
              go_wp2_with fail
              go_meet
              exact ⟨by rw [HH.out], rfl⟩
            | false =>
              go_wp2_with fail
              go_meet
              exact ⟨by rw [HH.out], rfl⟩
        case rest =>
          obtain ⟨rfl, hwc⟩ := hcut
          subst hwc
          clear l3 l4 hq hqc c0 c1 d2
          cases R with
          | true =>
            have HSRC := Bx.mk (src_str wc x.n.pol)
            have HOWN := Bx.mk (show Slc.Own (wc.alloc (.cells #[.string (bstr x.n.pol)] 9)) w.heap.size 9 1 encS (.slice av out.length cv) out from hG.out.own.below ((Below.refl _ _).alloc (Nat.le_refl _) _))
            have HG3 := Bx.mk (hG.out.below (show Below wc.heap.size wc (wc.alloc (.cells #[.string (bstr x.n.pol)] 9)) from (Below.refl _ _).alloc (Nat.le_refl _) _))
            have hm1 : out.length + 1 ≤ maxLen := by unfold maxLen; omega
            have hm2 : (out.length + 1) * 16 ≤ 140737488355328 := by omega
            have hbz : w.heap.size ≤ (wc.alloc (.cells #[.string (bstr x.n.pol)] 9)).heap.size := HG3.out.sz
            go_wp2_with (at_builtin; refine wpList_append_any rfl _ _ _ rfl w.heap.size 9 i0 _ 1 16 und_strs hi0 hz0 hz1 hz2 rfl (by decide) _ out.length (out.flatMap encS) rfl HOWN.out _ 1 ([x.n.pol].flatMap encS) rfl HSRC.out hm1 hm2 hbz ?_)
            intro v9 w9 hapd
            have HG9 := Bx.mk (HG3.out.apd (m := [x.n.pol]) hapd)
            have HF9 := Bx.mk (show out ++ [x.n.pol] = rpolK (nds l) D (k + 1) by rw [HKS.out, hF.out]; rfl)
            clear hapd hm1 hm2 hbz
            go_wp2_with fail
            go_roundw
            case rel => exact ⟨k + 1, out ++ [x.n.pol], by omega, .inl (by omega), by go_num, by simp; omega, HG9, HF9⟩
            case measure => simp [intOf]; omega
          | false =>
            have HF9 := Bx.mk (show out = rpolK (nds l) D (k + 1) by rw [HKS.out, hF.out]; simp)
            go_wp2_with fail
            go_roundw
            case rel => exact ⟨k + 1, out, by omega, .inl (by omega), by go_num, by omega, hG, HF9⟩
            case measure => simp [intOf]; omega
      · have HE := Bx.mk (show out = rpolK (nds l) D N by
          rw [hF.out]
          rcases hk with q | q
          · rw [show k = N by omega]
          · subst q
            by_cases h1 : N = 1
            · rw [h1]
            · rw [show N = 0 by omega, rpolK_one]; simp [rpolK])
        have hset := rset_any wr _ out hG.out.own.rd (by rcases hk with q | q <;> omega)
        have HF2 := Bx.mk (show rpolP (nds l) D = setB out by rw [HF.out, HE.out])
        clear hF
        have HBW := Bx.mk hb0
        clear hb0
        go_wp2_with fail
        go_at_call 43
        refine hset.mono ?_
        rintro e w2 ⟨v2, rfl, ho, hb2⟩
        obtain ⟨a2, c2, rfl, -⟩ := ho.rd.form
        have HO := Bx.mk ho
        have HB2 := Bx.mk hb2
        clear hset ho hb2
        go_wp2_with fail
        go_ret
        refine ⟨_, rfl, ?_, HBW.out.trans (HB2.out.mono HBW.out.size)⟩
        rw [HF2.out]
        exact HO.out.mono HBW.out.size
set_option maxRecDepth 100000 in
set_option maxHeartbeats 4000000 in
/-- equal trees -/
theorem samet_any (w : World) (v1 v2 : Value) (l m : List Nt) (h1 : TL w v1 l) (h2 : TL w v2 m) (he : nds l = nds m) (hn : l.length ≤ 100000) :
    Calls Try.prog 17 #[v1, v2] w fun e w' => e = .returned (.bool true) ∧ Below w.heap.size w w' := by
  have hml : m.length = l.length := by
    have := congrArg List.length he
    rw [nds_len, nds_len] at this; omega
  obtain ⟨ad, c, rfl, -⟩ := h1.rd.form
  obtain ⟨md, mc, rfl, -⟩ := h2.rd.form
  have HL := Bx.mk h1
  have HM := Bx.mk h2
  have HC := Bx.mk h1.cells.2
  have HD := Bx.mk h2.cells.2
  have HE := Bx.mk he
  obtain ⟨N, hN⟩ : ∃ N, N = l.length := ⟨_, rfl⟩
  have HN := Bx.mk hN
  have HMN := Bx.mk (show N = m.length by omega)
  rw [hml]
  rw [← hN] at hn ⊢
  clear h1 h2 he hN hml
  go_enter Try.func17, Try.ntmps17
  go_wp2_with fail
  go_loopw [5] (fun i wr => ∃ k : Nat, k ≤ N ∧ i = .int .i64 k ∧ Bx (Below w.heap.size w wr)) (fun i _ => N - (intOf i).toNat)
  case atStart => exact ⟨0, by omega, rfl, ⟨Below.refl _ _⟩⟩
  case round =>
    obtain ⟨k, hk, rfl, hBw⟩ := hrel
    by_cases hlt : k < N
    · have hkl : k < l.length := by rw [← HN.out]; exact hlt
      have hkm : k < m.length := by rw [← HMN.out]; exact hlt
      obtain ⟨b, o, rfl, hbl, -⟩ := HC.out wr hBw.out k hkl
      obtain ⟨b2, o2, rfl, hbl2, -⟩ := HD.out wr hBw.out k hkm
      have hxy : (m[k]).n = (l[k]).n := by rw [← nds_at l k hkl, ← nds_at m k hkm, HE.out]
      have HXA := Bx.mk (HL.out.at_ l[k] (List.getElem_mem hkl))
      have HYA := Bx.mk (HM.out.at_ m[k] (List.getElem_mem hkm))
      have hcx : ∀ (e : Ext wr), e.out.cell? ⟨b, o + k * 4, none⟩ = some (.int .i64 (l[k]).n.d) ∧ e.out.cell? ⟨b, o + k * 4 + 1, none⟩ = some (.int .i64 (l[k]).n.p) ∧ e.out.cell? ⟨b, o + k * 4 + 2, none⟩ = some (.string (bstr (l[k]).n.pol)) ∧ e.out.cell? ⟨b, o + k * 4 + 3, none⟩ = some (l[k]).u.val := fun e => by
        obtain ⟨b', o', q, -, g0, g1, g2, g3⟩ := HC.out e.out (hBw.out.trans (e.bel.mono hBw.out.size)) k hkl
        simp only [Option.some.injEq, Addr.mk.injEq, and_true] at q
        obtain ⟨rfl, rfl⟩ := q
        exact ⟨g0, g1, g2, g3⟩
      have hcy : ∀ (e : Ext wr), e.out.cell? ⟨b2, o2 + k * 4, none⟩ = some (.int .i64 (m[k]).n.d) ∧ e.out.cell? ⟨b2, o2 + k * 4 + 1, none⟩ = some (.int .i64 (m[k]).n.p) ∧ e.out.cell? ⟨b2, o2 + k * 4 + 2, none⟩ = some (.string (bstr (m[k]).n.pol)) ∧ e.out.cell? ⟨b2, o2 + k * 4 + 3, none⟩ = some (m[k]).u.val := fun e => by
        obtain ⟨b', o', q, -, g0, g1, g2, g3⟩ := HD.out e.out (hBw.out.trans (e.bel.mono hBw.out.size)) k hkm
        simp only [Option.some.injEq, Addr.mk.injEq, and_true] at q
        obtain ⟨rfl, rfl⟩ := q
        exact ⟨g0, g1, g2, g3⟩
      have hsm := fun (e : Ext wr) => rsame_any e.out (l[k]).u.val (m[k]).u.val (l[k]).n.ex (m[k]).n.ex (HXA.out.1.below (hBw.out.trans (e.bel.mono hBw.out.size))) (HYA.out.1.below (hBw.out.trans (e.bel.mono hBw.out.size))) (by have := HXA.out.2.1.1; omega)
      rw [hxy] at hcy
      simp only [hxy, decide_true] at hsm
      obtain ⟨x, hx⟩ : ∃ x, x = l[k] := ⟨_, rfl⟩
      obtain ⟨y, hy⟩ : ∃ y, y = m[k] := ⟨_, rfl⟩
      rw [← hx] at hcx hcy hsm
      rw [← hy] at hcy hsm
      simp only [Sl.val] at hcx hcy hsm
      have n0 := fun e => (hcx e).1
      have n1 := fun e => (hcx e).2.1
      have n2 := fun e => (hcx e).2.2.1
      have n3 := fun e => (hcx e).2.2.2
      have m0 := fun e => (hcy e).1
      have m1 := fun e => (hcy e).2.1
      have m2 := fun e => (hcy e).2.2.1
      have m3 := fun e => (hcy e).2.2.2
      have t0 : (x.n.d != x.n.d) = false := by simp
      have t1 : (x.n.p != x.n.p) = false := by simp
      generalize bstr x.n.pol = X at *
      have t2 : (X.toList == X.toList) = true := by simp
      clear hx hy hxy hcx hcy hkl hkm hbl hbl2 HXA HYA
      go_wp2_with fail
      refine wp_region_self (by kernel_rfl) (by kernel_rfl) ?_
      repeat (go_big_quiet_step (first | (go_at_call 28; exact ext_of (hsm _))))
      refine wpQuiet_nil ?_
      rintro _ ⟨e1, rfl⟩
      have HB9 := Bx.mk (hBw.out.trans (e1.bel.mono hBw.out.size))
      clear n0 n1 n2 n3 m0 m1 m2 m3 hsm
      go_wp2_with fail
      go_roundw
      case rel => exact ⟨k + 1, by omega, by go_num, HB9⟩
      case measure => simp [intOf]; omega
    · have HB := Bx.mk hBw.out
      go_wp2_with fail
      go_ret
      exact ⟨rfl, HB.out⟩
theorem rroot_any (w : World) : Calls Try.prog 19 #[] w fun e w' => ∃ v' l', e = .returned v' ∧ TO w' w.heap.size v' l' ∧ nds l' = rootT ∧ Below w.heap.size w w' := by
  have hal := alone_any w
  go_enter Try.func19, Try.ntmps19
  go_wp2_with fail
  go_at_call 36
  refine hal.mono ?_
  rintro e w1 ⟨v1, rfl, ho1, hb1⟩
  obtain ⟨a1, c1, hv, -⟩ := ho1.rd.form
  rw [show ([anyP] : List B).length = 1 from rfl] at hv
  subst hv
  have HO1 := Bx.mk ho1
  have HB1 := Bx.mk hb1
  clear hal ho1 hb1
  go_wp2_with fail
  go_ret
  have ho2 : Slc.Own (w1.alloc (.cells #[.int .i64 0, .int .i64 (-1), .string ⟨#[50, 46, 53, 46, 50, 57, 46, 51, 50, 46, 48]⟩, .slice a1 1 c1] 56)) w1.heap.size 56 4 encN (.slice (some ⟨w1.heap.size, 0, none⟩) 1 1) [⟨⟨0, -1, anyP, [anyP]⟩, ⟨a1, 1, c1⟩⟩] :=
    own_alloc encN_ok w1 [⟨⟨0, -1, anyP, [anyP]⟩, ⟨a1, 1, c1⟩⟩] _ rfl (Nat.le_refl _) (by unfold maxLen; simp)
  refine ⟨_, [⟨⟨0, -1, anyP, [anyP]⟩, ⟨a1, 1, c1⟩⟩], rfl, ⟨ho2.mono HB1.out.size, fun x hx => ?_⟩, rfl, HB1.out.alloc HB1.out.size _⟩
  rw [List.mem_singleton] at hx
  subst hx
  refine ⟨⟨(HO1.out.below ((Below.refl _ _).alloc (Nat.le_refl _) _)).rd, fun k hk e => ?_⟩, ⟨by simp, fun b hb => ?_⟩, by show 11 ≤ 1000000; omega⟩
  · have h1 := (HO1.out.lt k hk).2
    have he' : some w1.heap.size = some k := e
    simp only [Option.some.injEq] at he'
    omega
  · rw [List.mem_singleton] at hb
    subst hb
    show 11 ≤ 1000000; omega
end Go.Proofs.Ytmagjdocondmhaa.Tr

namespace Go.Proofs.Ytmagjdocondmhaa.Tr
open Go Go.RowKit Go.Proofs.Ytmagjdocondmhaa.Slc Go.Proofs.Ytmagjdocondmhaa.St Go.Proofs.Ytmagjdocondmhaa.Mp Go.Proofs.Ytmagjdocondmhaa.Rg
set_option linter.unusedVariables false
set_option linter.unusedSimpArgs false
attribute [local go_sem] Oper.semAt_some

/-- marks so far -/
def gmK (f : Nat → Bool) (N k : Nat) : List Bool := (List.range k).map f ++ List.replicate (N - k) false
theorem gmK_length (f : Nat → Bool) (N k : Nat) (h : k ≤ N) : (gmK f N k).length = N := by simp [gmK]; omega
theorem gmK_zero (f : Nat → Bool) (N : Nat) : gmK f N 0 = List.replicate N false := by simp [gmK]
theorem gmK_succ (f : Nat → Bool) (N k : Nat) (h : k < N) : gmK f N (k + 1) = (gmK f N k).set k (f k) := by
  unfold gmK
  rw [List.set_append_right _ _ (by simp), List.length_map, List.length_range, Nat.sub_self, List.range_succ, List.map_append, List.append_assoc, show N - k = (N - (k + 1)) + 1 by omega, List.replicate_succ, List.set_cons_zero]
  rfl
theorem gmK_at (f : Nat → Bool) (N i : Nat) (h : i < N) : (gmK f N N)[i]! = f i := by
  unfold gmK
  rw [Nat.sub_self, List.replicate_zero, List.append_nil, getElem!_pos _ i (by simpa using h)]
  simp
theorem keep_pge {t : List Nd} {c : Nat → Bool} (hp : ∀ i, i < t.length → -1 ≤ t[i]!.p ∧ t[i]!.p < i) : ∀ j, j < (keepP t (dnM t c t.length)).length → -1 ≤ (keepP t (dnM t c t.length))[j]!.p ∧ (keepP t (dnM t c t.length))[j]!.p < j := by
  intro j hj
  obtain ⟨i, hi, hm, hr, he⟩ := keepP_from t _ hj
  rw [he]
  obtain ⟨h1, h2⟩ := hp i hi
  by_cases h0 : t[i]!.p < 0
  · have e : (kpN (dnM t c t.length) t[i]!).p = t[i]!.p := by unfold kpN; exact if_pos h0
    rw [e]; omega
  · have hcl := dnM_at t c t.length i hi h2
    rw [hm] at hcl
    have hmp : (dnM t c t.length)[t[i]!.p.toNat]! = true := by
      have := hcl.symm
      rw [Bool.and_eq_true, Bool.or_eq_true, decide_eq_true_eq] at this
      rcases this.2 with q | q
      · exact absurd q h0
      · exact q
    have e : (kpN (dnM t c t.length) t[i]!).p = ((rk (dnM t c t.length) t[i]!.p.toNat : Nat) : Int) := by unfold kpN; exact (if_neg h0).trans (if_pos hmp)
    have := rk_lt (dnM t c t.length) (show t[i]!.p.toNat < i by omega) hmp
    rw [e]; omega
/-- the nodes that are put in, along the first k policies -/
def yK (out : List Nd) (D : Int) (S : List B) (pk : Int) (k : Nat) : List Nd := ((S.take k).filter fun q => !rthere out q out.length).map (newN D pk)
theorem yK_succ (out : List Nd) (D : Int) (S : List B) (pk : Int) (k : Nat) (hk : k < S.length) : yK out D S pk (k + 1) = yK out D S pk k ++ if rthere out S[k] out.length then [] else [newN D pk S[k]] := by
  unfold yK
  rw [List.take_succ_eq_append_getElem hk, List.filter_append, List.map_append]
  cases h : rthere out S[k] out.length <;> simp [List.filter_cons, h]
theorem yK_len (out : List Nd) (D : Int) (S : List B) (pk : Int) (k : Nat) : (yK out D S pk k).length ≤ k := by
  unfold yK
  rw [List.length_map]
  exact Nat.le_trans (List.length_filter_le _ _) (by simp; omega)
theorem rthere_succ (out : List Nd) (q : B) (k : Nat) (h0 : 0 < k) : rthere out q (k + 1) = (rthere out q k || (decide (out[k]!.pol = q) && spec (pn out out[k]!))) := by
  unfold rthere
  rw [List.range_succ, List.any_append]
  simp [decide_eq_true h0]
theorem rthere_one (out : List Nd) (q : B) : rthere out q 1 = false := by unfold rthere; rfl
/-- the facts of the last region of TreeRestrict's loop -/
def RrF (w2 : World) (nl : List Nt) (D : Int) (sv ov : Value) (fb fo : Nat) (k pk : Int) (P : ByteArray) (p : B) (xs : List Nd) : Nat → Value → World → Prop
  | 0, v, _ => v = ov
  | 1, v, _ => v = .int .i64 D
  | 2, v, _ => v = .int .i64 pk
  | 3, v, _ => v = sv
  | 4, v, _ => v = .int .i64 k
  | 5, v, _ => v = .pointer (some ⟨fb, fo, none⟩)
  | 6, v, _ => v = .string P
  | 7, v, _ => v = sv
  | 8, v, _ => v = .int .i64 k
  | 9, v, _ => v = .pointer (some ⟨fb, fo, none⟩)
  | 10, v, _ => v = .string P
  | 11, v, w => ∃ g, v = .slice (some ⟨g, 0, none⟩) 1 1 ∧ Rd w encS (.slice (some ⟨g, 0, none⟩) 1 1) [p]
  | 12, v, w => ∃ g, v = .agg #[.int .i64 D, .int .i64 pk, .string P, .slice (some ⟨g, 0, none⟩) 1 1] ∧ Rd w encS (.slice (some ⟨g, 0, none⟩) 1 1) [p]
  | 13, v, w => RI w2 nl D w v (xs ++ [newN D pk p])
  | _, _, _ => True
theorem RrF.stable (w2 : World) (nl : List Nt) (D : Int) (sv ov : Value) (fb fo : Nat) (k pk : Int) (P : ByteArray) (p : B) (xs : List Nd) (i : Nat) (v : Value) (w w' : World) (h : RrF w2 nl D sv ov fb fo k pk P p xs i v w) (hb : Below w.heap.size w w') : RrF w2 nl D sv ov fb fo k pk P p xs i v w' := by
  match i with
  | 0 | 1 | 2 | 3 | 4 | 5 | 6 | 7 | 8 | 9 | 10 => exact h
  | 11 => obtain ⟨g, h1, h2⟩ := h; exact ⟨g, h1, h2.below hb⟩
  | 12 => obtain ⟨g, h1, h2⟩ := h; exact ⟨g, h1, h2.below hb⟩
  | 13 => exact RI.below h hb
  | _ + 14 => exact trivial
set_option maxRecDepth 100000 in
set_option maxHeartbeats 4000000 in
theorem rrestr_any (w : World) (v pv : Value) (l : List Nt) (ps : List B) (h : TL w v l) (hp : Rd w encS pv ps) (hn : l.length ≤ 100000) (hpl : ps.length ≤ 2000) (hpx : ∀ p ∈ ps, p.length ≤ 1000000) (D : Int) :
    Calls Try.prog 27 #[v, .int .i64 D, pv] w fun e w' => EnP w (rresP (nds l) D ps) e w' := by
  obtain ⟨i0, hi0, hz0, hz1, hz2⟩ := info_parts info_node
  obtain ⟨ib, hib, hib0, hib1, hib2⟩ := info_parts info_bool
  have hval := rvalid_any w v l h hn D
  obtain ⟨ad, c, rfl, -⟩ := h.rd.form
  obtain ⟨pd, pc, rfl, -⟩ := hp.form
  obtain ⟨R, hR⟩ : ∃ R, R = rresP (nds l) D ps := ⟨_, rfl⟩
  rw [← hR]
  have HR := Bx.mk hR
  have HL := Bx.mk h
  have HP := Bx.mk hp
  have HPX := Bx.mk hpx
  have HPB := Bx.mk hpl
  have HLN := Bx.mk hn
  have HC := Bx.mk h.cells.2
  obtain ⟨N, hN⟩ : ∃ N, N = l.length := ⟨_, rfl⟩
  have HN := Bx.mk hN
  obtain ⟨PL, hPL⟩ : ∃ PL, PL = ps.length := ⟨_, rfl⟩
  have HPL := Bx.mk hPL
  have hPb : PL ≤ 2000 := by omega
  rw [← hN] at hval ⊢
  rw [← hPL]
  obtain ⟨V, hV⟩ : ∃ V, V = rvalidP (nds l) D := ⟨_, rfl⟩
  rw [← hV] at hval
  have HV := Bx.mk (show V = validB (nds l) D by rw [hV]; exact rvalid_eq _ _)
  clear h hp hpx hn hpl hR hN hPL hV
  go_enter Try.func27, Try.ntmps27
  go_wp2_with fail
  go_at_call 16
  refine hval.mono ?_
  rintro e w1 ⟨rfl, hb1⟩
  have HB1 := Bx.mk hb1
  clear hval hb1
  cases V with
  | false =>
    have HFR := Bx.mk (show R = ([], 7) by rw [HR.out]; unfold rresP; rw [← HV.out]; rfl)
    go_wp2_with fail
    go_ret2
    exact ⟨_, [], by rw [HFR.out]; rfl, TO.nil _ _, by rw [HFR.out]; rfl, HB1.out⟩
  | true =>
  have HVV := Bx.mk ((valid_iff _ _).1 HV.out.symm)
  have hN2 : N ≤ 2048 := by have := HVV.out.len; rw [nds_len, ← HN.out] at this; exact this
  obtain ⟨FR, hFR⟩ : ∃ FR, FR = (ps.isEmpty || decide (anyP ∈ ps)) := ⟨_, rfl⟩
  have HFR := Bx.mk hFR
  clear hFR
  obtain ⟨OUT, hOUT⟩ : ∃ OUT, OUT = keepP (nds l) (dnM (nds l) (rresC (nds l) ps FR) (nds l).length) := ⟨_, rfl⟩
  have HOUT := Bx.mk hOUT
  have HRR := Bx.mk (show R = if FR || decide (spAt OUT D < 1) then (pruneP OUT D, 0) else
      if (keepP (insL OUT (rresX OUT D ps)) (dnM (insL OUT (rresX OUT D ps)) (fun i => deepC D (insL OUT (rresX OUT D ps))[i]!) (insL OUT (rresX OUT D ps)).length)).length > 2048 then ([], 2) else (pruneP (keepP (insL OUT (rresX OUT D ps)) (dnM (insL OUT (rresX OUT D ps)) (fun i => deepC D (insL OUT (rresX OUT D ps))[i]!) (insL OUT (rresX OUT D ps)).length)) D, 0) by
    rw [HR.out, hOUT, HFR.out]; unfold rresP; rw [← HV.out]; rfl)
  have HVS := Bx.mk (show VS OUT D by
    rw [hOUT]
    exact HVV.out.vs.keep fun i hi hm h0 => res_par HVV.out _ hi hm h0)
  have HBS := Bx.mk (show ∃ a, Bs OUT D a by rw [hOUT]; exact keep_bs HVV.out _)
  have HSRT := Bx.mk (show Srt ltT OUT by rw [hOUT]; exact keep_srt HVV.out _)
  have HOL := Bx.mk (show OUT.length ≤ N by
    rw [hOUT, keepP_length]
    have := rk_le (dnM (nds l) (rresC (nds l) ps FR) (nds l).length) (nds l).length
    rw [nds_len, ← HN.out] at this ⊢
    exact this)
  clear hOUT
  have hmk := run_makeSlice (P := Try.prog) w1 76 4 ib (.bool false) Try.underlying76 hib hib0 .i64 .i64 (N : Nat) (N : Nat) (by omega) (by omega) (by rw [Int.toNat_natCast, hib1]; omega) (by rw [hib2]; omega) (by omega)
  simp only [Int.toNat_natCast, hib1, made_marks] at hmk
  obtain ⟨q, hq⟩ : ∃ q, q = w1.heap.size := ⟨_, rfl⟩
  obtain ⟨W1, hW1⟩ : ∃ W1, W1 = w1.alloc (.cells (Array.replicate N (Value.bool false)) 4) := ⟨_, rfl⟩
  have HM1 := Bx.mk (show MB W1 q (gmK (rresC (nds l) ps FR) N 0) by rw [gmK_zero, hW1]; unfold MB; rw [List.map_replicate, List.toArray_replicate]; exact alloc_at hq)
  have HBW1 := Bx.mk (show Below w.heap.size w W1 by rw [hW1]; exact HB1.out.alloc HB1.out.size _)
  have HQ := Bx.mk (show w.heap.size ≤ q by rw [hq]; exact HB1.out.size)
  go_upto_region 4 with fail
  rw [← hW1, ← hq]
  clear hmk hW1 hq
  go_cut [9] (fun c wx => c = .bool FR ∧ wx = W1)
  case first =>
    by_cases h0 : PL = 0
    · have t1 : ((PL : Int) == 0) = true := by simpa using h0
      have HF2 := Bx.mk (show FR = true by
        rw [HFR.out, List.isEmpty_iff.2 (List.eq_nil_of_length_eq_zero (by rw [← HPL.out]; exact h0))]; rfl)
      clear h0
      go_wp2_with fail
      go_meet
      exact ⟨by rw [HF2.out], rfl⟩
    · have t1 : ((PL : Int) == 0) = false := by simpa using h0
      have HF2 := Bx.mk (show FR = decide (anyP ∈ ps) by
        rw [HFR.out]
        cases hps : ps with
        | nil => rw [hps] at HPL; exact absurd HPL.out h0
        | cons x y => rfl)
      have hin := in_any W1 (.slice pd PL pc) ps anyP (by have := HP.out.below HBW1.out; rw [← HPL.out] at this; exact this) (by have := HPB.out; omega)
      rw [anyP_str, ← HF2.out] at hin
      clear h0
      go_wp2_with fail
      go_at_call 33
      refine hin.mono ?_
      rintro e w6 ⟨rfl, rfl⟩
      go_wp2_with fail
      go_meet
      exact ⟨rfl, rfl⟩
  case rest =>
  obtain ⟨rfl, hwc⟩ := hcut
  subst hwc
  go_upto_block 0 with fail
  go_cut [] (fun wx => Bx (MB wx q (gmK (rresC (nds l) ps FR) N N)) ∧ Bx (Below w.heap.size w wx))
  case first =>
    go_wp2_with fail
    go_loopw [10] (fun i wr => ∃ k : Nat, k ≤ N ∧ i = .int .i64 k ∧ Bx (MB wr q (gmK (rresC (nds l) ps FR) N k)) ∧ Bx (Below w.heap.size w wr)) (fun i _ => N - (intOf i).toNat)
    case atStart => exact ⟨0, by omega, rfl, HM1, HBW1⟩
    case round =>
      obtain ⟨k, hk, rfl, hM, hBw⟩ := hrel
      by_cases hlt : k < N
      · have hkl : k < l.length := by rw [← HN.out]; exact hlt
        have hm0 := hM.out.cell k (by rw [gmK_length _ _ _ hk]; exact hlt)
        have hfz := frozen_row (i := k) hM.out
        obtain ⟨old, hold⟩ : ∃ b, b = (gmK (rresC (nds l) ps FR) N k)[k]! := ⟨_, rfl⟩
        rw [← hold] at hm0
        obtain ⟨M, hMd⟩ : ∃ M, M = rresC (nds l) ps FR k := ⟨_, rfl⟩
        have HM2 := Bx.mk (show MB (wr.setCell ⟨q, k, none⟩ (.bool M)) q (gmK (rresC (nds l) ps FR) N (k + 1)) by
          rw [gmK_succ _ _ _ hlt, hMd]; exact hM.out.set k _)
        have HB2 := Bx.mk (hBw.out.setCell (p := ⟨q, k, none⟩) HQ.out (.bool M))
        have HX := Bx.mk (show (nds l)[k]! = (l[k]).n from nds_at l k hkl)
        have HMD := Bx.mk (show M = (FR || (decide (k = 0) || (!spec (pn (nds l) (l[k]).n) || (spec (l[k]).n || decide ((l[k]).n.pol ∈ ps))))) by
          rw [hMd]; unfold rresC; rw [HX.out])
        clear hold hMd
        cases FR with
        | true =>
          obtain rfl : M = true := by rw [HMD.out]; rfl
          clear HMD
          go_wp2_with fail
          go_roundw
          case rel => exact ⟨k + 1, by omega, by go_num, HM2, HB2⟩
          case measure => simp [intOf]; omega
        | false =>
          by_cases hk0 : k = 0
          · have t1 : ((k : Int) == 0) = true := by simpa using hk0
            obtain rfl : M = true := by rw [HMD.out, decide_eq_true hk0]; rfl
            clear HMD hk0
            go_wp2_with fail
            go_roundw
            case rel => exact ⟨k + 1, by omega, by go_num, HM2, HB2⟩
            case measure => simp [intOf]; omega
          · have t1 : ((k : Int) == 0) = false := by simpa using hk0
            obtain ⟨b, o, rfl, hbl, c0, c1, c2, c3⟩ := HC.out wr hBw.out k hkl
            have hpp := HVV.out.par k (by omega) (by rw [nds_len]; exact hkl)
            rw [HX.out] at hpp
            obtain ⟨x, hx⟩ : ∃ x, x = l[k] := ⟨_, rfl⟩
            rw [← hx] at c1 c2 hpp HMD
            obtain ⟨pp, hppe⟩ : ∃ pp : Nat, x.n.p = (pp : Int) := ⟨x.n.p.toNat, by omega⟩
            have hppN : pp < N := by omega
            have hppl : pp < l.length := by rw [← HN.out]; exact hppN
            obtain ⟨b', o', hbe, -, d0, d1, d2, d3⟩ := HC.out wr hBw.out pp hppl
            simp only [Option.some.injEq, Addr.mk.injEq, and_true] at hbe
            obtain ⟨rfl, rfl⟩ := hbe
            have HPN := Bx.mk (show pn (nds l) x.n = (l[pp]).n by unfold pn; rw [hppe, Int.toNat_natCast]; exact nds_at l pp hppl)
            obtain ⟨y, hy⟩ : ∃ y, y = l[pp] := ⟨_, rfl⟩
            rw [← hy] at d2 HPN
            have HMX := Bx.mk (show M = (!spec y.n || (spec x.n || decide (x.n.pol ∈ ps))) by rw [HMD.out, HPN.out, decide_eq_false hk0]; rfl)
            have l3 := same_any x.n.pol
            have l4 := same_any y.n.pol
            rw [show decide (x.n.pol = anyP) = spec x.n from rfl] at l3
            rw [show decide (y.n.pol = anyP) = spec y.n from rfl] at l4
            obtain ⟨SX, hSX⟩ : ∃ s, s = spec x.n := ⟨_, rfl⟩
            obtain ⟨SY, hSY⟩ : ∃ s, s = spec y.n := ⟨_, rfl⟩
            have hin := in_any wr (.slice pd PL pc) ps x.n.pol (by have := HP.out.below hBw.out; rw [← HPL.out] at this; exact this) (by have := HPB.out; omega)
            obtain ⟨IN, hIN⟩ : ∃ b, b = decide (x.n.pol ∈ ps) := ⟨_, rfl⟩
            rw [← hIN] at hin HMX
            rw [← hSX] at l3 HMX
            rw [← hSY] at l4 HMX
            rw [hppe] at c1
            generalize bstr x.n.pol = X at *
            generalize bstr y.n.pol = Y at *
            clear hx hy HX hkl hbl hSX hSY hpp hppe hppl d0 d1 d3 c0 c3 hk0 hIN HMD
            cases SY with
            | false =>
              obtain rfl : M = true := by rw [HMX.out]; rfl
              go_wp2_with fail
              go_roundw
              case rel => exact ⟨k + 1, by omega, by go_num, HM2, HB2⟩
              case measure => simp [intOf]; omega
            | true =>
              cases SX with
              | true =>
                obtain rfl : M = true := by rw [HMX.out]; rfl
                go_wp2_with fail
                go_roundw
                case rel => exact ⟨k + 1, by omega, by go_num, HM2, HB2⟩
                case measure => simp [intOf]; omega
              | false =>
                obtain rfl : M = IN := by rw [HMX.out]; rfl
                go_wp2_with fail
                go_at_call 33
                refine hin.mono ?_
                rintro e w6 ⟨rfl, rfl⟩
                go_wp2_with fail
                go_roundw
                case rel => exact ⟨k + 1, by omega, by go_num, HM2, HB2⟩
                case measure => simp [intOf]; omega
      · obtain rfl : k = N := by omega
        go_wp2_with fail
        go_meet
        exact ⟨hM, hBw⟩
  case rest =>
  obtain ⟨hM, hBw⟩ := hcut
  clear HM1 HBW1
  have hrm := removed_any wc (.slice ad l.length c) (.slice (some ⟨q, 0, none⟩) N N) l _ (HL.out.below hBw.out) (by
    have := hM.out.rd (c := N) (by rw [gmK_length _ _ _ (Nat.le_refl _)]; exact Nat.le_refl _)
    rw [gmK_length _ _ _ (Nat.le_refl _)] at this
    exact this) (by rw [gmK_length _ _ _ (Nat.le_refl _)]; exact HN.out) (by rw [← HN.out]; omega) (fun i hi => HVV.out.pge (by rw [nds_len]; exact hi))
  rw [← HN.out] at hrm
  go_wp2_with fail
  go_at_call 56
  refine hrm.mono ?_
  rintro e w5 ⟨v5, l5, rfl, ho5, hn5, hb5⟩
  clear hrm
  have HN5 := Bx.mk (show nds l5 = OUT by
    rw [hn5, HOUT.out, nds_len, ← HN.out]
    congr 1
    exact dnM_congr _ _ fun i hi => gmK_at _ _ _ hi)
  have HL5 := Bx.mk ho5.tl
  have HB5 := Bx.mk (hBw.out.trans (hb5.mono hBw.out.size))
  obtain ⟨oa, oc, hv5, -⟩ := ho5.own.rd.form
  obtain ⟨ON, hON⟩ : ∃ ON, ON = l5.length := ⟨_, rfl⟩
  have HON := Bx.mk hON
  have HONO := Bx.mk (show OUT.length = ON by rw [← HN5.out, nds_len, hON])
  have hONN : ON ≤ 2048 := by have := HOL.out; rw [HONO.out] at this; omega
  rw [← hON] at hv5
  subst hv5
  have hspa := spat_any w5 (.slice oa l5.length oc) l5 (by rw [← hON]; exact HL5.out) (by omega) D
  rw [← hON, HN5.out] at hspa
  obtain ⟨sp, hsp⟩ : ∃ sp, sp = spAt OUT D := ⟨_, rfl⟩
  rw [← hsp] at hspa
  have HSP := Bx.mk hsp
  have HSPL := Bx.mk (show sp < ON by rw [hsp, ← HONO.out]; exact spAt_lt _ _)
  rw [← hsp] at HRR
  have HTO5 := Bx.mk (show TO w5 w.heap.size (.slice oa ON oc) l5 from ho5.mono hBw.out.size)
  clear hn5 hb5 ho5 hON hsp hM
  go_wp2_with fail
  go_at_call 45
  refine hspa.mono ?_
  rintro e w6 ⟨rfl, rfl⟩
  clear hspa
  obtain ⟨C, hC⟩ : ∃ C, C = (FR || decide (sp < 1)) := ⟨_, rfl⟩
  rw [← hC] at HRR
  have HC11 := Bx.mk hC
  clear hC
  go_upto_region 11 with fail
  go_cut [88] (fun c wx => c = .bool C ∧ wx = w5)
  case first =>
    cases FR with
    | true =>
      have HH := Bx.mk (show C = true from HC11.out)
      go_wp2_with fail
      go_meet
      exact ⟨by rw [HH.out], rfl⟩
    | false =>
      have HH := Bx.mk (show C = decide (sp < 1) from HC11.out)
      obtain ⟨q1, hq1⟩ : ∃ q1, q1 = decide (sp < 1) := ⟨_, rfl⟩
      have hq2 : decide (sp < 1) = q1 := hq1.symm
      rw [hq2] at HH
      clear hq1
      go_wp2_with fail
      go_meet
      exact ⟨by rw [HH.out], rfl⟩
  case rest =>
  obtain ⟨rfl, hwc⟩ := hcut
  subst hwc
  cases C with
  | true =>
    have HFR2 := Bx.mk (show R = (pruneP OUT D, 0) from HRR.out)
    have hpr := rprune_any wc (.slice oa l5.length oc) l5 (by rw [← HON.out]; exact HL5.out) (by have := HON.out; omega) (fun i hi => by rw [HN5.out]; exact HVS.out.pge i (by rw [← HN5.out, nds_len]; exact hi)) D
    rw [← HON.out, HN5.out] at hpr
    go_wp2_with fail
    go_at_call 47
    refine hpr.mono ?_
    rintro e w8 ⟨v8, l8, rfl, ho8, hn8, hb8⟩
    obtain ⟨a8, c8, rfl, -⟩ := ho8.own.rd.form
    have HO8 := Bx.mk (ho8.mono HB5.out.size)
    have HN8 := Bx.mk hn8
    have HB8 := Bx.mk (HB5.out.trans (hb8.mono HB5.out.size))
    clear hpr ho8 hn8 hb8
    go_wp2_with fail
    go_ret2
    exact ⟨_, l8, by rw [HFR2.out]; rfl, HO8.out, by rw [HFR2.out, HN8.out], HB8.out⟩
  | false =>
  have HSP1 := HC11.out
  rw [eq_comm, Bool.or_eq_false_iff, decide_eq_false_iff_not] at HSP1
  obtain ⟨rfl, hsp1⟩ := HSP1
  have HRF := HRR.out
  simp only [Bool.false_eq_true, if_false] at HRF
  have HR3 := Bx.mk HRF
  clear HRF HRR
  obtain ⟨kk, hkk⟩ : ∃ kk : Nat, sp = (kk : Int) := ⟨sp.toNat, by omega⟩
  have hkkN : kk < ON := by have := HSPL.out; omega
  subst hkk
  have hset := rset_any wc (.slice pd ps.length pc) ps (HP.out.below HB5.out) (by have := HPB.out; omega)
  rw [← HPL.out] at hset
  clear HSPL
  go_wp2_with fail
  go_at_call 43
  refine hset.mono ?_
  rintro e w6 ⟨sv, rfl, hs6, hb6⟩
  clear hset
  obtain ⟨S, hS⟩ : ∃ S, S = setB ps := ⟨_, rfl⟩
  rw [← hS] at hs6
  have HS := Bx.mk hS
  obtain ⟨sa, sc, rfl, -⟩ := hs6.rd.form
  have HSC := Bx.mk (strs_cells hs6.rd).2
  have HSX := Bx.mk (show ∀ p ∈ S, p.length ≤ 1000000 from fun p hp => HPX.out p (setB_mem.1 (by rw [← hS]; exact hp)))
  obtain ⟨SL, hSL⟩ : ∃ SL, SL = S.length := ⟨_, rfl⟩
  have HSL := Bx.mk hSL
  have hSLP : SL ≤ PL := by rw [hSL, hS, HPL.out]; exact setB_length _
  rw [← hSL]
  have HB6 := Bx.mk (HB5.out.trans (hb6.mono HB5.out.size))
  have HL6 := Bx.mk (HL5.out.below hb6)
  have HC6 := Bx.mk (show ∀ W, Below w6.heap.size w6 W → ∀ k (hk : k < l5.length), ∃ b o, oa = some ⟨b, o, none⟩ ∧ b < w6.heap.size ∧ W.cell? ⟨b, o + k * 4 + 1, none⟩ = some (.int .i64 OUT[k]!.p) ∧ W.cell? ⟨b, o + k * 4 + 2, none⟩ = some (.string (bstr OUT[k]!.pol)) ∧ W.cell? ⟨b, o + k * 4, none⟩ = some (.int .i64 OUT[k]!.d) from fun W hW k hk => by
    have hl6 := HL6.out
    rw [HON.out] at hl6
    obtain ⟨b, o, e1, e2, e3, e4, e5, -⟩ := hl6.cells.2 W hW k hk
    rw [← HN5.out, nds_at l5 k hk]
    exact ⟨b, o, e1, e2, e4, e5, e3⟩)
  obtain ⟨pk, hpk⟩ : ∃ pk, pk = OUT[kk]!.p := ⟨_, rfl⟩
  have HXE := Bx.mk (show rresX OUT D ps = yK OUT D S pk SL by
    unfold rresX yK
    rw [← HSP.out, Int.toNat_natCast, ← hpk, HSL.out, List.take_length, HS.out])
  have HPK := Bx.mk hpk
  have hkkl : kk < l5.length := by rw [← HON.out]; exact hkkN
  obtain ⟨ob, oo, rfl, hobl, g1, -, -⟩ := HC6.out w6 (Below.refl _ _) kk hkkl
  rw [← hpk] at g1
  have HCO := Bx.mk (show ∀ W, Below w6.heap.size w6 W → ∀ k, k < ON → W.cell? ⟨ob, oo + k * 4 + 1, none⟩ = some (.int .i64 OUT[k]!.p) ∧ W.cell? ⟨ob, oo + k * 4 + 2, none⟩ = some (.string (bstr OUT[k]!.pol)) ∧ W.cell? ⟨ob, oo + k * 4, none⟩ = some (.int .i64 OUT[k]!.d) from fun W hW k hk => by
    obtain ⟨b', o', e, -, h⟩ := HC6.out W hW k (by rw [← HON.out]; exact hk)
    simp only [Option.some.injEq, Addr.mk.injEq, and_true] at e
    obtain ⟨rfl, rfl⟩ := e
    exact h)
  have HRI0 := Bx.mk (show RI w l5 D w6 (.slice (some ⟨ob, oo, none⟩) ON oc) [] from ⟨⟨l5, HTO5.out.below hb6, rfl⟩, fun n hn => (by cases hn), HB6.out⟩)
  have HDDO := Bx.mk (show ∀ n ∈ nds l5, n.d ≤ D from fun n hn => by
    rw [HN5.out] at hn
    obtain ⟨i, hi, rfl⟩ := mem_at.1 hn
    exact HVS.out.le i hi)
  have HSRO := Bx.mk (show Srt ltT (nds l5) by rw [HN5.out]; exact HSRT.out)
  clear hS hSL hs6 hb6 hpk hkkl hobl HTO5
  go_upto_block 2 with fail
  clear g1
  go_cut [15] (fun ov wx => Bx (RI w l5 D wx ov (rresX OUT D ps)) ∧ Bx (Below w6.heap.size w6 wx))
  case first =>
    go_wp2_with fail
    go_loopw [15, 16] (fun ov i wr => ∃ (k : Nat) (xs : List Nd), k ≤ SL ∧ i = .int .i64 k ∧ Bx (RI w l5 D wr ov xs) ∧ Bx (xs = yK OUT D S pk k) ∧ Bx (Below w6.heap.size w6 wr)) (fun _ i _ => SL - (intOf i).toNat)
    case atStart => exact ⟨0, [], by omega, rfl, HRI0, ⟨by simp [yK]⟩, ⟨Below.refl _ _⟩⟩
    case round =>
      obtain ⟨k, xs, hk, rfl, hRI, hXS, hB6⟩ := hrel
      obtain ⟨T, av, cv, hT, rfl⟩ := hRI.out.form
      clear hT
      by_cases hlt : k < SL
      · have hkl : k < S.length := by rw [← HSL.out]; exact hlt
        have HKC := Bx.mk (fun W hW => HSC.out W hW k hkl)
        have HXSU := Bx.mk (yK_succ OUT D S pk k hkl)
        have HQL := Bx.mk (HSX.out _ (List.getElem_mem hkl))
        obtain ⟨p, hpe⟩ : ∃ p, p = S[k] := ⟨_, rfl⟩
        rw [← hpe] at HKC HXSU HQL
        obtain ⟨fb, fo, rfl, hfbl, -⟩ := HKC.out w6 (Below.refl _ _)
        have HKD := Bx.mk (show ∀ W, Below w6.heap.size w6 W → W.cell? ⟨fb, fo + k, none⟩ = some (.string (bstr p)) from fun W hW => by
          obtain ⟨b', o', e, -, h⟩ := HKC.out W hW
          simp only [Option.some.injEq, Addr.mk.injEq, and_true] at e
          obtain ⟨rfl, rfl⟩ := e
          exact h)
        have HPEQ := Bx.mk (fun q : B => same_bytes q p)
        obtain ⟨P, hP⟩ : ∃ P, P = bstr p := ⟨_, rfl⟩
        rw [← hP] at HKD HPEQ
        have HPE := Bx.mk hP
        clear hpe hkl hfbl hP
        go_upto_block 4 with fail
        go_cut [17] (fun c wx => c = .bool (rthere OUT p ON) ∧ Below wr.heap.size wr wx)
        case first =>
          go_wp2_with fail
          go_loopw [17, 18] (fun fv j wr2 => ∃ (m : Nat) (F : Bool), 1 ≤ m ∧ m ≤ ON ∧ j = .int .i64 m ∧ fv = .bool F ∧ Bx (F = rthere OUT p m) ∧ Below wr.heap.size wr wr2) (fun _ j _ => ON - (intOf j).toNat)
          case atStart => exact ⟨1, false, by omega, by omega, rfl, rfl, ⟨(rthere_one _ _).symm⟩, Below.refl _ _⟩
          case round =>
            obtain ⟨m, F, hm1, hm, rfl, rfl, hFF, hbw2⟩ := hrel
            have HBW3 := Bx.mk hbw2
            have hbw3 := hB6.out.trans (hbw2.mono hB6.out.size)
            by_cases hlt2 : m < ON
            · obtain ⟨c1, c2, c0⟩ := HCO.out wr hbw3 m hlt2
              have hcp := HKD.out wr hbw3
              have hpp := HVS.out.par m (by omega) (by rw [HONO.out]; exact hlt2)
              have HNX := Bx.mk (rthere_succ OUT p m (by omega))
              rw [← hFF.out] at HNX
              obtain ⟨x, hx⟩ : ∃ x, x = OUT[m]! := ⟨_, rfl⟩
              rw [← hx] at c0 c1 c2 hpp HNX
              obtain ⟨pp, hppe⟩ : ∃ pp : Nat, x.p = (pp : Int) := ⟨x.p.toNat, by omega⟩
              have hppN : pp < ON := by omega
              obtain ⟨d1, d2, d0⟩ := HCO.out wr hbw3 pp hppN
              have l3 := HPEQ.out x.pol
              have l4 := same_any OUT[pp]!.pol
              obtain ⟨EQ, hEQ⟩ : ∃ EQ, EQ = decide (x.pol = p) := ⟨_, rfl⟩
              obtain ⟨SY, hSY⟩ : ∃ SY, SY = decide (OUT[pp]!.pol = anyP) := ⟨_, rfl⟩
              rw [← hEQ] at l3 HNX
              rw [← hSY] at l4
              rw [show spec (pn OUT x) = SY by unfold pn spec; rw [hppe, Int.toNat_natCast, hSY]] at HNX
              rw [hppe] at c1
              generalize bstr x.pol = X at *
              generalize bstr OUT[pp]!.pol = Y at *
              clear hx hbw2 hbw3 hEQ hSY hpp hppe c0 d0 d1
              cases F with
              | true =>
                have HNX2 := Bx.mk (show true = rthere OUT p (m + 1) by rw [HNX.out]; rfl)
                go_wp2_with fail
                go_quiet (fail)
                go_wp2_with fail
                go_roundw
                case rel => exact ⟨m + 1, true, by omega, by omega, by go_num, rfl, HNX2, below_drawn HBW3.out _⟩
                case measure => simp [intOf]; omega
              | false =>
                cases EQ with
                | true =>
                  have HNX2 := Bx.mk (show SY = rthere OUT p (m + 1) by rw [HNX.out]; rfl)
                  go_wp2_with fail
                  go_quiet (fail)
                  go_wp2_with fail
                  go_roundw
                  case rel => exact ⟨m + 1, SY, by omega, by omega, by go_num, rfl, HNX2, below_drawn HBW3.out _⟩
                  case measure => simp [intOf]; omega
                | false =>
                  have HNX2 := Bx.mk (show false = rthere OUT p (m + 1) by rw [HNX.out]; rfl)
                  go_wp2_with fail
                  go_quiet (fail)
                  go_wp2_with fail
                  go_roundw
                  case rel => exact ⟨m + 1, false, by omega, by omega, by go_num, rfl, HNX2, below_drawn HBW3.out _⟩
                  case measure => simp [intOf]; omega
            · obtain rfl : m = ON := by omega
              clear hbw2 hbw3
              go_wp2_with fail
              go_meet
              exact ⟨by rw [hFF.out], HBW3.out⟩
        case rest =>
          obtain ⟨rfl, hbc⟩ := hcut
          have HBC := Bx.mk (hB6.out.trans (hbc.mono hB6.out.size))
          have HRI2 := Bx.mk (hRI.out.below hbc)
          obtain ⟨TH, hTH⟩ : ∃ TH, TH = rthere OUT p ON := ⟨_, rfl⟩
          rw [HONO.out, ← hTH] at HXSU
          rw [← hTH]
          clear hTH hbc hRI hB6
          cases TH with
          | true =>
            have HX2 := Bx.mk (show xs = yK OUT D S pk (k + 1) by rw [HXSU.out, hXS.out]; simp)
            go_wp2_with fail
            go_roundw
            case rel => exact ⟨k + 1, xs, by omega, by go_num, HRI2, HX2, HBC⟩
            case measure => simp [intOf]; omega
          | false =>
            have HX2 := Bx.mk (show xs ++ [newN D pk p] = yK OUT D S pk (k + 1) by rw [HXSU.out, hXS.out]; rfl)
            have HBND := Bx.mk (show l5.length + xs.length ≤ 100000 by
              rw [← HON.out, hXS.out]
              have := yK_len OUT D S pk k
              omega)
            have HINS := Bx.mk (show ∀ W ov (g : Nat), Below wc.heap.size wc W → ov = .slice av T cv → Rd W encS (.slice (some ⟨g, 0, none⟩) 1 1) [p] → Calls Try.prog 44 #[ov, .agg #[.int .i64 D, .int .i64 pk, .string P, .slice (some ⟨g, 0, none⟩) 1 1]] W fun e w' => ∃ v', e = .returned v' ∧ RI w l5 D w' v' (xs ++ [newN D pk p]) ∧ Below W.heap.size W w' from fun W ov g hW hov hrd => by
              subst hov
              rw [HPE.out]
              refine ri_insertB HRI2.out HSRO.out HDDO.out HBND.out (newN D pk p) rfl ⟨some ⟨g, 0, none⟩, 1, 1⟩ W hW ⟨hrd, ⟨by simp [newN], fun b hb => ?_⟩, HQL.out⟩
              have hb' : b ∈ [p] := hb
              rw [List.mem_singleton] at hb'
              rw [hb']; exact HQL.out)
            go_upto_region 25 with fail
            refine wp_region_facts 14 (RrF w l5 D (.slice (some ⟨fb, fo, none⟩) SL sc) (.slice av T cv) fb (fo + k) (k : Nat) pk P p xs) (by kernel_rfl) (by kernel_rfl) (by rfl) (RrF.stable _ _ _ _ _ _ _ _ _ _ _ _) ?_ ?_
            · intro i oo hi ho xx w7 hb hd
              have hcs : i = 0 ∨ i = 1 ∨ i = 2 ∨ i = 3 ∨ i = 4 ∨ i = 5 ∨ i = 6 ∨ i = 7 ∨ i = 8 ∨ i = 9 ∨ i = 10 ∨ i = 11 ∨ i = 12 ∨ i = 13 := by omega
              simp only [List.take_succ_cons, List.take_zero, putFrom, Act.put, List.setIfInBounds_toArray, List.set_cons_succ, List.set_cons_zero, Nat.zero_add, Nat.reduceAdd]
              have HB7 := Bx.mk hb
              have hbw7 := HBC.out.trans (hb.mono HBC.out.size)
              have hc2 := HKD.out w7 hbw7
              clear hb hbw7
              rcases hcs with rfl | rfl | rfl | rfl | rfl | rfl | rfl | rfl | rfl | rfl | rfl | rfl | rfl | rfl
              all_goals
                simp only [List.getElem?_cons_succ, List.getElem?_cons_zero, Option.some.injEq] at ho
                subst ho
                simp [Needs, Region.binds, RrF] at hd
              all_goals clear hi
              case inr.inr.inr.inr.inr.inr.inr.inr.inr.inr.inr.inl =>
                have hrd := (own_alloc (Bk := w7.heap.size) (e := 9) encS_ok w7 [p] #[.string P] (by rw [HPE.out]; rfl) (Nat.le_refl _) (by unfold maxLen; simp)).rd
                have HRD := Bx.mk hrd
                clear hrd hc2
                go_wp2_with fail
                exact ⟨rfl, rfl, ⟨_, rfl, HRD.out⟩, (Below.refl _ _).alloc (Nat.le_refl _) _⟩
              case inr.inr.inr.inr.inr.inr.inr.inr.inr.inr.inr.inr.inl =>
                obtain ⟨h1, h2, h6, g, h11, hr⟩ := hd
                have HRD := Bx.mk hr
                clear hr hc2
                go_wp2_with fail
                exact ⟨rfl, rfl, ⟨g, rfl, HRD.out⟩, Below.refl _ _⟩
              case inr.inr.inr.inr.inr.inr.inr.inr.inr.inr.inr.inr.inr =>
                obtain ⟨h0, g, h12, hr⟩ := hd
                have hins := HINS.out w7 (.slice av T cv) g HB7.out rfl hr
                clear hr hc2
                go_wp2_with (go_at_call 44; refine hins.mono ?_; rintro e w8 ⟨v8, rfl, hri, hb8⟩)
                exact ⟨rfl, rfl, hri, hb8⟩
              all_goals
                go_wp2_with fail
                exact ⟨rfl, rfl, rfl, Below.refl _ _⟩
            · intro xx w7 hb hf
              have f13 := hf 13 (by omega)
              simp only [RrF] at f13
              have HB7 := Bx.mk (HBC.out.trans (hb.mono HBC.out.size))
              have HF13 := Bx.mk f13
              obtain ⟨T8, a8, c8, hT8, hx13⟩ := f13.form
              clear hb hT8 f13
              simp only [List.take_succ_cons, List.take_zero, List.drop_succ_cons, List.drop_zero, putFrom, Act.put, List.setIfInBounds_toArray, List.set_cons_succ, List.set_cons_zero, Nat.zero_add, Nat.reduceAdd]
              rw [hx13] at HF13 ⊢
              clear hf
              go_wp2_with fail
              go_roundw
              case rel => exact ⟨k + 1, _, by omega, by go_num, HF13, HX2, HB7⟩
              case measure => simp [intOf]; omega
      · obtain rfl : k = SL := by omega
        go_wp2_with fail
        go_meet
        exact ⟨⟨by rw [HXE.out, ← hXS.out]; exact hRI.out⟩, hB6⟩
  case rest =>
  obtain ⟨hRI7, hB67⟩ := hcut
  clear HRI0
  obtain ⟨T7, av7, cv7, hT7, rfl⟩ := hRI7.out.form
  obtain ⟨l7, hto7, hn7, hl7⟩ := hRI7.out.list
  rw [HN5.out] at hn7
  obtain ⟨X, hX⟩ : ∃ X, X = insL OUT (rresX OUT D ps) := ⟨_, rfl⟩
  rw [← hX] at hn7 HR3
  have HN7 := Bx.mk hn7
  have HT7 := Bx.mk (show T7 = l7.length by omega)
  have hTb : T7 ≤ 4048 := by
    have := yK_len OUT D S pk SL
    rw [HXE.out] at hT7
    rw [← HON.out] at hT7
    omega
  have HXL := Bx.mk (show X.length = T7 by rw [← HN7.out, nds_len]; exact HT7.out.symm)
  have HXP := Bx.mk (show ∀ i, i < X.length → -1 ≤ X[i]!.p ∧ X[i]!.p < i from by
    obtain ⟨a, ha⟩ := HBS.out
    have hb := Bs.insL (rresX OUT D ps) ha (fun x hx => by
      rw [HXE.out] at hx
      unfold yK at hx
      obtain ⟨q', -, rfl⟩ := List.mem_map.1 hx
      have := ha.pa kk (by rw [HONO.out]; exact hkkN)
      rw [← HPK.out] at this
      exact ⟨rfl, this.1, this.2.1⟩)
    rw [← hX] at hb
    intro i hi
    have := hb.pa i hi
    exact ⟨this.1, this.2.2⟩)
  have HL7 := Bx.mk hto7.tl
  have HC7 := Bx.mk (show ∀ W, Below wc.heap.size wc W → ∀ k (hk : k < T7), ∃ b o, av7 = some ⟨b, o, none⟩ ∧ W.cell? ⟨b, o + k * 4, none⟩ = some (.int .i64 X[k]!.d) ∧ W.cell? ⟨b, o + k * 4 + 2, none⟩ = some (.string (bstr X[k]!.pol)) from fun W hW k hk => by
    obtain ⟨b, o, e1, -, e3, e4, e5, -⟩ := HL7.out.cells.2 W hW k (by rw [← HT7.out]; exact hk)
    rw [← HN7.out, nds_at l7 k (by rw [← HT7.out]; exact hk)]
    exact ⟨b, o, e1, e3, e5⟩)
  have HB7 := Bx.mk (show Below w.heap.size w wc from hRI7.out.bel)
  have hmk := run_makeSlice (P := Try.prog) wc 76 4 ib (.bool false) Try.underlying76 hib hib0 .i64 .i64 (T7 : Nat) (T7 : Nat) (by omega) (by omega) (by rw [Int.toNat_natCast, hib1]; omega) (by rw [hib2]; omega) (by omega)
  simp only [Int.toNat_natCast, hib1, made_marks] at hmk
  obtain ⟨q2, hq2⟩ : ∃ q2, q2 = wc.heap.size := ⟨_, rfl⟩
  obtain ⟨W9, hW9⟩ : ∃ W9, W9 = wc.alloc (.cells (Array.replicate T7 (Value.bool false)) 4) := ⟨_, rfl⟩
  have HM9 := Bx.mk (show MB W9 q2 (gmK (fun i => deepC D X[i]!) T7 0) by rw [gmK_zero, hW9]; unfold MB; rw [List.map_replicate, List.toArray_replicate]; exact alloc_at hq2)
  have HBW9 := Bx.mk (show Below wc.heap.size wc W9 by rw [hW9]; exact (Below.refl _ _).alloc (Nat.le_refl _) _)
  have HQ2 := Bx.mk (show wc.heap.size ≤ q2 by rw [hq2]; exact Nat.le_refl _)
  clear hT7 hto7 hn7 hl7 hX hRI7 hB67
  go_upto_block 6 with fail
  rw [← hW9, ← hq2]
  clear hmk hW9 hq2
  obtain ⟨wb, hwb⟩ : ∃ wb, wb = wc := ⟨_, rfl⟩
  rw [← hwb] at HL7 HC7 HB7 HBW9 HQ2
  clear hwb
  go_cut [] (fun wx => Bx (MB wx q2 (gmK (fun i => deepC D X[i]!) T7 T7)) ∧ Bx (Below wb.heap.size wb wx))
  case first =>
    go_wp2_with fail
    go_loopw [20] (fun i wr => ∃ k : Nat, k ≤ T7 ∧ i = .int .i64 k ∧ Bx (MB wr q2 (gmK (fun i => deepC D X[i]!) T7 k)) ∧ Bx (Below wb.heap.size wb wr)) (fun i _ => T7 - (intOf i).toNat)
    case atStart => exact ⟨0, by omega, rfl, HM9, HBW9⟩
    case round =>
      obtain ⟨k, hk, rfl, hM, hBw⟩ := hrel
      by_cases hlt : k < T7
      · have hm0 := hM.out.cell k (by rw [gmK_length _ _ _ hk]; exact hlt)
        have hfz := frozen_row (i := k) hM.out
        obtain ⟨old, hold⟩ : ∃ b, b = (gmK (fun i => deepC D X[i]!) T7 k)[k]! := ⟨_, rfl⟩
        rw [← hold] at hm0
        obtain ⟨b, o, rfl, c0, c2⟩ := HC7.out wr hBw.out k hlt
        obtain ⟨M, hMd⟩ : ∃ M, M = deepC D X[k]! := ⟨_, rfl⟩
        have HM2 := Bx.mk (show MB (wr.setCell ⟨q2, k, none⟩ (.bool M)) q2 (gmK (fun i => deepC D X[i]!) T7 (k + 1)) by
          rw [gmK_succ _ _ _ hlt, hMd]; exact hM.out.set k _)
        have HB2 := Bx.mk (hBw.out.setCell (p := ⟨q2, k, none⟩) HQ2.out (.bool M))
        obtain ⟨x, hx⟩ : ∃ x, x = X[k]! := ⟨_, rfl⟩
        rw [← hx] at c0 c2 hMd
        have HMD := Bx.mk hMd
        have l3 := same_any x.pol
        generalize bstr x.pol = XX at *
        clear hold hMd hx
        by_cases hd : x.d = D
        · have t1 : (x.d != D) = false := by simp [hd]
          have t2 : (x.d == D) = true := by simpa using hd
          have HM3 := Bx.mk (show M = !decide (x.pol = anyP) by rw [HMD.out]; unfold deepC spec; rw [decide_eq_true hd]; rfl)
          obtain ⟨SX, hSX⟩ : ∃ SX, SX = decide (x.pol = anyP) := ⟨_, rfl⟩
          rw [← hSX] at l3 HM3
          obtain rfl := HM3.out
          clear hd hSX HMD HM3
          go_wp2_with fail
          go_roundw
          case rel => exact ⟨k + 1, by omega, by go_num, HM2, HB2⟩
          case measure => simp [intOf]; omega
        · have t1 : (x.d != D) = true := by simp [hd]
          have t2 : (x.d == D) = false := by simpa using hd
          obtain rfl : M = true := by rw [HMD.out]; unfold deepC; rw [decide_eq_false hd]; rfl
          clear hd HMD l3
          go_wp2_with fail
          go_roundw
          case rel => exact ⟨k + 1, by omega, by go_num, HM2, HB2⟩
          case measure => simp [intOf]; omega
      · obtain rfl : k = T7 := by omega
        go_wp2_with fail
        go_meet
        exact ⟨hM, hBw⟩
  case rest =>
  obtain ⟨hM, hBw⟩ := hcut
  clear HM9 HBW9
  have hrm := removed_any wc (.slice av7 l7.length cv7) (.slice (some ⟨q2, 0, none⟩) T7 T7) l7 _ (by rw [← HT7.out]; exact HL7.out.below hBw.out) (by
    have := hM.out.rd (c := T7) (by rw [gmK_length _ _ _ (Nat.le_refl _)]; exact Nat.le_refl _)
    rw [gmK_length _ _ _ (Nat.le_refl _)] at this
    exact this) (by rw [gmK_length _ _ _ (Nat.le_refl _)]; exact HT7.out) (by rw [← HT7.out]; omega) (fun i hi => by rw [HN7.out]; exact HXP.out i (by rw [HXL.out, HT7.out]; exact hi))
  rw [← HT7.out] at hrm
  go_wp2_with fail
  go_at_call 56
  refine hrm.mono ?_
  rintro e w9 ⟨v9, l9, rfl, ho9, hn9, hb9⟩
  clear hrm
  obtain ⟨Y, hY⟩ : ∃ Y, Y = keepP X (dnM X (fun i => deepC D X[i]!) X.length) := ⟨_, rfl⟩
  rw [← hY] at HR3
  have HN9 := Bx.mk (show nds l9 = Y by
    rw [hn9, hY, HN7.out, HXL.out]
    congr 1
    exact dnM_congr _ _ fun i hi => gmK_at _ _ _ hi)
  have HYP := Bx.mk (show ∀ i, i < Y.length → -1 ≤ Y[i]!.p ∧ Y[i]!.p < i by rw [hY]; exact keep_pge HXP.out)
  obtain ⟨a9, c9, hv9, -⟩ := ho9.own.rd.form
  obtain ⟨T9, hT9⟩ : ∃ T9, T9 = l9.length := ⟨_, rfl⟩
  have HT9 := Bx.mk hT9
  rw [← hT9] at hv9
  subst hv9
  have HL9 := Bx.mk ho9.tl
  have HB9 := Bx.mk ((HB7.out.trans (hBw.out.mono HB7.out.size)).trans (hb9.mono (Nat.le_trans HB7.out.size hBw.out.size)))
  have HYL := Bx.mk (show Y.length = T9 by rw [← HN9.out, nds_len, hT9])
  rw [HYL.out] at HR3
  clear hn9 hY hT9 ho9 hb9 hM
  by_cases hlim : T9 > 2048
  · have tl : decide ((T9 : Int) > 2048) = true := decide_eq_true (by omega)
    have HFR := Bx.mk (show R = ([], 2) by rw [HR3.out, if_pos hlim])
    clear hlim
    go_wp2_with fail
    go_ret2
    exact ⟨_, [], by rw [HFR.out]; rfl, TO.nil _ _, by rw [HFR.out]; rfl, HB9.out⟩
  · have tl : decide ((T9 : Int) > 2048) = false := decide_eq_false (by omega)
    have HFR := Bx.mk (show R = (pruneP Y D, 0) by rw [HR3.out, if_neg hlim])
    have hpr := rprune_any w9 (.slice a9 l9.length c9) l9 (by rw [← HT9.out]; exact HL9.out) (by have := HT9.out; omega) (fun i hi => by rw [HN9.out]; exact HYP.out i (by rw [HYL.out, HT9.out]; exact hi)) D
    rw [← HT9.out, HN9.out] at hpr
    clear hlim
    go_wp2_with fail
    go_at_call 47
    refine hpr.mono ?_
    rintro e w8 ⟨v8, l8, rfl, ho8, hn8, hb8⟩
    obtain ⟨a8, c8, rfl, -⟩ := ho8.own.rd.form
    have HO8 := Bx.mk (ho8.mono HB9.out.size)
    have HN8 := Bx.mk hn8
    have HB8 := Bx.mk (HB9.out.trans (hb8.mono HB9.out.size))
    clear hpr ho8 hn8 hb8
    go_wp2_with fail
    go_ret2
    exact ⟨_, l8, by rw [HFR.out]; rfl, HO8.out, by rw [HFR.out, HN8.out], HB8.out⟩
end Go.Proofs.Ytmagjdocondmhaa.Tr
