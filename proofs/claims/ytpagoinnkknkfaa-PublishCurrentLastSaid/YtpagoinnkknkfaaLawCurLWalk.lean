/-
  PublishCurrentLast, walked.
-/
import Derived.Test.YtpagoinnkknkfaaLawCurWalk
namespace Go.Proofs.Ytpagoinnkknkfaa.Pb
open Go Go.RowKit Go.Shelf Go.Proofs.Ytpagoinnkknkfaa.Slc
set_option linter.unusedVariables false
set_option linter.unusedSimpArgs false
attribute [local go_sem] Oper.semAt_some

/-- what the law counts, and what it wants -/
def cntS (l : List En) (s : Int) : Int := (l.countP (fun e => e.s == s) : Nat)
def wantS (l : List Ch) (s : Int) : Int := l.foldl (fun w c => if c.s = s then (if c.r = 8 then 0 else 1) else w) 0
theorem want_find (s : Int) : ∀ l : List Ch, (l.foldr (fun c w => if c.s = s then (if c.r = 8 then (0 : Int) else 1) else w) 0) = (match l.find? (fun c => c.s == s) with | some c => if c.r = 8 then 0 else 1 | none => 0)
  | [] => rfl
  | c :: l => by
    rw [List.foldr_cons, List.find?_cons]
    by_cases h : c.s = s
    · rw [if_pos h, beq_iff_eq.2 h]
    · rw [if_neg h, beq_eq_false_iff_ne.2 h]; exact want_find s l
theorem want_eq (l : List Ch) (s : Int) : wantS l s = (match lastOf l s with | some c => if c.r = 8 then 0 else 1 | none => 0) := by
  unfold wantS lastOf
  rw [← want_find, List.foldr_reverse]
theorem cnt_lt (s : Int) : ∀ l : List En, l.Pairwise (fun a b => a.s < b.s) → l.countP (fun e => e.s == s) = if l.any (fun e => e.s == s) then 1 else 0
  | [], _ => rfl
  | a :: l, h => by
    rw [List.pairwise_cons] at h
    rw [List.countP_cons, List.any_cons, cnt_lt s l h.2]
    by_cases e : a.s = s
    · have : l.any (fun e => e.s == s) = false := by
        rw [List.any_eq_false]
        intro b hb
        have := h.1 b hb
        simp; omega
      rw [this]; simp [e]
    · have : (a.s == s) = false := beq_eq_false_iff_ne.2 e
      rw [this]; simp
theorem cnt_want (nm : Nm) (l : List Ch) (s : Int) : cntS (curE nm l) s = wantS l s := by
  have h : (curE nm l).any (fun e => e.s == s) = (curOne nm l s).isSome := by
    rw [Bool.eq_iff_iff, List.any_eq_true]
    constructor
    · rintro ⟨e, he, hs⟩
      have h1 := (curE_mem nm l e).1 he
      rw [beq_iff_eq] at hs
      rw [← hs, h1]; rfl
    · intro h1
      obtain ⟨e, he⟩ := Option.isSome_iff_exists.1 h1
      have h2 := curOne_s he
      exact ⟨e, (curE_mem nm l e).2 (by rw [h2]; exact he), by simpa using h2⟩
  unfold cntS
  rw [cnt_lt s _ (curE_lt nm l), h, want_eq]
  unfold curOne
  cases lastOf l s with
  | none => rfl
  | some c => by_cases h8 : c.r = 8 <;> simp [h8]
theorem cnt_succ (l : List Et) (s : Int) (k : Nat) (h : k < l.length) : cntS (ens (l.take (k + 1))) s = cntS (ens (l.take k)) s + if (l[k]).e.s = s then 1 else 0 := by
  unfold cntS
  rw [List.take_succ_eq_append_getElem h, ens, ens, List.map_append, List.countP_append]
  by_cases e : (l[k]).e.s = s <;> simp [e]
theorem want_succ (l : List Ch) (s : Int) (k : Nat) (h : k < l.length) : wantS (l.take (k + 1)) s = if (l[k]).s = s then (if (l[k]).r = 8 then 0 else 1) else wantS (l.take k) s := by
  unfold wantS
  rw [List.take_succ_eq_append_getElem h, List.foldl_append]; rfl
theorem cnt_bd (l : List En) (s : Int) : 0 ≤ cntS l s ∧ cntS l s ≤ l.length := by
  unfold cntS
  have := List.countP_le_length (p := fun e : En => e.s == s) (l := l)
  omega
theorem ens_lt {out : List Et} {nm : Nm} {l : List Ch} (h : ens out = curE nm l) (k : Nat) (hk : k + 1 < out.length) : (out[k]'(by omega)).e.s < (out[k + 1]'hk).e.s := by
  have h1 := curE_lt nm l
  rw [← h, ens, List.pairwise_map] at h1
  exact List.pairwise_iff_getElem.1 h1 k (k + 1) (by omega) hk (by omega)

set_option maxRecDepth 100000 in
set_option maxHeartbeats 4000000 in
theorem law_curl (v : Value) (zs : List Int) (w : World) (hI : Ints w .i64 v zs) :
    Calls Try.prog 6 #[v] w fun e w' => e = .returned (.bool true) ∧ Below w.heap.size w w' := by
  have haw := awake_any
  have HI := Bx.mk hI
  have hau := auth3
  clear hI
  go_enter Try.func6, Try.ntmps6
  go_wp2_with fail
  go_at_call 19
  refine (hau _).mono ?_
  rintro e w1 ⟨⟨na, nn, nc⟩, rfl, hnm, hb1⟩
  clear hau
  simp only [Sl.val] at hnm ⊢
  obtain ⟨p, hp⟩ : ∃ p, p = w1.heap.size := ⟨_, rfl⟩
  obtain ⟨W2, hW2⟩ : ∃ W2, W2 = w1.alloc (.cells #[.slice na nn nc] 36) := ⟨_, rfl⟩
  have hb12 : Below w1.heap.size w1 W2 := by rw [hW2]; exact (Below.refl _ _).alloc (Nat.le_refl _) _
  have hr2 : W2.heap[p]? = some (.cells #[.slice na nn nc] 36 (0, 0)) := by rw [hW2]; exact alloc_at hp
  have hb2 := hb1.trans (hb12.mono hb1.size)
  have hnm2 := hnm.nat.below hb12
  have hnew := new_any w v zs W2 HI.out hb2
  go_wp2_with fail
  rw [← hW2]
  try rw [← hp]
  clear hp hW2 hnm hb1 hb12
  refine hnew.mono ?_
  rintro e W3 ⟨rfl, hb23, hD3⟩
  clear hnew
  obtain ⟨g, hg⟩ : ∃ g, g = W2.heap.size := ⟨_, rfl⟩
  rw [← hg] at hD3 hb23 ⊢
  have hpl : p < g := by rw [hg]; exact lt_of_block hr2
  have hhist := hist_any w v zs W3 g 30 hD3 (by omega)
  have HB23 := Bx.mk hb23
  have HR2 := Bx.mk hr2
  have HN2 := Bx.mk hnm2
  have HB2 := Bx.mk hb2
  have HG := Bx.mk hg
  have hgl := hD3.lt
  clear hb23 hD3 hr2 hnm2 hb2 hg
  go_wp2_with fail
  refine hhist.mono ?_
  rintro e W4 ⟨hv, hc, rfl, hown, hlen, hIs, -, hg4⟩
  clear hhist
  have hO : Go.Proofs.Ytpagoinnkknkfaa.Slc.Own W4 W3.heap.size 24 4 encC hv hc := hown
  have HB24 := Bx.mk (show Below g W2 W4 from HB23.out.grown hg4 (by omega) (fun k hk => by simp only [Option.some.injEq] at hk; omega))
  have hbw4 : Below w.heap.size w W4 := HB2.out.trans (HB24.out.mono (by rw [HG.out]; exact HB2.out.size))
  have hpc := pcur_any W4 (.slice na nn nc) (authN 3) (HN2.out.below (HG.out ▸ HB24.out)) (okA 3) hv hc hO.rd (by omega) (fun c h => (hIs c h).i64)
  have hR4 := (HB24.out.block p hpl).trans HR2.out
  have mp := cell_of_row _ _ 0 _ _ _ hR4
  simp only [List.getElem?_toArray, List.getElem?_cons_zero, List.getElem?_cons_succ] at mp
  have HH4 := Bx.mk hO.rd
  have HBW := Bx.mk hbw4
  clear hown hg4 hbw4 hIs hR4
  go_wp2_with fail
  refine hpc.mono ?_
  rintro e W5 ⟨ov, out, rfl, ho, heo, hb45⟩
  clear hpc mp
  have HB5 := Bx.mk (HBW.out.trans (hb45.mono HBW.out.size))
  have HEL := Bx.mk heo.el
  have HO := Bx.mk ho
  have hol : out.length ≤ 30 := by have := curE_len (authN 3) hc; rw [← ho, List.length_map] at this; omega
  obtain ⟨oa, oc, rfl, -⟩ := heo.el.rd.form
  obtain ⟨ha, hca, rfl, -⟩ := HH4.out.form
  have HEC := Bx.mk HEL.out.cells.2
  have HCC := Bx.mk (rdC_cells (HH4.out.below hb45)).2
  clear heo ho hb45 hO
  go_wp2_with fail
  go_loopw [6] (fun s wr => ∃ K : Int, 1 ≤ K ∧ K ≤ 6 ∧ s = .int .i64 K ∧ wr = W5) (fun s _ => 6 - (intOf s).toNat)
  case atStart => exact ⟨1, by omega, by omega, rfl, rfl⟩
  case round =>
    obtain ⟨K, hK1, hK2, rfl, hwr⟩ := hrel
    subst hwr
    by_cases hlt : K ≤ 5
    · have tK : decide (K ≤ 5) = true := decide_eq_true hlt
      go_wp2_with fail
      go_loopw [7, 9] (fun cv i w6 => ∃ (N : Int) (j : Nat), cv = .int .i64 N ∧ i = .int .i64 j ∧ j ≤ out.length ∧ 0 ≤ N ∧ N ≤ j ∧ Bx (N = cntS (ens (out.take j)) K) ∧ w6 = wr) (fun _ i _ => out.length - (intOf i).toNat)
      case atStart => exact ⟨0, 0, rfl, rfl, by omega, by omega, by omega, ⟨rfl⟩, rfl⟩
      case round =>
        obtain ⟨N, j, rfl, rfl, hj, hN0, hN1, hN, hw6⟩ := hrel
        subst hw6
        by_cases hltj : j < out.length
        · obtain ⟨b, o, rfl, hbl, c0, -, -, -, -⟩ := HEC.out _ (Below.refl _ _) j hltj
          have HSN := Bx.mk (show cntS (ens (out.take (j + 1))) K = N + if (out[j]).e.s = K then 1 else 0 by rw [cnt_succ _ _ _ hltj, hN.out])
          generalize (out[j]).e.s = S1 at *
          by_cases hs : S1 = K
          · have ts : (S1 == K) = true := by simpa using hs
            have HN2 := Bx.mk (show N + 1 = cntS (ens (out.take (j + 1))) K by rw [HSN.out, if_pos hs])
            have hwn : IntKind.i64.wrap (N + 1) = N + 1 := IntWalk.i64_in _ (by omega)
            clear HSN hs hN
            go_wp2_with fail
            clear hwn
            go_roundw
            case rel => exact ⟨N + 1, j + 1, by go_num, by go_num, by omega, by omega, by omega, HN2, trivial⟩
            case measure => simp [intOf]; omega
          · have ts : (S1 == K) = false := by simpa using hs
            have HN2 := Bx.mk (show N = cntS (ens (out.take (j + 1))) K by rw [HSN.out, if_neg hs, Int.add_zero])
            clear HSN hs hN
            go_wp2_with fail
            go_roundw
            case rel => exact ⟨N, j + 1, rfl, by go_num, by omega, by omega, by omega, HN2, trivial⟩
            case measure => simp [intOf]; omega
        · obtain rfl : j = out.length := by omega
          have HNF := Bx.mk (show N = wantS hc K by rw [hN.out, List.take_length, HO.out, cnt_want])
          clear hN hN0 hN1
          go_wp2_with fail
          go_loopw [8, 10] (fun cv i w6 => ∃ (M : Int) (j : Nat), cv = .int .i64 M ∧ i = .int .i64 j ∧ j ≤ hc.length ∧ Bx (M = wantS (hc.take j) K) ∧ w6 = wr) (fun _ i _ => hc.length - (intOf i).toNat)
          case atStart => exact ⟨0, 0, rfl, rfl, by omega, ⟨rfl⟩, rfl⟩
          case round =>
            obtain ⟨M, j, rfl, rfl, hj, hM, hw6⟩ := hrel
            subst hw6
            by_cases hltj : j < hc.length
            · obtain ⟨b, o, rfl, hbl, c0, -, c2, -⟩ := HCC.out _ (Below.refl _ _) j hltj
              have HSN := Bx.mk (show wantS (hc.take (j + 1)) K = if (hc[j]).s = K then (if (hc[j]).r = 8 then 0 else 1) else M by rw [want_succ _ _ _ hltj, hM.out])
              generalize (hc[j]).s = S1 at *
              generalize (hc[j]).r = R1 at *
              by_cases hs : S1 = K
              · have ts : (S1 == K) = true := by simpa using hs
                by_cases hr : R1 = 8
                · have tr : (R1 == 8) = true := by simpa using hr
                  have HN2 := Bx.mk (show 0 = wantS (hc.take (j + 1)) K by rw [HSN.out, if_pos hs, if_pos hr])
                  clear HSN hs hM hr
                  go_wp2_with fail
                  go_roundw
                  case rel => exact ⟨0, j + 1, rfl, by go_num, by omega, HN2, trivial⟩
                  case measure => simp [intOf]; omega
                · have tr : (R1 == 8) = false := by simpa using hr
                  have HN2 := Bx.mk (show 1 = wantS (hc.take (j + 1)) K by rw [HSN.out, if_pos hs, if_neg hr])
                  clear HSN hs hM hr
                  go_wp2_with fail
                  go_roundw
                  case rel => exact ⟨1, j + 1, rfl, by go_num, by omega, HN2, trivial⟩
                  case measure => simp [intOf]; omega
              · have ts : (S1 == K) = false := by simpa using hs
                have HN2 := Bx.mk (show M = wantS (hc.take (j + 1)) K by rw [HSN.out, if_neg hs])
                clear HSN hs hM c2
                go_wp2_with fail
                go_roundw
                case rel => exact ⟨M, j + 1, rfl, by go_num, by omega, HN2, trivial⟩
                case measure => simp [intOf]; omega
            · obtain rfl : j = hc.length := by omega
              obtain rfl : M = N := by rw [hM.out, List.take_length, HNF.out]
              have tm : (M != M) = false := by simp
              clear hM HNF
              go_wp2_with fail
              go_roundw
              case rel => exact ⟨K + 1, by omega, by omega, by go_num, trivial⟩
              case measure => simp [intOf]; omega
    · have tK : decide (K ≤ 5) = false := decide_eq_false hlt
      clear hK1 hK2 hlt
      go_wp2_with fail
      go_loopw [11] (fun i w6 => ∃ j : Nat, i = .int .i64 ((j : Int) + 1) ∧ (j = 0 ∨ j < out.length) ∧ Below wr.heap.size wr w6) (fun i _ => out.length - (intOf i).toNat)
      case atStart => exact ⟨0, rfl, .inl rfl, Below.refl _ _⟩
      case round =>
        obtain ⟨j, rfl, hj, hb6⟩ := hrel
        have HB6 := Bx.mk hb6
        by_cases hltj : j + 1 < out.length
        · have tj : decide ((j : Int) + 1 < out.length) = true := decide_eq_true (by omega)
          have tj2 : decide (j + 1 < out.length) = true := decide_eq_true hltj
          obtain ⟨b, o, rfl, hbl, c0, -, -, -, -⟩ := HEC.out _ hb6 j (by omega)
          obtain ⟨b', o', hbo, -, d0, -, -, -, -⟩ := HEC.out _ hb6 (j + 1) hltj
          simp only [Option.some.injEq, Addr.mk.injEq, and_true] at hbo
          obtain ⟨rfl, rfl⟩ := hbo
          have hlts := ens_lt HO.out j hltj
          have hjl : j < out.length := by omega
          generalize (out[j]'(by omega)).e.s = S1 at *
          generalize (out[j + 1]'hltj).e.s = S2 at *
          have tg : decide (S1 ≥ S2) = false := decide_eq_false (by omega)
          have tg2 : decide (S2 ≤ S1) = false := decide_eq_false (by omega)
          have hx : ((j : Int) + 1).toNat = j + 1 := by omega
          clear hb6 hlts hj hbl
          go_wp2
          go_quiet (fail)
          go_wp2
          go_roundw
          case rel => exact ⟨j + 1, by go_num, .inr hltj, drewN_below HB6.out _⟩
          case measure => simp [intOf]; omega
        · have tj : decide ((j : Int) + 1 < out.length) = false := decide_eq_false (by omega)
          have tj2 : decide (j + 1 < out.length) = false := decide_eq_false hltj
          have HB7 := Bx.mk (HB5.out.trans (HB6.out.mono HB5.out.size))
          clear hb6 hj
          go_wp2_with (go_at_call 18; refine (haw _).mono ?_; rintro e w8 ⟨rfl, hb8⟩)
          have HB9 := Bx.mk (HB7.out.trans (hb8.mono HB7.out.size))
          clear hb8
          go_wp2
          go_ret
          exact ⟨rfl, HB9.out⟩
end Go.Proofs.Ytpagoinnkknkfaa.Pb
