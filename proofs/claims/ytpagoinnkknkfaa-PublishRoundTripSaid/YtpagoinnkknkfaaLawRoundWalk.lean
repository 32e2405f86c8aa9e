/-
  PublishRoundTrip, walked.
-/
import Derived.Test.YtpagoinnkknkfaaPbFew
import Derived.Deep.QuietTactic
namespace Go.Proofs.Ytpagoinnkknkfaa.Pb
open Go Go.RowKit Go.Shelf Go.Proofs.Ytpagoinnkknkfaa.Slc
set_option linter.unusedVariables false
set_option linter.unusedSimpArgs false
attribute [local go_sem] Oper.semAt_some

section
variable {α : Type} {P : Program} {T : TypeId} {z : Nat} {enc : α → List Value}
/-- one element of a slice, as a slice -/
theorem rd_mid {w : World} {v : Value} {l : List α} (E : Enc z enc) (h : Rd w enc v l) (hT : P.underlying T = some (.slice (P.elem T))) (hz : ∀ W, (sizeOf (P.elem T)).run P W = .ok z W) (k : Nat) (hk : k < l.length) :
    ∃ u, (∀ W, (Instr.slice T v (some (.int .i64 k)) (some (.int .i64 ((k : Int) + 1))) none).run P W = .ok u W) ∧ Rd w enc u [l[k]] := by
  rcases h with ⟨rfl, rfl⟩ | ⟨b, o, c, rfl, hlt, hc, hcell⟩
  · simp at hk
  · refine ⟨.slice (some ⟨b, o + k * z, none⟩) 1 (c - k), fun W => ?_, .inr ⟨b, o + k * z, c - k, rfl, hlt, by simp; omega, fun j u hj => ?_⟩⟩
    · rw [run_slice_lh W _ _ _ _ hT _ _ _ _ (by omega) (by omega) (by omega)]
      have hck : c ≠ k := by omega
      have e1 : ((k : Int) + 1).toNat = k + 1 := by omega
      simp [hz, sliced, Result.andThen, hck, e1, add_at]
    · rw [List.flatMap_cons, List.flatMap_nil, List.append_nil] at hj
      have hjz : j < z := by
        have := (List.getElem?_eq_some_iff.1 hj).1
        rw [E.len] at this; exact this
      have := hcell (k * z + j) u (by rw [Go.Proofs.Ytpagoinnkknkfaa.Slc.flat_at E l k j hk hjz]; exact hj)
      rwa [← Nat.add_assoc] at this
end
theorem any_perm {C N : List En} (hp : (C.map cano).Perm (N.map cano)) {y : En} (hy : y ∈ N) : C.any (fun c => same1 y c) = true := by
  have h1 : cano y ∈ C.map cano := hp.mem_iff.2 (List.mem_map_of_mem hy)
  obtain ⟨c, hc, he⟩ := List.mem_map.1 h1
  exact List.any_eq_true.2 ⟨c, hc, same1_iff.2 he.symm⟩
set_option maxRecDepth 100000 in
set_option maxHeartbeats 4000000 in
theorem law_round (v : Value) (zs : List Int) (tm : Int) (w : World) (hI : Ints w .i64 v zs) :
    Calls Try.prog 12 #[v, .int .i64 tm] w fun e w' => e = .returned (.bool true) ∧ Below w.heap.size w w' := by
  have haw := awake_any
  have hnew := new_any w v zs w hI (Below.refl _ _)
  go_enter Try.func12, Try.ntmps12
  go_wp2_with fail
  refine hnew.mono ?_
  rintro e W1 ⟨rfl, hb1, hD1⟩
  clear hnew
  obtain ⟨g, hg⟩ : ∃ g, g = w.heap.size := ⟨_, rfl⟩
  rw [← hg] at hD1 hb1 ⊢
  have HG := Bx.mk hg
  have HB1 := Bx.mk hb1
  have hgl := hD1.lt
  clear hb1 hg
  have hm1 := made_any w v zs W1 g 10 true hD1 (by omega)
  clear hD1
  go_wp2_with fail
  refine hm1.mono ?_
  rintro e W2 ⟨xv, X, rfl, hX, lX, oX, hD2, hg2⟩
  clear hm1
  have hm2 := made_any w v zs W2 g 10 true hD2 (by omega)
  have hz2 := hg2.size
  clear hD2
  go_wp2_with fail
  refine hm2.mono ?_
  rintro e W3 ⟨yv, Y, rfl, hY, lY, oY, hD3, hg3⟩
  clear hm2
  have hX3 := (hX.grow hg3 hgl).el
  have hY3 := hY.el
  have HBW := Bx.mk (show Below w.heap.size w W3 from HG.out ▸ HB1.out.grown (hg2.trans hg3) (by omega) (fun k hk => by simp only [Option.some.injEq] at hk; omega))
  have HL := Bx.mk (diff_15 oX.mk_ oY.mk_ tm)
  have HX := Bx.mk hX3
  have HY := Bx.mk hY3
  obtain ⟨C0, hC0, hperm⟩ := round_plain (oX.pl rfl).1 (oY.pl rfl).1 (fun e he => by obtain ⟨x, hx, rfl⟩ := List.mem_map.1 he; exact (oX.pl rfl).2 x hx) (fun e he => by obtain ⟨x, hx, rfl⟩ := List.mem_map.1 he; exact (oY.pl rfl).2 x hx) tm
  have hlen0 : (sortE C0).length = Y.length := by
    rw [(sort_perm _).length_eq]
    have := hperm.length_eq
    simp only [List.length_map, ens] at this
    exact this
  have HC0 := Bx.mk hC0
  have HLEN := Bx.mk hlen0
  have HANY := Bx.mk (show ∀ y ∈ ens Y, (sortE C0).any (fun c => same1 y c) = true from fun y hy => any_perm (((sort_perm C0).map cano).trans hperm) hy)
  obtain ⟨xa, xc, rfl, -⟩ := hX3.rd.form
  obtain ⟨ya, yc, rfl, -⟩ := hY3.rd.form
  have hp := pdiff_len W3 _ _ X Y tm hX3 hY3 (by omega) (by omega) HL.out
  clear hX hY hX3 hY3 hg2 hg3 oX oY hD3 hz2 hC0 hperm hlen0
  go_wp2_with fail
  refine hp.mono ?_
  rintro e W4 ⟨dv, D, rfl, hD, eD, hb4⟩
  clear hp
  have HB4 := Bx.mk (HBW.out.trans (hb4.mono HBW.out.size))
  have hlD : D.length < 20 := by have h1 := congrArg List.length eD; have h2 := HL.out; simp only [ens, List.length_map] at h1 h2; omega
  have hq := pcomb_len W4 _ dv X D (HX.out.below hb4) hD.el (by omega) (by omega) (by rw [eD, HC0.out]; show (sortE C0).length < 20; have := HLEN.out; omega)
  rw [eD, HC0.out] at hq
  have HY4 := Bx.mk (HY.out.below hb4)
  clear hD eD hb4
  go_wp2_with fail
  refine hq.mono ?_
  rintro e W5 ⟨cv, C, rfl, hC, eC, hb5⟩
  clear hq
  have HB5 := Bx.mk (HB4.out.trans (hb5.mono HB4.out.size))
  have HY5 := Bx.mk (HY4.out.below hb5)
  have HC5 := Bx.mk hC.el
  have HEC := Bx.mk (show ∀ y ∈ ens Y, C.any (fun c => same1 y c.e) = true from fun y hy => by
    have := HANY.out y hy
    rw [← eC, ens, List.any_map] at this
    exact this)
  have hCY : C.length = Y.length := by have h1 := congrArg List.length eC; have h2 := HLEN.out; simp only [ens, List.length_map] at h1; omega
  have tl : ((C.length : Int) != (Y.length : Int)) = false := by simp; omega
  have hcl : C.length ≤ 10 := by omega
  obtain ⟨ca, cc, rfl, -⟩ := hC.el.rd.form
  clear hC eC hb5 hCY
  go_wp2_with fail
  go_loopw [10] (fun i w6 => ∃ n : Nat, i = .int .i64 n ∧ n ≤ Y.length ∧ Below W5.heap.size W5 w6) (fun i _ => Y.length - (intOf i).toNat)
  case atStart => exact ⟨0, rfl, by omega, Below.refl _ _⟩
  case round =>
    obtain ⟨n, rfl, hn, hb6⟩ := hrel
    have HB6 := Bx.mk hb6
    by_cases hlt : n < Y.length
    · obtain ⟨u1, hu1, hr1⟩ := rd_mid (P := Try.prog) encE_ok (HY5.out.below hb6).rd und_entries' size_entries n hlt
      have HE1 := Bx.mk (show EL wr u1 [Y[n]] from ⟨hr1, fun x hx => by rw [List.mem_singleton] at hx; subst hx; exact (HY5.out.below hb6).at_ _ (List.getElem_mem hlt)⟩)
      have HAN := Bx.mk (HEC.out (Y[n]).e (List.mem_map_of_mem (List.getElem_mem hlt)))
      have HC6 := Bx.mk (HC5.out.below hb6)
      obtain ⟨y, hy⟩ : ∃ y, y = Y[n] := ⟨_, rfl⟩
      rw [← hy] at HE1 HAN
      clear hb6 hr1 hy
      obtain ⟨wo, hwo⟩ : ∃ wo, wo = wr := ⟨_, rfl⟩
      subst hwo
      go_wp2_with fail
      go_loopw [11, 12] (fun fv kv w7 => ∃ (bb : Bool) (m : Nat), fv = .bool bb ∧ kv = .int .i64 m ∧ m ≤ C.length ∧ Bx (bb = (C.take m).any (fun c => same1 y.e c.e)) ∧ Below wo.heap.size wo w7) (fun _ kv _ => C.length - (intOf kv).toNat)
      case atStart => exact ⟨false, 0, rfl, rfl, by omega, ⟨by simp⟩, Below.refl _ _⟩
      case round =>
        obtain ⟨bb, m, rfl, rfl, hm, hbb, hb7⟩ := hrel
        have HB7 := Bx.mk hb7
        by_cases hltm : m < C.length
        · have HBS := Bx.mk (show (C.take (m + 1)).any (fun c => same1 y.e c.e) = (bb || same1 y.e (C[m]).e) by
            rw [List.take_succ_eq_append_getElem hltm, List.any_append, ← hbb.out]; simp)
          obtain ⟨u2, hu2, hr2⟩ := rd_mid (P := Try.prog) encE_ok (HC6.out.below hb7).rd und_entries' size_entries m hltm
          have HE2 := Bx.mk (show EL wr u2 [C[m]] from ⟨hr2, fun x hx => by rw [List.mem_singleton] at hx; subst hx; exact (HC6.out.below hb7).at_ _ (List.getElem_mem hltm)⟩)
          have hcall : ∀ e : Ext wr, Calls Try.prog 21 #[u1, u2] e.out fun r w' => r = .returned (.bool (same1 y.e (C[m]).e)) ∧ Below e.out.heap.size e.out w' := fun e => by
            have := rsameE_any e.out u1 u2 [y] [C[m]] ((HE1.out.below HB7.out).below e.bel) (HE2.out.below e.bel) (by simp) (by simp)
            rw [show sameB (ens [y]) (ens [C[m]]) = same1 y.e (C[m]).e by simp [ens, sameB]] at this
            exact this
          generalize same1 y.e (C[m]).e = sq at *
          clear hbb hb7 hr2
          cases bb with
          | true =>
            have HN := Bx.mk (show true = (C.take (m + 1)).any (fun c => same1 y.e c.e) by rw [HBS.out]; rfl)
            clear HBS
            go_wp2
            refine wp_region_self (by kernel_rfl) (by kernel_rfl) ?_
            repeat (go_big_quiet_step (fail))
            refine wpQuiet_nil ?_
            rintro _ ⟨e1, rfl⟩
            have HBE := Bx.mk (HB7.out.trans (e1.bel.mono HB7.out.size))
            clear hcall
            generalize e1.out = w8 at *
            go_wp2
            go_roundw
            case rel => exact ⟨true, m + 1, rfl, by go_num, by omega, HN, HBE.out⟩
            case measure => simp [intOf]; omega
          | false =>
            have HN := Bx.mk (show sq = (C.take (m + 1)).any (fun c => same1 y.e c.e) by rw [HBS.out]; rfl)
            clear HBS
            go_wp2
            refine wp_region_self (by kernel_rfl) (by kernel_rfl) ?_
            repeat (go_big_quiet_step (fail))
            go_big_quiet_step ((go_at_call 21; exact ext_of (hcall _)))
            repeat (go_big_quiet_step (fail))
            refine wpQuiet_nil ?_
            rintro _ ⟨e1, rfl⟩
            have HBE := Bx.mk (HB7.out.trans (e1.bel.mono HB7.out.size))
            clear hcall
            generalize e1.out = w8 at *
            go_wp2
            go_roundw
            case rel => exact ⟨sq, m + 1, rfl, by go_num, by omega, HN, HBE.out⟩
            case measure => simp [intOf]; omega
        · obtain rfl : m = C.length := by omega
          obtain rfl : bb = true := by rw [hbb.out, List.take_length]; exact HAN.out
          have HBN := Bx.mk (HB6.out.trans (hb7.mono HB6.out.size))
          clear hb7 hbb HAN
          go_wp2_with fail
          go_roundw
          case rel => exact ⟨n + 1, by go_num, by omega, HBN.out⟩
          case measure => simp [intOf]; omega
    · obtain rfl : n = Y.length := by omega
      have HB7 := Bx.mk (HB5.out.trans (hb6.mono HB5.out.size))
      clear hb6
      go_wp2_with (go_at_call 18; refine (haw _).mono ?_; rintro e w8 ⟨rfl, hb8⟩)
      have HB8 := Bx.mk (HB7.out.trans (hb8.mono HB7.out.size))
      clear hb8
      go_wp2
      go_ret
      exact ⟨rfl, HB8.out⟩
end Go.Proofs.Ytpagoinnkknkfaa.Pb
