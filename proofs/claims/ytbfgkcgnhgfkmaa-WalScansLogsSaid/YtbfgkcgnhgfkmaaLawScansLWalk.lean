/-
  The walk of WalScansLogs: it returns true.
-/
import Derived.Test.YtbfgkcgnhgfkmaaLawScansBWalk
import Derived.Test.YtbfgkcgnhgfkmaaWlR
import Derived.Laws.DeepStrings4
namespace Go.Proofs.Ytbfgkcgnhgfkmaa.Wl
open Go Go.RowKit Go.Proofs.Ytbfgkcgnhgfkmaa.Slc Go.Proofs.Ytbfgkcgnhgfkmaa.Hs
open Go.Proofs.Ytbfgkcgnhgfkmaa.Dk (Fr ptr bstr bstr_size bstr_list bstr_back same_any i64ok small_any)
set_option linter.unusedVariables false
set_option linter.unusedSimpArgs false

/-- the world behind a conversion of a string to bytes, and the capacity of the new slice -/
def capOf (w : World) (s : ByteArray) : Nat := grownCap w s.size 0 5
def bytesWorld (w : World) (s : ByteArray) : World :=
  w.drew.alloc (.cells (bytesRow s (capOf w s)) 5 ((bytesRow s (capOf w s)).size, (bytesRow s (capOf w s)).size + 1))
theorem bytes_of (w : World) (s : ByteArray) : (convert 9 65 (.string s)).run Try.prog w = .ok (.slice (some ⟨w.heap.size, 0, none⟩) s.size (capOf w s)) (bytesWorld w s) :=
  run_bytes_of_string w _ _ _ s Try.underlying9 Try.underlying65 Try.underlying5
theorem bytes_below (w : World) (s : ByteArray) : Below w.heap.size w (bytesWorld w s) := (Below.refl _ _).drew.alloc (Nat.le_refl _) _
theorem bytes_cell (w : World) (s : ByteArray) (k : Nat) (h : k < s.size) : (bytesWorld w s).cell? ⟨w.heap.size, k, none⟩ = some (.int .u8 (s[k].toNat : Int)) := by
  refine (World.cell?_alloc_mark w.drew _ _ _ k).trans ?_
  unfold bytesRow
  have hk : k < (s.data.map (fun b => Value.int .u8 b.toNat)).size := by simpa using h
  rw [Array.getElem?_append_left hk]
  rw [Array.getElem?_eq_getElem hk, Array.getElem_map]
  rfl
theorem bytes_free (w : World) (s : ByteArray) (k : Nat) (h : k < s.size) : (bytesWorld w s).frozen? ⟨w.heap.size, k, none⟩ = false := by
  have hb : (bytesWorld w s).heap[w.heap.size]? = some (.cells (bytesRow s (capOf w s)) 5 ((bytesRow s (capOf w s)).size, (bytesRow s (capOf w s)).size + 1)) := heap_alloc_new w.drew _
  have hz : s.size ≤ (bytesRow s (capOf w s)).size := by
    unfold bytesRow
    rw [Array.size_append, Array.size_map]
    exact Nat.le_add_right _ _
  unfold World.frozen?
  rw [hb]
  simp only [Bool.and_eq_false_iff, decide_eq_false_iff_not]
  left; omega
theorem bytes_at (b : B) (k : Nat) (h : k < (bstr b).size) (h2 : k < b.length) : (bstr b)[k] = b[k] := by
  show (b.toArray)[k]'(by simpa using h2) = b[k]
  simp
theorem rd_five {w : World} {g : Nat} {a b c d e : B} (h : w.heap[g]? = some (.cells #[.string (bstr a), .string (bstr b), .string (bstr c), .string (bstr d), .string (bstr e)] 9 (0, 0))) : Rd w Dk.encS (.slice (some ⟨g, 0, none⟩) 5 5) [a, b, c, d, e] := by
  refine .inr ⟨g, 0, 5, rfl, lt_of_block h, Nat.le_refl _, fun j u hj => ?_⟩
  rw [show 0 + j = j by omega, cell_of_row _ _ j _ _ _ h]
  simpa [Dk.encS] using hj

set_option maxHeartbeats 4000000 in
set_option maxRecDepth 10000 in
theorem law_scansl (v : Value) (l : List B) (cut at_ to_ : Int) (MO : ByteArray) (w : World) (hcut : i64ok cut) (hat : i64ok at_) (hto : 0 ≤ to_ ∧ to_ ≤ 255) (hz : MO.size ≤ 140737488355328) (hR : Rq w v l) (hl : l.length ≤ 9223372036854775807) (hx : ∀ x ∈ l, x.length ≤ 9223372036854775807) :
    Calls Try.prog 12 #[v, .int .i64 cut, .int .i64 at_, .int .u8 to_, .string MO] w fun e w' => e = .returned (.bool true) ∧ Below w.heap.size w w' := by
  obtain ⟨M, rfl⟩ : ∃ b, MO = bstr b := ⟨_, (bstr_back MO).symm⟩
  rw [bstr_size] at hz
  have hms : (bstr M).size = M.length := bstr_size M
  have hsh := wshort_any w v l hR hl hx
  have HAW := Lib.hid (fun W => wawake_any W)
  obtain ⟨ad, c, rfl⟩ := hR.form
  have HA := Lib.hid hR
  by_cases hs : shortS l = true ∧ M.length ≤ 200
  · rw [hs.1] at hsh
    have t1 : decide ((M.length : Int) > 200) = false := by rw [decide_eq_false_iff_not]; omega
    have hj := join_any w _ l hR hs.1
    have hM200 := hs.2
    obtain ⟨hll, hxl⟩ := shortS_len hs.1
    obtain ⟨J, hJ⟩ : ∃ J, J = joinB 0 l := ⟨_, rfl⟩
    have hjl := joinB_len 200 l 0 hxl
    rw [← hJ] at hj hjl
    have hjb : J.length ≤ 4160 := by omega
    have hsm1 := fun W => small_any cut ((J.length : Int) + 1) W hcut.1 hcut.2 (by omega) (by omega)
    obtain ⟨N, hN⟩ : ∃ N : Nat, (N : Int) = cut % ((J.length : Int) + 1) := ⟨(cut % ((J.length : Int) + 1)).toNat, by have := Int.emod_nonneg cut (show (J.length : Int) + 1 ≠ 0 by omega); omega⟩
    have hNl : N ≤ J.length := by have := Int.emod_lt_of_pos cut (show (0 : Int) < (J.length : Int) + 1 by omega); omega
    rw [← hN] at hsm1
    have hsm2 := fun (W : World) (hp : 0 < J.length) => small_any at_ (J.length : Int) W hat.1 hat.2 (by omega) (by omega)
    have hN2 : 0 < J.length → ∃ p : Nat, (p : Int) = at_ % (J.length : Int) ∧ p < J.length := fun hp => ⟨(at_ % (J.length : Int)).toNat, by have := Int.emod_nonneg at_ (show (J.length : Int) ≠ 0 by omega); omega, by have := Int.emod_lt_of_pos at_ (show (0 : Int) < (J.length : Int) by omega); omega⟩
    have s1 := take_b J (J.length - N) (by omega)
    rw [show ((J.length - N : Nat) : Int) = (J.length : Int) - (N : Int) by omega] at s1
    obtain ⟨C, hC⟩ : ∃ C, C = J.take (J.length - N) := ⟨_, rfl⟩
    rw [← hC] at s1
    have hCl : C.length ≤ 4160 := by rw [hC, List.length_take]; omega
    have hcat1 := cat_b J M (by omega)
    have hcat2 := cat_b C M (by omega)
    have HSM1 := Lib.hid hsm1
    have HSM2 := Lib.hid hsm2
    have HN2 := Lib.hid hN2
    have HJ := Lib.hid hj
    have hjs := bstr_size J
    clear hR hl hx hs hj hjl hsm1 hsm2 hN hN2 hC hxl hJ
    generalize hMM : bstr M = MM at *
    have HMM := Bx.mk hMM
    generalize hJS : bstr J = JS at *
    have HJS := Bx.mk hJS
    generalize hCS : bstr C = CS at *
    have HCS := Bx.mk hCS
    generalize hJM : bstr (J ++ M) = JM at *
    have HJM := Bx.mk hJM
    generalize hCM : bstr (C ++ M) = CM at *
    have HCM := Bx.mk hCM
    clear hMM hJS hCS hJM hCM
    generalize hJL : J.length = JL at *
    have HJL := Bx.mk hJL
    clear hJL
    go_enter Try.func12, Try.ntmps12
    go_wp2_with fail
    go_at_call 46
    refine hsh.mono ?_
    rintro e w' ⟨rfl, rfl⟩
    go_wp2_with fail
    go_at_call 47
    refine HJ.out.mono ?_
    rintro e w1 ⟨rfl, hb1⟩
    have HB1 := Lib.hid hb1
    clear hb1
    go_wp2_with fail
    go_at_call 23
    refine (HSM1.out w1).mono ?_
    rintro e w' ⟨rfl, rfl⟩
    have hcv := bytes_of w1 JS
    rw [hjs] at hcv
    have HB2 := Lib.hid (HB1.out.trans ((bytes_below w1 JS).mono HB1.out.size))
    have HBC := Lib.hid (fun k h => bytes_cell w1 JS k h)
    have HBF := Lib.hid (fun k h => bytes_free w1 JS k h)
    have HZ2 := Lib.hid (show w1.heap.size < (bytesWorld w1 JS).heap.size by unfold bytesWorld; simp)
    generalize capOf w1 JS = cp at *
    generalize bytesWorld w1 JS = W2 at *
    generalize hg : w1.heap.size = g at *
    have HG1 := Lib.hid (show w.heap.size ≤ g by rw [← hg]; exact HB1.out.size)
    clear hg
    go_upto_if 47 with fail
    clear hcv
    go_cut [13] (fun s13 wc => s13 = .slice (some ⟨g, 0, none⟩) JL cp ∧ Below w.heap.size w wc ∧ ∃ bb : B, bb.length = JL ∧ ∀ j (hj : j < bb.length), wc.cell? ⟨g, j, none⟩ = some (.int .u8 (bb[j].toNat : Int)))
    case first =>
      by_cases hp : 0 < JL
      · obtain ⟨p, hpe, hpl⟩ := HN2.out hp
        have hsm := HSM2.out W2 hp
        rw [← hpe] at hsm
        have f1 := HBF.out p (by rw [hjs]; exact hpl)
        have c1 := HBC.out p (by rw [hjs]; exact hpl)
        have t2 : decide ((JL : Int) > 0) = true := by rw [decide_eq_true_eq]; omega
        have HW3 := Lib.hid (show Below w.heap.size w (W2.setCell ⟨g, p, none⟩ (.int .u8 to_)) from HB2.out.setCell (p := ⟨g, p, none⟩) HG1.out _)
        have HC3 := Lib.hid (show ∃ bb : B, bb.length = JL ∧ ∀ j (hj : j < bb.length), (W2.setCell ⟨g, p, none⟩ (.int .u8 to_)).cell? ⟨g, j, none⟩ = some (.int .u8 (bb[j].toNat : Int)) from by
          refine ⟨J.set p (UInt8.ofNat to_.toNat), by rw [List.length_set]; exact HJL.out, fun j hj => ?_⟩
          by_cases e : j = p
          · subst e
            rw [World.cell?_setCell_same _ _ _ c1, List.getElem_set_self]
            congr 2
            rw [UInt8.toNat_ofNat']
            omega
          · rw [List.getElem_set_ne (Ne.symm e)]
            have hj2 : j < J.length := by rw [List.length_set] at hj; exact hj
            have hj3 : j < JS.size := by rw [hjs, ← HJL.out]; exact hj2
            rw [World.cell?_setCell_other _ _ _ _ (fun q => e (by injection q with _ q2 _; exact q2.symm)), HBC.out j hj3, show JS[j] = J[j] from by have e := HJS.out; subst e; exact bytes_at J j hj3 hj2])
        have HSM := Lib.hid hsm
        obtain ⟨u, hu⟩ : ∃ u : Int, W2.cell? ⟨g, p, none⟩ = some (.int .u8 u) := ⟨_, c1⟩
        clear hp hpe hsm c1
        go_wp2_with fail
        go_at_call 23
        refine HSM.out.mono ?_
        rintro e w' ⟨rfl, rfl⟩
        go_wp2_with fail
        go_meet
        exact ⟨rfl, HW3.out, HC3.out⟩
      · have t2 : decide ((JL : Int) > 0) = false := by rw [decide_eq_false_iff_not]; omega
        have HC3 := Lib.hid (show ∃ bb : B, bb.length = JL ∧ ∀ j (hj : j < bb.length), W2.cell? ⟨g, j, none⟩ = some (.int .u8 (bb[j].toNat : Int)) from ⟨[], by simp; omega, fun j hj => by simp at hj⟩)
        go_wp2_with fail
        go_meet
        exact ⟨rfl, HB2.out, HC3.out⟩
    case rest =>
      obtain ⟨rfl, hb3, bb, hbl, hcell⟩ := hcut
      have hcv := run_convert_bytes_back (P := Try.prog) wc 65 9 5 ⟨g, 0, none⟩ cp bb Try.underlying65 Try.underlying5 Try.underlying9 (fun j hj => by rw [add_at, Nat.zero_add]; exact hcell j hj)
      rw [hbl] at hcv
      have HB3 := Lib.hid hb3
      have HAL := Lib.hid (show ∀ y ∈ [J, C, bb, J ++ M, C ++ M], y.length ≤ 10000 from by
        intro y hy
        have h1 := HJL.out
        simp only [List.mem_cons, List.not_mem_nil, or_false] at hy
        rcases hy with rfl | rfl | rfl | rfl | rfl
        · omega
        · omega
        · omega
        · rw [List.length_append]; omega
        · rw [List.length_append]; omega)
      have HRD := Lib.hid (show ∀ (x1 x2 x3 x4 x5 : ByteArray), x1 = JS → x2 = CS → x3 = bstr bb → x4 = JM → x5 = CM → Rd (wc.alloc (.cells #[.string x1, .string x2, .string x3, .string x4, .string x5] 9)) Dk.encS (.slice (some ⟨wc.heap.size, 0, none⟩) 5 5) [J, C, bb, J ++ M, C ++ M] from by
        intro x1 x2 x3 x4 x5 e1 e2 e3 e4 e5
        rw [e1, e2, e3, e4, e5, ← HJS.out, ← HCS.out, ← HJM.out, ← HCM.out]
        exact rd_five (heap_alloc_new _ _))
      have hcv2 : (convert 65 9 (.slice (some ⟨g, 0, none⟩) JL cp)).run Try.prog wc = .ok (.string (bstr bb)) wc := hcv
      clear hcv
      generalize hBS : bstr bb = BS at *
      have HRD2 := Lib.hid (HRD.out JS CS BS JM CM rfl rfl rfl rfl rfl)
      have HB4 := Lib.hid (hb3.alloc hb3.size (.cells #[.string JS, .string CS, .string BS, .string JM, .string CM] 9))
      obtain ⟨A, hA⟩ : ∃ A, A = [J, C, bb, J ++ M, C ++ M] := ⟨_, rfl⟩
      have hA5 : A.length = 5 := by rw [hA]; rfl
      rw [← hA] at HRD2 HAL
      have HA5 := Bx.mk hA5
      clear hb3 hcell hbl hBS hA hA5 HRD
      go_wp2_with fail
      generalize wc.alloc (.cells #[.string JS, .string CS, .string BS, .string JM, .string CM] 9) = W4 at *
      generalize wc.heap.size = g4 at *
      clear hcv2 hcat1 hcat2 s1
      go_loopw [15, 16, 17, 18, 19, 20, 21] (fun i _ _ _ _ _ _ wr => ∃ k : Nat, k ≤ 5 ∧ i = .int .i64 (k : Int) ∧ Rd wr Dk.encS (.slice (some ⟨g4, 0, none⟩) 5 5) A ∧ Below w.heap.size w wr) (fun i _ _ _ _ _ _ _ => 5 - (intOf i).toNat)
      case atStart => exact ⟨0, by omega, rfl, HRD2.out, HB4.out⟩
      case round =>
        obtain ⟨k, hk, rfl, hrd, hb⟩ := hrel
        have HB := Lib.hid hb
        have HRK := Lib.hid hrd
        by_cases hlt : k < 5
        · have hltA : k < A.length := by rw [HA5.out]; exact hlt
          obtain ⟨b, o, c', hvf, -, hbl, hcell⟩ := hrd.cells Dk.encS_ok (by omega)
          simp only [Value.slice.injEq, Option.some.injEq, Addr.mk.injEq, and_true] at hvf
          obtain ⟨⟨rfl, rfl⟩, -, rfl⟩ := hvf
          have hcl := hcell wr (fun _ _ => rfl) k hltA 0 _ (by omega) rfl
          simp only [Nat.mul_one, Nat.add_zero, Nat.zero_add] at hcl
          have hyl := HAL.out _ (List.getElem_mem hltA)
          have hsc1 := scan_any A[k] wr (by omega)
          have HS2 := Lib.hid (fun W => rscan_any A[k] W (by omega))
          have hln := scanB_len A[k]
          clear hcell hrd hb
          generalize hys : bstr A[k] = YS at *
          cases hsb : scanB A[k] with
          | none =>
            rw [hsb] at hsc1 HS2
            have HS1 := Lib.hid hsc1
            have HSM := Lib.hid (fun W => same_any W (.slice none 0 0) (.slice none 0 0) [] [] (Rd.nil W) (Rd.nil W) (by simp) (by simp))
            clear hsc1 hsb hln hyl hys
            go_wp2_with fail
            go_at_call 44
            refine HS1.out.mono ?_
            rintro e w5 ⟨rfl, hb5⟩
            have hcl2 : w5.cell? ⟨g4, k, none⟩ = some (.string YS) := (hb5.cell (p := ⟨g4, k, none⟩) hbl).trans hcl
            have HB5 := Lib.hid (HB.out.trans (hb5.mono HB.out.size))
            have HK5 := Lib.hid (HRK.out.below hb5)
            clear hb5 hcl
            go_wp2_with fail
            go_at_call 45
            refine (HS2.out _).mono ?_
            rintro e w6 ⟨rfl, hb6⟩
            have HB6 := Lib.hid (HB5.out.trans (hb6.mono HB5.out.size))
            have HK6 := Lib.hid (HK5.out.below hb6)
            clear hb6 hcl2
            go_wp2_with fail
            go_at_call 32
            refine (HSM.out _).mono ?_
            rintro e w7 ⟨rfl, hb7⟩
            have HB7 := Lib.hid (HB6.out.trans (hb7.mono HB6.out.size))
            have HK7 := Lib.hid (HK6.out.below hb7)
            clear hb7
            simp only [decide_true]
            go_wp2_with fail
            go_roundw
            case rel => exact ⟨k + 1, by omega, by go_num, HK7.out, HB7.out⟩
            case measure => simp [intOf]; omega
          | some r =>
            obtain ⟨recs, n⟩ := r
            have hl2 := hln _ hsb
            simp only at hl2
            rw [hsb] at hsc1 HS2
            have HS1 := Lib.hid hsc1
            have HSM := Lib.hid (fun W va vb ha hb => same_any W va vb recs recs ha hb (by omega) (by omega))
            clear hsc1 hsb hln hyl hl2 hys
            go_wp2_with fail
            go_at_call 44
            refine HS1.out.mono ?_
            rintro e w5 ⟨va, rfl, hva, hb5⟩
            obtain ⟨aa, ca, hfa, -⟩ := hva.rd.form
            subst hfa
            have HVA := Lib.hid hva.rd
            have hcl2 : w5.cell? ⟨g4, k, none⟩ = some (.string YS) := (hb5.cell (p := ⟨g4, k, none⟩) hbl).trans hcl
            have HB5 := Lib.hid (HB.out.trans (hb5.mono HB.out.size))
            have HK5 := Lib.hid (HRK.out.below hb5)
            clear hb5 hcl hva
            go_wp2_with fail
            go_at_call 45
            refine (HS2.out _).mono ?_
            rintro e w6 ⟨vb, rfl, hvb, hb6⟩
            obtain ⟨ab, cb, hfb, -⟩ := hvb.rd.form
            subst hfb
            have hsm := HSM.out w6 _ _ (HVA.out.below hb6) hvb.rd
            have HSA := Lib.hid hsm
            have HB6 := Lib.hid (HB5.out.trans (hb6.mono HB5.out.size))
            have HK6 := Lib.hid (HK5.out.below hb6)
            clear hb6 hcl2 hvb hsm
            go_wp2_with fail
            go_at_call 32
            refine HSA.out.mono ?_
            rintro e w7 ⟨rfl, hb7⟩
            have HB7 := Lib.hid (HB6.out.trans (hb7.mono HB6.out.size))
            have HK7 := Lib.hid (HK6.out.below hb7)
            clear hb7
            simp only [decide_true]
            go_wp2_with fail
            go_roundw
            case rel => exact ⟨k + 1, by omega, by go_num, HK7.out, HB7.out⟩
            case measure => simp [intOf]; omega
        · obtain rfl : k = 5 := by omega
          clear hrd hb
          go_wp2_with fail
          go_at_call 43
          refine (HAW.out _).mono ?_
          rintro e w8 ⟨rfl, hb8⟩
          have HB8 := Lib.hid (HB.out.trans (hb8.mono HB.out.size))
          clear hb8
          go_wp2
          go_ret
          exact ⟨rfl, HB8.out⟩
  · cases hs1 : shortS l with
    | false =>
      rw [hs1] at hsh
      clear hR hl hx hs
      generalize bstr M = MM at *
      go_enter Try.func12, Try.ntmps12
      go_wp2_with fail
      go_at_call 46
      refine hsh.mono ?_
      rintro e w' ⟨rfl, rfl⟩
      go_wp2_with fail
      go_at_call 43
      refine (HAW.out _).mono ?_
      rintro e w' ⟨rfl, hb⟩
      go_wp2
      go_ret
      exact ⟨rfl, hb⟩
    | true =>
      rw [hs1] at hsh
      have t1 : decide ((M.length : Int) > 200) = true := by rw [decide_eq_true_eq]; have : ¬ M.length ≤ 200 := fun q => hs ⟨hs1, q⟩; omega
      clear hR hl hx hs
      generalize bstr M = MM at *
      go_enter Try.func12, Try.ntmps12
      go_wp2_with fail
      go_at_call 46
      refine hsh.mono ?_
      rintro e w' ⟨rfl, rfl⟩
      go_wp2_with fail
      go_at_call 43
      refine (HAW.out _).mono ?_
      rintro e w' ⟨rfl, hb⟩
      go_wp2
      go_ret
      exact ⟨rfl, hb⟩
end Go.Proofs.Ytbfgkcgnhgfkmaa.Wl
