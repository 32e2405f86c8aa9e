/-
  The walk of WalScanReturnsRecords: it returns true.
-/
import Derived.Test.YtbfgkcgnhgfkmaaWlR
namespace Go.Proofs.Ytbfgkcgnhgfkmaa.Wl
open Go Go.RowKit Go.Proofs.Ytbfgkcgnhgfkmaa.Slc Go.Proofs.Ytbfgkcgnhgfkmaa.Hs
open Go.Proofs.Ytbfgkcgnhgfkmaa.Dk (Fr ptr bstr bstr_size bstr_list bstr_back same_any i64ok small_any und_strs' size_strs)
set_option linter.unusedVariables false
set_option linter.unusedSimpArgs false

def encN (c : Nat) : List Value := [.int .i64 (c : Int)]
theorem encN_ok : Enc 1 encN := ⟨fun c => rfl, fun c u hu => by simp [encN] at hu; subst hu; rfl, by decide⟩
theorem und_ints : Try.prog.underlying 69 = some (.slice 3) := by kernel_rfl
theorem info_int : (Try.prog.info? 3).map (fun i => (i.zero, i.size, i.bytes)) = some (some (.int .i64 0), 1, 8) := by kernel_rfl
theorem src_int {w : World} {x : Nat} {p : Nat} (h : w.heap[x]? = some (.cells #[.int .i64 (p : Int)] 3 (0, 0))) : SrcV w 1 (.slice (some ⟨x, 0, none⟩) 1 1) 1 ([p].flatMap encN) := by
  refine .ro _ _ _ _ rfl (fun j u hj => ?_) (one_mem encN_ok _)
  cases j with
  | zero => simp [encN] at hj; subst hj; rw [add_at]; simpa using cell_of_row _ _ 0 _ _ _ h
  | succ j => simp [encN] at hj
/-- where the records end -/
def ends (l : List B) (k : Nat) : List Nat := (List.range k).map fun j => (joinB 0 (l.take (j + 1))).length
theorem ends_len (l : List B) (k : Nat) : (ends l k).length = k := by simp [ends]
theorem ends_snoc (l : List B) (k : Nat) : ends l (k + 1) = ends l k ++ [(joinB 0 (l.take (k + 1))).length] := by simp [ends, List.range_succ]
theorem ends_at (l : List B) (k j : Nat) (h : j < (ends l k).length) : (ends l k)[j] = (joinB 0 (l.take (j + 1))).length := by simp [ends]
theorem joinB_mono (l : List B) (i j : Nat) (h : i ≤ j) : (joinB 0 (l.take i)).length ≤ (joinB 0 (l.take j)).length := by
  have e : l.take j = l.take i ++ (l.take j).drop i := by
    have := (List.take_append_drop i (l.take j)).symm
    rwa [List.take_take, Nat.min_eq_left h] at this
  rw [e, joinB_append, List.length_append]; omega

set_option maxHeartbeats 4000000 in
set_option maxRecDepth 10000 in
theorem law_scanr (v : Value) (l : List B) (cut : Int) (w : World) (hcut : i64ok cut) (hR : Rq w v l) (hl : l.length ≤ 9223372036854775807) (hx : ∀ x ∈ l, x.length ≤ 9223372036854775807) :
    Calls Try.prog 14 #[v, .int .i64 cut] w fun e w' => e = .returned (.bool true) ∧ Below w.heap.size w w' := by
  have hsh := wshort_any w v l hR hl hx
  have HAW := Lib.hid (fun W => wawake_any W)
  obtain ⟨ad, c, rfl⟩ := hR.form
  have HA := Lib.hid hR
  have c1 := hcut.1
  have c2 := hcut.2
  cases hs : shortS l with
  | false =>
    rw [hs] at hsh
    clear hR hl hx hs
    go_enter Try.func14, Try.ntmps14
    go_wp2_with fail
    go_at_call 46
    refine hsh.mono ?_
    rintro e w' ⟨rfl, rfl⟩
    go_wp2_with fail
    go_at_call 43
    refine (HAW.out _).mono ?_
    rintro e w' ⟨rfl, hb⟩
    go_wp2
    go_ret
    exact ⟨rfl, hb⟩
  | true =>
    rw [hs] at hsh
    obtain ⟨hll, hxl⟩ := shortS_len hs
    obtain ⟨i0, hi0, hz0, hz1, hz2'⟩ := info_parts info_int
    have HX := Lib.hid hxl
    have h0 : (bstr (joinB 0 (l.take 0)) : ByteArray) = ⟨#[]⟩ := by rw [List.take_zero]; rfl
    have HJL := Lib.hid (joinB_len 200 l 0 hxl)
    clear hR hl hx hs hxl
    go_enter Try.func14, Try.ntmps14
    go_wp2_with fail
    go_at_call 46
    refine hsh.mono ?_
    rintro e w' ⟨rfl, rfl⟩
    go_wp2_with fail
    go_loopw [5, 6, 7, 8, 9] (fun s ev i _ _ wr => ∃ k : Nat, k ≤ l.length ∧ i = .int .i64 (k : Int) ∧ s = .string (bstr (joinB 0 (l.take k))) ∧ Own wr w.heap.size 3 1 encN ev (ends l k) ∧ Below w.heap.size w wr) (fun _ _ i _ _ _ => l.length - (intOf i).toNat)
    case atStart => exact ⟨0, Nat.zero_le _, rfl, by rw [h0], Own.nil _ _, Below.refl _ _⟩
    case round =>
      obtain ⟨k, hk, rfl, rfl, hown, hb⟩ := hrel
      have HB := Lib.hid hb
      obtain ⟨E, hE⟩ : ∃ E, E = ends l k := ⟨_, rfl⟩
      rw [← hE] at hown
      have HEE := Bx.mk hE
      have hEl : E.length = k := by rw [hE]; exact ends_len l k
      obtain ⟨av, cv, hfv, -⟩ := hown.rd.form
      subst hfv
      by_cases hlt : k < l.length
      · obtain ⟨b, o, c', hvf, -, hbl, hcell⟩ := ((HA.out.below hb).rd (by omega)).cells Dk.encS_ok (by omega)
        simp only [Value.slice.injEq, true_and] at hvf
        obtain ⟨rfl, rfl⟩ := hvf
        have hcl := hcell wr (fun _ _ => rfl) k hlt 0 _ (by omega) rfl
        simp only [Nat.mul_one, Nat.add_zero] at hcl
        have hxl := HX.out _ (List.getElem_mem hlt)
        have hfr := Frame_any (k : Int) l[k] wr (by omega) (by omega)
        rw [frameR_ok k l[k] (by omega)] at hfr
        have hjl := joinB_len 200 (l.take k) 0 fun x hx => HX.out x (List.mem_of_mem_take hx)
        have hjl2 := joinB_len 200 (l.take (k + 1)) 0 fun x hx => HX.out x (List.mem_of_mem_take hx)
        rw [List.length_take] at hjl hjl2
        have hfl := frameB_len k l[k]
        have hcat := cat_b (joinB 0 (l.take k)) (frameB k l[k]) (by omega)
        rw [show joinB 0 (l.take k) ++ frameB k l[k] = joinB 0 (l.take (k + 1)) by
          rw [List.take_succ_eq_append_getElem hlt, joinB_snoc, List.length_take, Nat.zero_add, Nat.min_eq_left (by omega)]] at hcat
        have HFR := Lib.hid hfr
        have hfs : (bstr (frameB k l[k])).size = l[k].length + 8 := by rw [bstr_size, frameB_len]
        have hxs := bstr_size l[k]
        have hjs := bstr_size (joinB 0 (l.take (k + 1)))
        have HEN := Lib.hid (ends_snoc l k)
        have HO := Lib.hid hown
        generalize hp : (joinB 0 (l.take (k + 1))).length = p at *
        have HP := Bx.mk hp
        have hEb : E.length ≤ 20 := by omega
        clear hcell hfr hjl hfl hb hown hE hp hEl
        generalize bstr (frameB k l[k]) = FB at *
        generalize l[k].length = ln at *
        generalize bstr l[k] = X at *
        generalize bstr (joinB 0 (l.take k)) = J0 at *
        generalize hJ1 : bstr (joinB 0 (l.take (k + 1))) = J1 at *
        have HJ1 := Bx.mk hJ1
        clear hJ1
        go_wp2_with fail
        go_at_call 48
        refine HFR.out.mono ?_
        rintro e w2 ⟨rfl, hb2⟩
        have hcl2 : w2.cell? ⟨b, o + k, none⟩ = some (.string X) := (hb2.cell (p := ⟨b, o + k, none⟩) hbl).trans hcl
        have HB2 := Lib.hid (HB.out.trans (hb2.mono HB.out.size))
        have ho2 := (HO.out.below hb2).below (w' := w2.alloc (.cells #[.int .i64 (p : Int)] 3)) ((Below.refl _ _).alloc (Nat.le_refl _) _)
        have hs2 := src_int (heap_alloc_new w2 (.cells #[.int .i64 (p : Int)] 3))
        have hz2 : w.heap.size ≤ (w2.alloc (.cells #[.int .i64 (p : Int)] 3)).heap.size := by have := HB2.out.size; simp; omega
        have HB3 := Lib.hid (HB2.out.alloc HB2.out.size (.cells #[.int .i64 (p : Int)] 3))
        have HO2 := Lib.hid ho2
        clear hb2 hcl
        go_wp2_with (at_builtin; refine wpList_append_any rfl _ _ _ rfl w.heap.size 3 i0 _ 1 8 und_ints hi0 hz0 hz1 hz2' rfl (by decide) _ E.length (E.flatMap encN) rfl ho2 _ 1 ([p].flatMap encN) rfl hs2 (by unfold maxLen; omega) (by omega) hz2 ?_)
        intro v3 w3 hap
        have ho3 : Own w3 w.heap.size 3 1 encN v3 (ends l (k + 1)) := by
          rw [HEN.out, ← HEE.out]
          exact Own.apd (l := E) (m := [p]) HO2.out rfl rfl rfl rfl hap
        have HO3 := Lib.hid ho3
        have HB4 := Lib.hid (HB3.out.trans ((Fr.grown (F := fun k => w.heap.size ≤ k) hap.grown fun k hk _ => (World.ownsRow.lt HO2.out k hk).1).toBelow hz2 fun k hk => hk))
        clear ho3 hap ho2 hs2
        go_wp2_with fail
        go_roundw
        case rel => exact ⟨k + 1, by omega, by go_num, by rw [HJ1.out], HO3.out, HB4.out⟩
        case measure => simp [intOf]; omega
      · obtain rfl : k = l.length := by omega
        rw [List.take_length]
        obtain ⟨J, hJ⟩ : ∃ J, J = joinB 0 l := ⟨_, rfl⟩
        rw [← hJ]
        have hjl := HJL.out
        rw [← hJ] at hjl
        have hsm := small_any cut ((J.length : Int) + 1) wr c1 c2 (by omega) (by omega)
        obtain ⟨N, hN⟩ : ∃ N : Nat, (N : Int) = cut % ((J.length : Int) + 1) := ⟨(cut % ((J.length : Int) + 1)).toNat, by have := Int.emod_nonneg cut (show (J.length : Int) + 1 ≠ 0 by omega); omega⟩
        have hNl : N ≤ J.length := by have := Int.emod_lt_of_pos cut (show (0 : Int) < (J.length : Int) + 1 by omega); omega
        rw [← hN] at hsm
        have HSM := Lib.hid hsm
        have hjs := bstr_size J
        have HTK := Lib.hid (take_b J N hNl)
        have hrd := hown.rd
        rw [hEl] at hrd ⊢
        have HRD := Lib.hid hrd
        have HJ := Bx.mk hJ
        have HNL := Lib.hid hNl
        have HEL := Bx.mk hEl
        clear hsm hown hb hE hJ hN hEl hrd
        generalize hJS : bstr J = JS at *
        have HJS := Bx.mk hJS
        clear hJS
        generalize hJL : J.length = JL at *
        have HJLL := Bx.mk hJL
        clear hJL
        go_wp2_with fail
        go_at_call 23
        refine HSM.out.mono ?_
        rintro e w' ⟨rfl, rfl⟩
        go_upto_block 2 with fail
        go_cut [11] (fun s11 wc => ∃ k : Nat, s11 = .int .i64 (k : Int) ∧ k ≤ l.length ∧ (joinB 0 (l.take k)).length ≤ N ∧ (k < l.length → N < (joinB 0 (l.take (k + 1))).length) ∧ wc = wr)
        case first =>
          go_wp2_with fail
          go_loop [11] (fun i => ∃ k : Nat, k ≤ l.length ∧ i = .int .i64 (k : Int) ∧ (joinB 0 (l.take k)).length ≤ N) (fun i => l.length - (intOf i).toNat)
          case atStart => exact ⟨0, Nat.zero_le _, rfl, by simp [joinB]⟩
          case round =>
            obtain ⟨k, hk, rfl, hle⟩ := hrel
            have HLE := Lib.hid hle
            clear hle
            by_cases hlt : k < l.length
            · obtain ⟨b, o, c', hvf, -, hbl, hcell⟩ := HRD.out.cells encN_ok (by rw [HEL.out]; omega)
              simp only [Value.slice.injEq] at hvf
              obtain ⟨rfl, -, rfl⟩ := hvf
              have hcl := hcell wr (fun _ _ => rfl) k (by rw [HEL.out]; omega) 0 _ (by omega) rfl
              simp only [Nat.mul_one, Nat.add_zero] at hcl
              have hat : E[k]'(by rw [HEL.out]; omega) = (joinB 0 (l.take (k + 1))).length := by
                have := HEE.out
                subst this
                exact ends_at l _ k _
              rw [hat] at hcl
              generalize hq : (joinB 0 (l.take (k + 1))).length = q at *
              have HQ := Bx.mk hq
              clear hcell hat hq
              by_cases hqn : q ≤ N
              · have t1 : decide ((q : Int) ≤ (N : Int)) = true := by rw [decide_eq_true_eq]; omega
                go_wp2_with fail
                go_round
                case rel => exact ⟨k + 1, by omega, by go_num, by rw [HQ.out]; exact hqn⟩
                case measure => simp [intOf]; omega
              · have t1 : decide ((q : Int) ≤ (N : Int)) = false := by rw [decide_eq_false_iff_not]; omega
                go_wp2_with fail
                go_meet
                exact ⟨k, rfl, hk, HLE.out, fun _ => by rw [HQ.out]; omega, rfl⟩
            · go_wp2_with fail
              go_meet
              exact ⟨k, rfl, hk, HLE.out, fun q => absurd q hlt, rfl⟩
        case rest =>
          obtain ⟨k, rfl, hk, h1, h2, hw⟩ := hcut
          subst hw
          have hsc := scan_any (J.take N) wc (by rw [List.length_take, HJLL.out]; omega)
          have hst := scan_take l k N (fun x hx => by have := HX.out x hx; omega) (by omega) hk (by rw [← HJ.out, HJLL.out]; exact HNL.out) h1 h2
          rw [← HJ.out] at hst
          rw [hst] at hsc
          have HSC := Lib.hid hsc
          generalize hSZ : (joinB 0 (l.take k)).length = SZ at *
          have HSZ := Bx.mk hSZ
          have HSZ0 := Lib.hid (show k = 0 → (joinB 0 (l.take k)).length = 0 from fun q => by rw [q]; simp [joinB])
          have HSE := Lib.hid (show ∀ (_ : 0 < k) (hb : k - 1 < (ends l l.length).length), (ends l l.length)[k - 1] = SZ from fun q hb => by rw [ends_at l _ (k - 1) _, Nat.sub_add_cancel q]; exact hSZ)
          have hup := (HA.out.below HB.out).upto k hk
          have hLl : (l.take k).length ≤ 20 := by rw [List.length_take]; omega
          generalize l.take k = L at *
          obtain ⟨u, hu1, hu2⟩ := hup
          have HU := Lib.hid hu2
          have htk := HTK.out
          clear hsc hst h1 h2 hSZ hu2
          generalize bstr (J.take N) = TS at *
          go_wp2_with fail
          go_at_call 44
          refine HSC.out.mono ?_
          rintro e w2 ⟨vx, rfl, hvx, hb2⟩
          obtain ⟨ax, cx, hfx, -⟩ := hvx.rd.form
          have hcl : 0 < k → w2.cell? ⟨0, 0, none⟩ = w2.cell? ⟨0, 0, none⟩ := fun _ => rfl
          have HB2 := Lib.hid (HB.out.trans (hb2.mono HB.out.size))
          have HRD2 := Lib.hid (HRD.out.below hb2)
          have hsame := same_rq w2 vx u L L (.inr hvx.rd) (HU.out.below hb2) (by omega) (by omega)
          rw [decide_eq_true rfl] at hsame
          subst hfx
          have HSA := Lib.hid hsame
          clear hvx hb2 hsame hcl
          go_upto_if 84 with fail
          go_cut [15] (fun s15 wc => s15 = .int .i64 (SZ : Int) ∧ wc = w2)
          case first =>
            by_cases hk0 : 0 < k
            · obtain ⟨b, o, c', hvf, -, hbl, hcell⟩ := HRD2.out.cells encN_ok (by rw [HEL.out]; omega)
              simp only [Value.slice.injEq] at hvf
              obtain ⟨rfl, -, rfl⟩ := hvf
              have hcl := hcell w2 (fun _ _ => rfl) (k - 1) (by rw [HEL.out]; omega) 0 _ (by omega) rfl
              simp only [Nat.mul_one, Nat.add_zero] at hcl
              have hat : E[k - 1]'(by rw [HEL.out]; omega) = SZ := by
                have := HEE.out
                subst this
                exact HSE.out hk0 _
              rw [hat] at hcl
              clear hcell hat
              obtain ⟨k', rfl⟩ : ∃ k', k = k' + 1 := ⟨k - 1, by omega⟩
              simp only [Nat.add_sub_cancel] at hcl
              go_wp2_with fail
              go_meet
              exact ⟨rfl, rfl⟩
            · obtain rfl : k = 0 := by omega
              have HZ := Bx.mk (show SZ = 0 by rw [← HSZ.out]; exact HSZ0.out rfl)
              go_wp2_with fail
              go_meet
              exact ⟨by rw [HZ.out]; rfl, rfl⟩
          case rest =>
            obtain ⟨rfl, hw⟩ := hcut
            subst hw
            go_wp2_with fail
            go_at_call 32
            refine HSA.out.mono ?_
            rintro e w3 ⟨rfl, hb3⟩
            have HB3 := Lib.hid (HB2.out.trans (hb3.mono HB2.out.size))
            clear hb3
            go_wp2_with fail
            go_at_call 43
            refine (HAW.out _).mono ?_
            rintro e w4 ⟨rfl, hb4⟩
            have HB4 := Lib.hid (HB3.out.trans (hb4.mono HB3.out.size))
            clear hb4
            go_wp2
            go_ret
            exact ⟨rfl, HB4.out⟩
end Go.Proofs.Ytbfgkcgnhgfkmaa.Wl
