/-
  Crash of the reference's disk.
-/
import Derived.Test.YtbfgkcgnhgfkmaaDkROpsB
import Derived.Test.YtbfgkcgnhgfkmaaDkCrash
namespace Go.Proofs.Ytbfgkcgnhgfkmaa.Dk
open Go Go.Maps Go.RowKit Go.Proofs.Ytbfgkcgnhgfkmaa.Slc
set_option linter.unusedVariables false
set_option linter.unusedSimpArgs false

theorem rcrash_end {w : World} {g : Nat} {cap left : Int} {fv ov : Value} {off : Bool} (h : w.heap[g]? = some (rblk cap fv ov left off)) (x : Value) :
    ((((w.setCell ⟨g, 1, none⟩ x).setCell ⟨g, 2, none⟩ (.slice none 0 0)).setCell ⟨g, 3, none⟩ (.int .i64 (-1))).setCell ⟨g, 4, none⟩ (.bool false)).heap[g]? = some (rblk cap x (.slice none 0 0) (-1) false) ∧
    w.grownBy ((((w.setCell ⟨g, 1, none⟩ x).setCell ⟨g, 2, none⟩ (.slice none 0 0)).setCell ⟨g, 3, none⟩ (.int .i64 (-1))).setCell ⟨g, 4, none⟩ (.bool false)) (some g) ∧
    w.frozen? ⟨g, 1, none⟩ = false ∧ (w.setCell ⟨g, 1, none⟩ x).frozen? ⟨g, 2, none⟩ = false ∧ ((w.setCell ⟨g, 1, none⟩ x).setCell ⟨g, 2, none⟩ (.slice none 0 0)).frozen? ⟨g, 3, none⟩ = false ∧
    (((w.setCell ⟨g, 1, none⟩ x).setCell ⟨g, 2, none⟩ (.slice none 0 0)).setCell ⟨g, 3, none⟩ (.int .i64 (-1))).frozen? ⟨g, 4, none⟩ = false := by
  have e1 : (w.setCell ⟨g, 1, none⟩ x).heap[g]? = some (rblk cap x ov left off) := by unfold rblk at h; rw [blk_set 1 _ h]; rfl
  have e2 : ((w.setCell ⟨g, 1, none⟩ x).setCell ⟨g, 2, none⟩ (.slice none 0 0)).heap[g]? = some (rblk cap x (.slice none 0 0) left off) := by unfold rblk at e1; rw [blk_set 2 _ e1]; rfl
  have e3 : (((w.setCell ⟨g, 1, none⟩ x).setCell ⟨g, 2, none⟩ (.slice none 0 0)).setCell ⟨g, 3, none⟩ (.int .i64 (-1))).heap[g]? = some (rblk cap x (.slice none 0 0) (-1) off) := by unfold rblk at e2; rw [blk_set 3 _ e2]; rfl
  have e4 : ((((w.setCell ⟨g, 1, none⟩ x).setCell ⟨g, 2, none⟩ (.slice none 0 0)).setCell ⟨g, 3, none⟩ (.int .i64 (-1))).setCell ⟨g, 4, none⟩ (.bool false)).heap[g]? = some (rblk cap x (.slice none 0 0) (-1) false) := by unfold rblk at e3; rw [blk_set 4 _ e3]; rfl
  exact ⟨e4, grown_trans (grown_trans (grown_trans (grown_set w g 1 x) (grown_set _ g 2 _)) (grown_set _ g 3 _)) (grown_set _ g 4 _),
    (rblk_cells h).2.2.2.2.2 1, (rblk_cells e1).2.2.2.2.2 2, (rblk_cells e2).2.2.2.2.2 3, (rblk_cells e3).2.2.2.2.2 4⟩
theorem next_rcrash {w w1 w' : World} {g : Nat} {s : St} {F R : Nat → Prop} {u : Value} {l : Fs} (h : RepR w g s F R) (hb : Below w.heap.size w w1) (hu : Own w1 w.heap.size 98 2 encF u l) (hg : w1.grownBy w' (some g)) (hok : St.Ok ⟨s.cap, l, [], -1⟩)
    (hdr' : DR w' g ⟨s.cap, l, [], -1⟩ u (.slice none 0 0)) : NextR w w' g ⟨s.cap, l, [], -1⟩ F R :=
  next_rsync h hb hu.rd (fun k q => .inr (hu.lt k q).1) hg hok rfl rfl hdr'

set_option maxHeartbeats 4000000 in
set_option maxRecDepth 20000 in
theorem rcrash_any (w : World) (g : Nat) (s : St) (F R : Nat → Prop) (keep bytes : Int) (h : RepR w g s F R) (ho : s.ops.length ≤ 10000) (hwt : s.wt ≤ 100000000) (hk0 : -9223372036854775808 ≤ keep) (hk1 : keep ≤ 9223372036854775807) (hb0 : -9223372036854775808 ≤ bytes) (hb1 : bytes ≤ 9223372036854775807) :
    Calls Try.prog 59 #[ptr g, .int .i64 keep, .int .i64 bytes] w fun e w' => e = .returned (.tuple #[]) ∧ NextR w w' g (s.crash keep bytes) F R := by
  obtain ⟨i0, hi0, hz0, hz1, hz2⟩ := info_parts info_file
  have HOK := Lib.hid (h.ok.crash keep bytes)
  have HSO := Lib.hid h.ok
  have H := Lib.hid h
  obtain ⟨fv, ov, hdr, hfv, hfR, hov, hoF⟩ := h.body
  obtain ⟨ad, cp, hof, hcp⟩ := hov.rd.form
  obtain ⟨ad0, cp0, hff, -⟩ := hfv.form
  subst hof hff
  have hblk : w.heap[g]? = some (rblk s.cap (.slice ad0 s.dur.length cp0) (.slice ad s.ops.length cp) s.left s.off) := hdr
  have HB := Lib.hid hblk
  have HFV := Lib.hid hfv
  have HWT := Lib.hid hwt
  have HCELL := Lib.hid (show ∀ (W : World), Below w.heap.size w W → ∀ k (hk : k < s.ops.length), ∃ b o, ad = some ⟨b, o, none⟩ ∧ ∀ j u, j < 3 → (encO s.ops[k])[j]? = some u → W.cell? ⟨b, o + (k * 3 + j), none⟩ = some u by
    intro W hW k hk
    obtain ⟨b, o, c, hv, _, hlt, hc⟩ := hov.rd.cells encO_ok (by omega)
    simp only [Value.slice.injEq] at hv
    exact ⟨b, o, hv.1, fun j u hj hu => hc W (fun z hz => hW.block z (by rw [hv.1] at hz; cases hz; exact hlt)) k hk j u hj hu⟩)
  obtain ⟨-, c1, c2, -, -, -⟩ := rblk_cells hblk
  have hcr : s.crash keep bytes = ⟨s.cap, s.torn (keepN s keep) bytes, [], -1⟩ := rfl
  have HR := Lib.hid hcr
  obtain ⟨K, hK, hKl, hKm⟩ : ∃ K : Nat, keepN s keep = K ∧ K ≤ s.ops.length ∧ min (max keep 0) (s.ops.length : Int) = (K : Int) := ⟨keepN s keep, rfl, keepN_le s keep, by unfold keepN; omega⟩
  have HKE := Lib.hid hK
  have HKM := Lib.hid hKm
  clear h hdr hfv hfR hov hoF hblk hwt hcr hK hKm
  unfold ptr
  go_enter Try.func59, Try.ntmps59
  go_upto_region 0 with fail
  go_cut [1] (fun s1 wc => s1 = .int .i64 (K : Int) ∧ wc = w)
  case first =>
    go_wp2_with fail
    go_meet
    exact ⟨congrArg (Value.int .i64) HKM.out, rfl⟩
  case rest =>
    obtain ⟨rfl, hw⟩ := hcut
    subst wc
    go_wp2_with fail
    go_loopw [6, 7] (fun v i wr => ∃ k : Nat, k ≤ K ∧ i = .int .i64 (k : Int) ∧ Rd wr encF v (aps s.dur (s.ops.take k)) ∧ Below w.heap.size w wr) (fun _ i _ => K - (intOf i).toNat)
    case atStart => exact ⟨0, Nat.zero_le _, rfl, by rw [List.take_zero, aps_nil]; exact HFV.out, Below.refl _ _⟩
    case round =>
      obtain ⟨k, hk, rfl, hrd, hbw⟩ := hrel
      have hbk := (hbw.block g (lt_of_block HB.out)).trans HB.out
      obtain ⟨-, -, d2, -, -, -⟩ := rblk_cells hbk
      obtain ⟨ad1, cp1, hvf, -⟩ := hrd.form
      subst hvf
      have HRD := Lib.hid hrd
      have HBW := Lib.hid hbw
      have HBK := Lib.hid hbk
      clear hbk
      by_cases hlt : k < K
      · have hko : k < s.ops.length := by omega
        obtain ⟨b', o', rfl, hx⟩ := HCELL.out _ hbw k hko
        have hap := apply_any wr _ _ s.ops[k] hrd (by have := HSO.out.cnt k (by omega); omega) (fun n d he => by have := s.small k hko n d he; have := HWT.out; omega)
        have HAP := Lib.hid hap
        have HEN := Lib.hid (show aps s.dur (s.ops.take (k + 1)) = ap (aps s.dur (s.ops.take k)) s.ops[k] by rw [List.take_succ_eq_append_getElem hko, aps_snoc])
        obtain ⟨e0, e1, e2, hee⟩ : ∃ e0 e1 e2, encO s.ops[k] = [e0, e1, e2] := by cases s.ops[k] <;> exact ⟨_, _, _, rfl⟩
        have hx0 := hx 0 e0 (by omega) (by rw [hee]; rfl)
        have hx1 := hx 1 e1 (by omega) (by rw [hee]; rfl)
        have hx2 := hx 2 e2 (by omega) (by rw [hee]; rfl)
        rw [show o' + (k * 3 + 0) = o' + k * 3 by omega] at hx0
        rw [show o' + (k * 3 + 1) = o' + k * 3 + 1 by omega] at hx1
        rw [show o' + (k * 3 + 2) = o' + k * 3 + 2 by omega] at hx2
        have hof : opV s.ops[k] = .agg #[e0, e1, e2] := by unfold opV; rw [hee]
        rw [hof] at HAP
        clear hap hx hrd hbw hee hof
        go_wp2_with fail
        go_at_call 90
        refine HAP.out.mono ?_
        rintro e w2 ⟨u, rfl, ho2, hb2⟩
        have HR2 := Lib.hid (show Rd w2 encF u (aps s.dur (s.ops.take (k + 1))) by rw [HEN.out]; exact ho2.rd)
        have HB2 := Lib.hid (HBW.out.trans (hb2.mono HBW.out.size))
        clear ho2 hb2
        go_wp2
        go_roundw
        case rel => exact ⟨k + 1, by omega, by go_num, HR2.out, HB2.out⟩
        case measure => simp [intOf]; omega
      · obtain rfl : k = K := by omega
        by_cases hkl : k = s.ops.length
        · have htn := torn_plain s k bytes (fun n d hc => by have := (List.getElem?_eq_some_iff.1 hc).1; omega)
          have t0 : decide (k < s.ops.length) = false := by simp; omega
          have tlt : ¬ k < k := hlt
          have HRT := Lib.hid (show Rd wr encF _ (s.torn k bytes) by rw [htn]; exact hrd)
          have HLL := Lib.hid (show (s.torn k bytes).length ≤ 100000 by have := (HSO.out.torn k bytes hKl).2.2; omega)
          clear htn hkl hrd hbw
          have hbx : Below wr.heap.size wr (wr.alloc (.cells #[] 98)) := (Below.refl _ wr).alloc (Nat.le_refl _) _
          have hsr := (HRT.out.below hbx).src encF_ok
          have hnew := heap_alloc_new wr (.cells #[] 98)
          have hbzs := HBW.out.size
          have hll := HLL.out
          have HBX := Lib.hid hbx
          clear hbx
          go_wp2_with (at_builtin; refine wpList_append_fresh rfl _ _ _ rfl w.heap.size 98 i0 _ 2 32 und_files hi0 hz0 hz1 hz2 rfl (by decide) wr.heap.size rfl hnew hbzs (by simp; omega) _ (s.torn k bytes).length ((s.torn k bytes).flatMap encF) rfl hsr ?ap1 ?ap2 ?_)
          case ap1 => unfold maxLen; omega
          case ap2 => omega
          intro v5 w5 hown hb5 _
          have hb05 : Below w.heap.size w w5 := HBW.out.trans ((HBX.out.trans (hb5.mono (by simp))).mono HBW.out.size)
          have hk5 := (hb05.block g (lt_of_block HB.out)).trans HB.out
          obtain ⟨h6, hg6, f1, f2, f3, f4⟩ := rcrash_end hk5 v5
          have HM := Lib.hid (next_rcrash H.out hb05 (Own.of (l := s.torn k bytes) hown rfl rfl) hg6 (by have := HOK.out; rwa [HR.out, HKE.out] at this) (show DR _ g ⟨s.cap, _, [], -1⟩ _ _ from h6))
          obtain ⟨-, z1, z2, z3, z4, -⟩ := rblk_cells hk5
          obtain ⟨va, vc, hvf, -⟩ := (show Own w5 w.heap.size 98 2 encF v5 (s.torn k bytes) from hown).rd.form
          subst hvf
          clear hown hb5 hb05 hk5 h6 hg6 hsr hnew hbzs hll
          go_wp2
          go_end0
          exact ⟨rfl, by rw [HR.out, HKE.out]; exact HM.out⟩
        · have hko : k < s.ops.length := by omega
          have t0 : decide (k < s.ops.length) = true := by simpa using hko
          have tlt : ¬ k < k := hlt
          obtain ⟨b', o', rfl, hx⟩ := HCELL.out _ hbw k hko
          have hks0 : s.ops[k]? = some (s.ops[k]'hko) := List.getElem?_eq_getElem _
          have hsm := s.small k hko
          have hx0 : ∀ u, (encO (s.ops[k]'hko))[0]? = some u → wr.cell? ⟨b', o' + k * 3, none⟩ = some u := fun u hu => by have := hx 0 u (by omega) hu; rwa [show o' + (k * 3 + 0) = o' + k * 3 by omega] at this
          have hx1 : ∀ u, (encO (s.ops[k]'hko))[1]? = some u → wr.cell? ⟨b', o' + k * 3 + 1, none⟩ = some u := fun u hu => by have := hx 1 u (by omega) hu; rwa [show o' + (k * 3 + 1) = o' + k * 3 + 1 by omega] at this
          have hx2 : ∀ u, (encO (s.ops[k]'hko))[2]? = some u → wr.cell? ⟨b', o' + k * 3 + 2, none⟩ = some u := fun u hu => by have := hx 2 u (by omega) hu; rwa [show o' + (k * 3 + 2) = o' + k * 3 + 2 by omega] at this
          obtain ⟨ch, hks⟩ : ∃ ch, (s.ops[k]'hko) = ch := ⟨_, rfl⟩
          rw [hks] at hks0 hsm hx0 hx1 hx2
          have HKS := Lib.hid hks0
          clear hx hks hks0 hkl
          cases ch with
          | app n d =>
            have hsm' := hsm n d rfl
            have y0 := hx0 _ rfl
            have y1 := hx1 _ rfl
            have y2 := hx2 _ rfl
            have HLL := Lib.hid (show (s.torn k bytes).length ≤ 100000 by have := (HSO.out.torn k bytes hKl).2.2; omega)
            clear hx0 hx1 hx2 hsm
            by_cases hbp : 0 < bytes
            · have t1 : decide (0 < bytes) = true := by simpa using hbp
              have htn : s.torn k bytes = ap (aps s.dur (s.ops.take k)) (.app n (d.take (min bytes d.length).toNat)) := by
                unfold St.torn; rw [HKS.out]; simp only; rw [if_pos hbp]
              obtain ⟨m, hm, hmd⟩ : ∃ m : Nat, (min bytes d.length).toNat = m ∧ min bytes (d.length : Int) = (m : Int) := ⟨_, rfl, by omega⟩
              rw [hm] at htn
              have hml : m ≤ d.length := by omega
              have hext : (bstr d).extract 0 m = bstr (d.take m) := by apply ByteArray.ext; simp [bstr, ByteArray.data_extract, List.extract_eq_take_drop]
              have rs := fun W : World => str_h (bstr d) (min bytes ((bstr d).size : Int)) m (by rw [bstr_size]; exact hmd) (by rw [bstr_size]; exact hml) W
              rw [hext] at rs
              have hBX : Below wr.heap.size wr (wr.alloc (.cells #[.int .i64 1, .string (bstr n), .string (bstr (d.take m))] 101)) := (Below.refl _ _).alloc (Nat.le_refl _) _
              have hap := apply_any _ _ _ (.app n (d.take m)) (hrd.below hBX) (by have := HSO.out.cnt k (by omega); omega) (fun n' d' he => by
                injection he with e1 e2; subst e1 e2
                have := HWT.out; rw [List.length_take]; omega)
              have hov : opV (.app n (d.take m)) = .agg #[.int .i64 1, .string (bstr n), .string (bstr (d.take m))] := rfl
              rw [hov] at hap
              have HAP := Lib.hid hap
              have HTN := Lib.hid htn
              have HBXX := Lib.hid hBX
              have HSZ := Lib.hid (show ((bstr d).size : Int) ≤ 9223372036854775807 by rw [bstr_size]; have := HWT.out; omega)
              have hsz := HSZ.out
              clear hap htn hBX hov hext hm hmd hrd hbw hbp hml
              generalize bstr (d.take m) = DT at *
              generalize bstr d = DD at *
              generalize bstr n = NN at *
              go_wp2_with fail
              go_at_call 90
              refine HAP.out.mono ?_
              rintro e w2 ⟨u2, rfl, ho2, hb2⟩
              have HRT := Lib.hid (show Rd w2 encF u2 (s.torn k bytes) by rw [HTN.out]; exact ho2.rd)
              have HB2 := Lib.hid (HBW.out.trans ((HBXX.out.trans (hb2.mono HBXX.out.size)).mono HBW.out.size))
              obtain ⟨a2, c2', hu2, -⟩ := HRT.out.form
              subst hu2
              clear ho2 hb2 y0 y1 y2 rs
              have hbx : Below w2.heap.size w2 (w2.alloc (.cells #[] 98)) := (Below.refl _ w2).alloc (Nat.le_refl _) _
              have hsr := (HRT.out.below hbx).src encF_ok
              have hnew := heap_alloc_new w2 (.cells #[] 98)
              have hbzs := HB2.out.size
              have hll := HLL.out
              have HBX := Lib.hid hbx
              clear hbx
              go_wp2_with (at_builtin; refine wpList_append_fresh rfl _ _ _ rfl w.heap.size 98 i0 _ 2 32 und_files hi0 hz0 hz1 hz2 rfl (by decide) w2.heap.size rfl hnew hbzs (by simp; omega) _ (s.torn k bytes).length ((s.torn k bytes).flatMap encF) rfl hsr ?ap1 ?ap2 ?_)
              case ap1 => unfold maxLen; omega
              case ap2 => omega
              intro v5 w5 hown hb5 _
              have hb05 : Below w.heap.size w w5 := HB2.out.trans ((HBX.out.trans (hb5.mono (by simp))).mono HB2.out.size)
              have hk5 := (hb05.block g (lt_of_block HB.out)).trans HB.out
              obtain ⟨h6, hg6, f1, f2, f3, f4⟩ := rcrash_end hk5 v5
              have HM := Lib.hid (next_rcrash H.out hb05 (Own.of (l := s.torn k bytes) hown rfl rfl) hg6 (by have := HOK.out; rwa [HR.out, HKE.out] at this) (show DR _ g ⟨s.cap, _, [], -1⟩ _ _ from h6))
              obtain ⟨-, z1, z2, z3, z4, -⟩ := rblk_cells hk5
              obtain ⟨va, vc, hvf, -⟩ := (show Own w5 w.heap.size 98 2 encF v5 (s.torn k bytes) from hown).rd.form
              subst hvf
              clear hown hb5 hb05 hk5 h6 hg6 hsr hnew hbzs hll
              go_wp2
              go_end0
              exact ⟨rfl, by rw [HR.out, HKE.out]; exact HM.out⟩
            · have t1 : decide (0 < bytes) = false := by simpa using hbp
              have htn := torn_plain s k bytes (fun n d hc => by omega)
              have HRT := Lib.hid (show Rd wr encF _ (s.torn k bytes) by rw [htn]; exact hrd)
              clear htn hrd hbw hbp
              have hbx : Below wr.heap.size wr (wr.alloc (.cells #[] 98)) := (Below.refl _ wr).alloc (Nat.le_refl _) _
              have hsr := (HRT.out.below hbx).src encF_ok
              have hnew := heap_alloc_new wr (.cells #[] 98)
              have hbzs := HBW.out.size
              have hll := HLL.out
              have HBX := Lib.hid hbx
              clear hbx
              go_wp2_with (at_builtin; refine wpList_append_fresh rfl _ _ _ rfl w.heap.size 98 i0 _ 2 32 und_files hi0 hz0 hz1 hz2 rfl (by decide) wr.heap.size rfl hnew hbzs (by simp; omega) _ (s.torn k bytes).length ((s.torn k bytes).flatMap encF) rfl hsr ?ap1 ?ap2 ?_)
              case ap1 => unfold maxLen; omega
              case ap2 => omega
              intro v5 w5 hown hb5 _
              have hb05 : Below w.heap.size w w5 := HBW.out.trans ((HBX.out.trans (hb5.mono (by simp))).mono HBW.out.size)
              have hk5 := (hb05.block g (lt_of_block HB.out)).trans HB.out
              obtain ⟨h6, hg6, f1, f2, f3, f4⟩ := rcrash_end hk5 v5
              have HM := Lib.hid (next_rcrash H.out hb05 (Own.of (l := s.torn k bytes) hown rfl rfl) hg6 (by have := HOK.out; rwa [HR.out, HKE.out] at this) (show DR _ g ⟨s.cap, _, [], -1⟩ _ _ from h6))
              obtain ⟨-, z1, z2, z3, z4, -⟩ := rblk_cells hk5
              obtain ⟨va, vc, hvf, -⟩ := (show Own w5 w.heap.size 98 2 encF v5 (s.torn k bytes) from hown).rd.form
              subst hvf
              clear hown hb5 hb05 hk5 h6 hg6 hsr hnew hbzs hll
              go_wp2
              go_end0
              exact ⟨rfl, by rw [HR.out, HKE.out]; exact HM.out⟩
          | ren a b =>
            have htn := torn_plain s k bytes (fun n d hc => by rw [HKS.out] at hc; cases hc)
            have HRT := Lib.hid (show Rd wr encF _ (s.torn k bytes) by rw [htn]; exact hrd)
            have HLL := Lib.hid (show (s.torn k bytes).length ≤ 100000 by have := (HSO.out.torn k bytes hKl).2.2; omega)
            have y0 := hx0 _ rfl
            clear hx0 hx1 hx2 hsm
            clear htn hrd hbw
            have hbx : Below wr.heap.size wr (wr.alloc (.cells #[] 98)) := (Below.refl _ wr).alloc (Nat.le_refl _) _
            have hsr := (HRT.out.below hbx).src encF_ok
            have hnew := heap_alloc_new wr (.cells #[] 98)
            have hbzs := HBW.out.size
            have hll := HLL.out
            have HBX := Lib.hid hbx
            clear hbx
            go_wp2_with (at_builtin; refine wpList_append_fresh rfl _ _ _ rfl w.heap.size 98 i0 _ 2 32 und_files hi0 hz0 hz1 hz2 rfl (by decide) wr.heap.size rfl hnew hbzs (by simp; omega) _ (s.torn k bytes).length ((s.torn k bytes).flatMap encF) rfl hsr ?ap1 ?ap2 ?_)
            case ap1 => unfold maxLen; omega
            case ap2 => omega
            intro v5 w5 hown hb5 _
            have hb05 : Below w.heap.size w w5 := HBW.out.trans ((HBX.out.trans (hb5.mono (by simp))).mono HBW.out.size)
            have hk5 := (hb05.block g (lt_of_block HB.out)).trans HB.out
            obtain ⟨h6, hg6, f1, f2, f3, f4⟩ := rcrash_end hk5 v5
            have HM := Lib.hid (next_rcrash H.out hb05 (Own.of (l := s.torn k bytes) hown rfl rfl) hg6 (by have := HOK.out; rwa [HR.out, HKE.out] at this) (show DR _ g ⟨s.cap, _, [], -1⟩ _ _ from h6))
            obtain ⟨-, z1, z2, z3, z4, -⟩ := rblk_cells hk5
            obtain ⟨va, vc, hvf, -⟩ := (show Own w5 w.heap.size 98 2 encF v5 (s.torn k bytes) from hown).rd.form
            subst hvf
            clear hown hb5 hb05 hk5 h6 hg6 hsr hnew hbzs hll
            go_wp2
            go_end0
            exact ⟨rfl, by rw [HR.out, HKE.out]; exact HM.out⟩
          | rem a =>
            have htn := torn_plain s k bytes (fun n d hc => by rw [HKS.out] at hc; cases hc)
            have HRT := Lib.hid (show Rd wr encF _ (s.torn k bytes) by rw [htn]; exact hrd)
            have HLL := Lib.hid (show (s.torn k bytes).length ≤ 100000 by have := (HSO.out.torn k bytes hKl).2.2; omega)
            have y0 := hx0 _ rfl
            clear hx0 hx1 hx2 hsm
            clear htn hrd hbw
            have hbx : Below wr.heap.size wr (wr.alloc (.cells #[] 98)) := (Below.refl _ wr).alloc (Nat.le_refl _) _
            have hsr := (HRT.out.below hbx).src encF_ok
            have hnew := heap_alloc_new wr (.cells #[] 98)
            have hbzs := HBW.out.size
            have hll := HLL.out
            have HBX := Lib.hid hbx
            clear hbx
            go_wp2_with (at_builtin; refine wpList_append_fresh rfl _ _ _ rfl w.heap.size 98 i0 _ 2 32 und_files hi0 hz0 hz1 hz2 rfl (by decide) wr.heap.size rfl hnew hbzs (by simp; omega) _ (s.torn k bytes).length ((s.torn k bytes).flatMap encF) rfl hsr ?ap1 ?ap2 ?_)
            case ap1 => unfold maxLen; omega
            case ap2 => omega
            intro v5 w5 hown hb5 _
            have hb05 : Below w.heap.size w w5 := HBW.out.trans ((HBX.out.trans (hb5.mono (by simp))).mono HBW.out.size)
            have hk5 := (hb05.block g (lt_of_block HB.out)).trans HB.out
            obtain ⟨h6, hg6, f1, f2, f3, f4⟩ := rcrash_end hk5 v5
            have HM := Lib.hid (next_rcrash H.out hb05 (Own.of (l := s.torn k bytes) hown rfl rfl) hg6 (by have := HOK.out; rwa [HR.out, HKE.out] at this) (show DR _ g ⟨s.cap, _, [], -1⟩ _ _ from h6))
            obtain ⟨-, z1, z2, z3, z4, -⟩ := rblk_cells hk5
            obtain ⟨va, vc, hvf, -⟩ := (show Own w5 w.heap.size 98 2 encF v5 (s.torn k bytes) from hown).rd.form
            subst hvf
            clear hown hb5 hb05 hk5 h6 hg6 hsr hnew hbzs hll
            go_wp2
            go_end0
            exact ⟨rfl, by rw [HR.out, HKE.out]; exact HM.out⟩

end Go.Proofs.Ytbfgkcgnhgfkmaa.Dk
