/-
  The walk of WalOpensFiles: it returns true.
-/
import Derived.Test.YtbfgkcgnhgfkmaaWlV
import Derived.Test.YtbfgkcgnhgfkmaaDkCrash
import Derived.Test.YtbfgkcgnhgfkmaaDkRCrash
namespace Go.Proofs.Ytbfgkcgnhgfkmaa.Wl
open Go Go.RowKit Go.Proofs.Ytbfgkcgnhgfkmaa.Slc Go.Proofs.Ytbfgkcgnhgfkmaa.Hs
open Go.Proofs.Ytbfgkcgnhgfkmaa.Dk (Fr ptr bstr bstr_size bstr_list bstr_back same_any i64ok small_any NewP NewB St new_rep new_any rnew_any RepP RepR append_any rappend_any fuse_any rfuse_any crash_any rcrash_any read_any rread_any names_any rnames_any rdV nms_len)
set_option linter.unusedVariables false
set_option linter.unusedSimpArgs false

theorem replace_wt (s : St) (n b : B) : (replace s n b).1.wt ≤ s.wt + b.length ∧ (replace s n b).1.ops.length ≤ s.ops.length + 4 := by
  have h1 := append_wt2 s (n ++ sfx) b
  have h2 := Dk.sync_wt (s.append (n ++ sfx) b).1
  have h3 := rename_wt (s.append (n ++ sfx) b).1.sync.1 (n ++ sfx) n
  have h4 := Dk.sync_wt ((s.append (n ++ sfx) b).1.sync.1.rename (n ++ sfx) n).1
  unfold replace
  simp only
  split
  · omega
  · split
    · omega
    · split
      · omega
      · omega
theorem openT_wt (s : St) (n b : B) (size : Nat) (recs : List B) : (openT s n b size recs).1.wt ≤ s.wt + b.length ∧ (openT s n b size recs).1.ops.length ≤ s.ops.length + 4 := by
  have h1 := replace_wt s n (b.take size)
  have h2 := Dk.sync_wt s
  have h3 : (b.take size).length ≤ b.length := by rw [List.length_take]; omega
  unfold openT
  by_cases hlt : size < b.length
  · simp only [hlt, if_true]
    split
    · simp only; omega
    · simp only; omega
  · simp only [hlt, if_false]
    split
    · simp only; omega
    · simp only; omega
theorem openP_wt (s : St) (n : B) : (openP s n).1.wt ≤ s.wt + (s.read n).1.length ∧ (openP s n).1.ops.length ≤ s.ops.length + 5 := by
  unfold openP
  split
  · simp only; omega
  · split
    · simp only; omega
    · unfold openS
      split
      · simp only; omega
      · rename_i recs size hs
        unfold openR
        have h1 := openT_wt s n (s.read n).1 size recs
        have h2 := remove_wt s (n ++ sfx)
        have h3 := openT_wt (s.remove (n ++ sfx)).1 n (s.read n).1 size recs
        split
        · split
          · omega
          · simp only; omega
        · omega
theorem Pr.cells {B : Nat} {w w' : World} {d r p : Nat} {s t : St} {lv mv : Value} {H : List (Nat × Obj)} (h : Pr B w w' d r s t ((p, pblk d r lv mv) :: H)) :
    w'.cell? ⟨p, 0, none⟩ = some (.pointer (some ⟨d, 0, none⟩)) ∧ w'.cell? ⟨p, 1, none⟩ = some (.pointer (some ⟨r, 0, none⟩)) := by
  have hb := h.blk _ List.mem_cons_self
  obtain ⟨c0, c1, -, -, -⟩ := pblk_cells hb
  exact ⟨c0, c1⟩
theorem PoPost.some_ {B : Nat} {w w2 : World} {d r p : Nat} {lv mv : Value} {H : List (Nat × Obj)} {n : Hs.B} {rs : St × Int × Option (List Hs.B × Nat)} (h : PoPost B w w2 d r p lv mv H n rs) : ∃ lv' mv' H', Pr B w w2 d r rs.1 rs.1 ((p, pblk d r lv' mv') :: H') := by
  unfold PoPost at h
  split at h
  · exact ⟨_, _, _, h⟩
  · obtain ⟨l, m, h⟩ := h; exact ⟨_, _, _, h⟩
/-- the last region's facts -/
def OfF (W : World) (p d r : Nat) (X : ByteArray) (e : Int) (nm : List Hs.B) : Nat → Value → World → Prop
  | 0, v, _ => v = .string X
  | 1, v, _ => v = .string X
  | 2, v, _ => v = .bool true
  | 3, v, _ => v = .bool true
  | 4, v, _ => v = .int .i64 e
  | 5, v, _ => v = .int .i64 e
  | 6, v, _ => v = .bool true
  | 7, v, _ => v = .bool true
  | 8, v, _ => v = .bool true
  | 9, v, _ => v = ptr p
  | 10, v, _ => v = ptr p
  | 11, v, _ => v = ptr p
  | 12, v, _ => v = ptr d
  | 13, v, w => Own w W.heap.size 9 1 Dk.encS v nm
  | 14, v, _ => v = ptr p
  | 15, v, _ => v = ptr p
  | 16, v, _ => v = .pointer (some ⟨p, 1, none⟩)
  | 17, v, _ => v = ptr r
  | 18, v, w => Own w W.heap.size 9 1 Dk.encS v nm
  | 19, v, _ => v = .bool true
  | 20, v, _ => v = .bool true
  | 21, v, _ => v = .bool true
  | 22, v, _ => v = .bool true
  | 23, v, _ => v = .bool true
  | _, _, _ => True
theorem OfF.stable (W : World) (p d r : Nat) (X : ByteArray) (e : Int) (nm : List Hs.B) (i : Nat) (v : Value) (w w' : World) (h : OfF W p d r X e nm i v w) (hb : Below w.heap.size w w') : OfF W p d r X e nm i v w' := by
  match i with
  | 0 | 1 | 2 | 3 | 4 | 5 | 6 | 7 | 8 | 9 | 10 | 11 | 12 | 14 | 15 | 16 | 17 | 19 | 20 | 21 | 22 | 23 => exact h
  | 13 => exact Own.below (t := 9) h hb
  | 18 => exact Own.below (t := 9) h hb
  | _ + 24 => exact trivial

set_option maxHeartbeats 8000000 in
set_option maxRecDepth 20000 in
theorem law_opensf (NA : ByteArray) (raw : Bool) (v : Value) (l : List Hs.B) (cut : Int) (MO TE : ByteArray) (fuse : Int) (w : World) (hz1 : NA.size ≤ 140737488355328) (hz2 : MO.size ≤ 140737488355328) (hz3 : TE.size ≤ 140737488355328) (hcut : i64ok cut) (hfu : i64ok fuse) (hR : Rq w v l) (hl : l.length ≤ 9223372036854775807) (hx : ∀ x ∈ l, x.length ≤ 9223372036854775807) :
    Calls Try.prog 17 #[.string NA, .bool raw, v, .int .i64 cut, .string MO, .string TE, .int .i64 fuse] w fun e w' => e = .returned (.bool true) ∧ Below w.heap.size w w' := by
  obtain ⟨M, rfl⟩ : ∃ b, MO = bstr b := ⟨_, (bstr_back MO).symm⟩
  obtain ⟨T, rfl⟩ : ∃ b, TE = bstr b := ⟨_, (bstr_back TE).symm⟩
  obtain ⟨na, rfl⟩ : ∃ b, NA = bstr b := ⟨_, (bstr_back NA).symm⟩
  rw [bstr_size] at hz1 hz2 hz3
  have hms : (bstr M).size = M.length := bstr_size M
  have hts : (bstr T).size = T.length := bstr_size T
  have hns : (bstr na).size = na.length := bstr_size na
  have hsh := wshort_any w v l hR hl hx
  have HAW := Lib.hid (fun W => wawake_any W)
  obtain ⟨ad, c, rfl⟩ := hR.form
  by_cases hs : shortS l = true ∧ M.length ≤ 200 ∧ T.length ≤ 200 ∧ na.length ≤ 100
  · rw [hs.1] at hsh
    have hM := hs.2.1
    have hT := hs.2.2.1
    have hn := hs.2.2.2
    have t1 : decide ((M.length : Int) > 200) = false := by rw [decide_eq_false_iff_not]; omega
    have t2 : decide ((T.length : Int) > 200) = false := by rw [decide_eq_false_iff_not]; omega
    have t3 : decide ((na.length : Int) > 100) = false := by rw [decide_eq_false_iff_not]; omega
    have hj := join_any w _ l hR hs.1
    obtain ⟨hll, hxl⟩ := shortS_len hs.1
    obtain ⟨J, hJ⟩ : ∃ J, J = joinB 0 l := ⟨_, rfl⟩
    have hjl := joinB_len 200 l 0 hxl
    rw [← hJ] at hj hjl
    have hjb : J.length ≤ 4160 := by omega
    have hsm1 := fun W => small_any cut ((J.length : Int) + 1) W hcut.1 hcut.2 (by omega) (by omega)
    have hsm2 := fun W => small_any fuse 9 W hfu.1 hfu.2 (by omega) (by omega)
    obtain ⟨N, hN⟩ : ∃ N : Nat, (N : Int) = cut % ((J.length : Int) + 1) := ⟨(cut % ((J.length : Int) + 1)).toNat, by have := Int.emod_nonneg cut (show (J.length : Int) + 1 ≠ 0 by omega); omega⟩
    have hNl : N ≤ J.length := by have := Int.emod_lt_of_pos cut (show (0 : Int) < (J.length : Int) + 1 by omega); omega
    rw [← hN] at hsm1
    have hfz0 : 0 ≤ fuse % 9 := by omega
    have hfz1 : fuse % 9 < 9 := by omega
    generalize fuse % 9 = FZ at *
    have s1 := take_b J (J.length - N) (by omega)
    rw [show ((J.length - N : Nat) : Int) = (J.length : Int) - (N : Int) by omega] at s1
    have hCl : (J.take (J.length - N)).length ≤ 4160 := by rw [List.length_take]; omega
    generalize J.take (J.length - N) = C0 at *
    have hcat1 := cat_b C0 M (by omega)
    obtain ⟨C, hC⟩ : ∃ C, C = C0 ++ M := ⟨_, rfl⟩
    rw [← hC] at hcat1
    have hCL : C.length ≤ 4360 := by rw [hC, List.length_append]; omega
    obtain ⟨NM, hNM⟩ : ∃ NM, NM = if raw then na else lg := ⟨_, rfl⟩
    have hNMl : NM.length ≤ 100 := by rw [hNM]; split; exact hn; decide
    have hsf := cat_sfx NM (by omega)
    have hNSl : (NM ++ sfx).length ≤ 104 := by simp [sfx]; omega
    -- the states
    obtain ⟨S1, hS1⟩ : ∃ S, S = ((St.new 9000).append NM C).1 := ⟨_, rfl⟩
    have w1 := append_wt2 (St.new 9000) NM C
    rw [← hS1] at w1
    obtain ⟨S2, hS2⟩ : ∃ S, S = if T = [] then S1 else (S1.append (NM ++ sfx) T).1 := ⟨_, rfl⟩
    have w2 : S2.wt ≤ 4560 ∧ S2.ops.length ≤ 2 := by
      have h0 := Dk.new_wt 9000
      have h1 := append_wt2 S1 (NM ++ sfx) T
      have h2 : (St.new 9000).ops.length = 0 := rfl
      rw [hS2]
      split
      · omega
      · omega
    have w1' : S1.wt ≤ 4360 ∧ S1.ops.length ≤ 1 := by
      have h0 := Dk.new_wt 9000
      have h2 : (St.new 9000).ops.length = 0 := rfl
      omega
    have w3 := Dk.fuse_wt S2 (FZ - 1)
    obtain ⟨S3, hS3⟩ : ∃ S, S = S2.fuse (FZ - 1) := ⟨_, rfl⟩
    rw [← hS3] at w3
    have w4 := openP_wt S3 NM
    have w4' := read_wt S3 NM
    obtain ⟨RS, hRS⟩ : ∃ R, R = openP S3 NM := ⟨_, rfl⟩
    rw [← hRS] at w4
    obtain ⟨S5, hS5⟩ : ∃ S, S = RS.1.crash 0 0 := ⟨_, rfl⟩
    have w5 := Dk.crash_wt RS.1 0 0
    rw [← hS5] at w5
    have HW := Lib.hid (show S1.wt ≤ 4360 ∧ S1.ops.length ≤ 1 ∧ S2.wt ≤ 4560 ∧ S2.ops.length ≤ 2 ∧ S3.wt ≤ 4560 ∧ S3.ops.length ≤ 3 ∧ RS.1.wt ≤ 10000 ∧ RS.1.ops.length ≤ 10 ∧ S5.wt ≤ 10000 ∧ S5.ops.length ≤ 20 from ⟨w1'.1, w1'.2, w2.1, w2.2, by omega, by omega, by omega, by omega, by omega, by omega⟩)
    have HS1 := Bx.mk hS1
    have HS2 := Bx.mk hS2
    have HS3 := Bx.mk hS3
    have HRS := Bx.mk hRS
    have HS5 := Bx.mk hS5
    have HSM1 := Lib.hid hsm1
    have HSM2 := Lib.hid hsm2
    have HJ := Lib.hid hj
    have hjs := bstr_size J
    have HNMB := Bx.mk hNM
    have HLN := Lib.hid (show NM.length ≤ 100 ∧ (NM ++ sfx).length ≤ 104 ∧ C.length ≤ 4360 ∧ T.length ≤ 200 from ⟨hNMl, hNSl, hCL, hT⟩)
    clear hR hl hx hs hj hjl hsm1 hsm2 hN hxl hJ hC hCl hCL hS1 hS2 hS3 hS5 hRS w1 w2 w1' w3 w4 w4' w5 hNMl hNSl hNM
    generalize hMM : bstr M = MM at *
    generalize hTT : bstr T = TT at *
    have HTT := Bx.mk hTT
    generalize hNN : bstr na = NN at *
    have HNN := Bx.mk hNN
    generalize hJS : bstr J = JS at *
    generalize hCS : bstr C = CS at *
    have HCS := Bx.mk hCS
    generalize hNX : bstr NM = NX at *
    have HNX := Bx.mk hNX
    generalize hNSX : bstr (NM ++ sfx) = NSX at *
    have HNSX := Bx.mk hNSX
    generalize bstr C0 = CX at *
    clear hMM hTT hNN hJS hCS hNX hNSX
    generalize J.length = JL at *
    go_enter Try.func17, Try.ntmps17
    go_wp2_with fail
    go_at_call 46
    refine hsh.mono ?_
    rintro e w' ⟨rfl, rfl⟩
    go_wp2_with fail
    go_at_call 47
    refine HJ.out.mono ?_
    rintro e w1 ⟨rfl, hb1⟩
    have HB1 := Lib.hid hb1
    clear hb1
    go_wp2_with fail
    go_at_call 23
    refine (HSM1.out w1).mono ?_
    rintro e w' ⟨rfl, rfl⟩
    obtain ⟨wz, hwz⟩ : ∃ W, W = w1 := ⟨_, rfl⟩
    have HWZ := Bx.mk hwz
    clear hwz
    go_upto_if 56 with fail
    go_cut [0] (fun s0 wc => s0 = .string NX ∧ wc = wz)
    case first =>
      cases raw with
      | true =>
        have HQ := Bx.mk (show NN = NX by rw [← HNN.out, ← HNX.out, HNMB.out]; rfl)
        go_wp2_with fail
        go_meet
        exact ⟨by rw [HQ.out], HWZ.out.symm⟩
      | false =>
        have HQ := Bx.mk (show (⟨#[108, 111, 103]⟩ : ByteArray) = NX by rw [← HNX.out, HNMB.out]; rfl)
        go_wp2_with fail
        go_meet
        exact ⟨by rw [HQ.out], HWZ.out.symm⟩
    case rest =>
      obtain ⟨rfl, hwc⟩ := hcut
      have hwc2 : wc = _ := hwc.trans HWZ.out
      subst hwc2
      clear hwc s1 hcat1
      obtain ⟨wb, hwb⟩ : ∃ W, W = wc := ⟨_, rfl⟩
      subst hwb
      have HN0 := Lib.hid (new_rep wb 9000 (by omega))
      have HRN := Lib.hid (fun W => rnew_any 9000 W (by omega))
      have h10 := new_any 9000 wb
      go_wp2_with fail
      go_at_call 20
      refine h10.mono ?_
      rintro e w2 ⟨rfl, hw2⟩
      rw [← hw2] at HN0
      clear h10 hw2
      generalize hd : wb.heap.size = d at *
      have HD := Lib.hid hd
      clear hd
      go_wp2_with fail
      go_at_call 27
      refine (HRN.out _).mono ?_
      rintro e w3 ⟨rfl, hr1, hb2⟩
      have hnb := Pr.of (NewB.made HN0.out hr1 hb2)
      generalize w2.heap.size = r at *
      have hpm := hnb.made (pblk d r (.pointer none) (.pointer none))
      obtain ⟨w4, hw4⟩ : ∃ W, w3.alloc (.cells #[.pointer (some ⟨d, 0, none⟩), .pointer (some ⟨r, 0, none⟩), .pointer none, .pointer none] 78) = W := ⟨_, rfl⟩
      have hpm4 : Pr d wb w4 d r (St.new 9000) (St.new 9000) [(w3.heap.size, pblk d r (.pointer none) (.pointer none))] := by rw [← hw4]; exact hpm
      clear hr1 hb2 hnb hpm
      obtain ⟨c0, c1⟩ := hpm4.cells
      have hap := hpm4.onP (s' := S1) (Post := fun e => e = .returned (.int .i64 ((St.new 9000).append NM C).2)) fun F R hr => by
        have := append_any w4 d (St.new 9000) F R NM C hr (by have := HLN.out.1; omega) (by have := HLN.out.2.2.1; omega) (by simp [St.new])
        rw [HS1.out]; exact this
      rw [HNX.out, HCS.out] at hap
      have HAP := Lib.hid hap
      unfold ptr at HAP ⊢
      clear hpm4 hap
      go_wp2_with fail
      go_at_call 21
      refine HAP.out.mono ?_
      rintro e w5 ⟨rfl, hp5⟩
      clear c0 c1 hw4 HAP
      generalize w3.heap.size = p at *
      obtain ⟨c0, c1⟩ := hp5.cells
      have hap := hp5.onR (t' := S1) (Post := fun e => e = .returned (.int .i64 ((St.new 9000).append NM C).2)) fun G Q hr => by
        have := rappend_any w5 r (St.new 9000) G Q NM C hr (by have := HLN.out.1; omega) (by have := HLN.out.2.2.1; omega) hr.ok.cap1 (by simp [St.new]) (by rw [Dk.new_wt]; omega)
        rw [HS1.out]; exact this
      rw [HNX.out, HCS.out] at hap
      generalize ((St.new 9000).append NM C).2 = e0 at *
      have HAP2 := Lib.hid hap
      unfold ptr at HAP2
      clear hp5 hap
      go_wp2_with fail
      go_at_call 40
      refine HAP2.out.mono ?_
      rintro e w6 ⟨rfl, hp6⟩
      clear c0 c1
      have HP6 := Lib.hid hp6
      clear hp6
      go_upto_if 82 with fail
      go_cut [] (fun wc6 => Pr d wb wc6 d r S2 S2 [(p, pblk d r (.pointer none) (.pointer none))])
      case first =>
        by_cases hT0 : T = []
        · have hTl : T.length = 0 := by rw [hT0]; rfl
          have HQ := Bx.mk (show S2 = S1 by rw [HS2.out, if_pos hT0])
          clear hT0
          go_wp2_with fail
          go_meet
          rw [HQ.out]; exact HP6.out
        · have hTl : 0 < T.length := List.length_pos_iff.mpr hT0
          have HQ := Bx.mk (show S2 = (S1.append (NM ++ sfx) T).1 by rw [HS2.out, if_neg hT0])
          obtain ⟨c0, c1⟩ := HP6.out.cells
          have hap := HP6.out.onP (s' := S2) (Post := fun e => e = .returned (.int .i64 (S1.append (NM ++ sfx) T).2)) fun F R hr => by
            have := append_any w6 d S1 F R (NM ++ sfx) T hr (by have := HLN.out; omega) (by have := HLN.out; omega) (by have := HW.out; omega)
            rw [HQ.out]; exact this
          rw [HNSX.out, HTT.out] at hap
          have HAP3 := Lib.hid hap
          unfold ptr at HAP3
          clear hT0 hap
          go_wp2_with fail
          go_at_call 21
          refine HAP3.out.mono ?_
          rintro e w7 ⟨rfl, hp7⟩
          clear c0 c1
          obtain ⟨c0, c1⟩ := hp7.cells
          have hap := hp7.onR (t' := S2) (Post := fun e => e = .returned (.int .i64 (S1.append (NM ++ sfx) T).2)) fun G Q hr => by
            have := rappend_any w7 r S1 G Q (NM ++ sfx) T hr (by have := HLN.out; omega) (by have := HLN.out; omega) hr.ok.cap1 (by have := HW.out; omega) (by have := HW.out; omega)
            rw [HQ.out]; exact this
          rw [HNSX.out, HTT.out] at hap
          have HAP4 := Lib.hid hap
          unfold ptr at HAP4
          clear hap hp7
          go_wp2_with fail
          go_at_call 40
          refine HAP4.out.mono ?_
          rintro e w8 ⟨rfl, hp8⟩
          have HP8 := Lib.hid hp8
          clear hp8 c0 c1
          go_wp2_with fail
          go_meet
          exact HP8.out
      case rest =>
        obtain ⟨c0, c1⟩ := hcut.cells
        have hfz := hcut.onP (s' := S3) (Post := fun e => e = .returned (.tuple #[])) fun F R hr => by
          have := fuse_any wc d S2 F R (FZ - 1) hr (by omega) (by omega)
          rw [HS3.out]; exact this
        have HFZ := Lib.hid hfz
        unfold ptr at HFZ
        clear hcut hfz HP6
        go_wp2_with fail
        go_at_call 23
        refine (HSM2.out _).mono ?_
        rintro e w' ⟨rfl, rfl⟩
        go_wp2_with fail
        go_at_call 30
        refine HFZ.out.mono ?_
        rintro e w9 ⟨rfl, hp9⟩
        clear c0 c1
        obtain ⟨c0, c1⟩ := hp9.cells
        have hfz := hp9.onR (t' := S3) (Post := fun e => e = .returned (.tuple #[])) fun G Q hr => by
          have := rfuse_any w9 r S2 G Q (FZ - 1) hr (by omega) (by omega)
          rw [HS3.out]; exact this
        have HFZ2 := Lib.hid hfz
        unfold ptr at HFZ2
        clear hp9 hfz
        go_wp2_with fail
        go_at_call 57
        refine HFZ2.out.mono ?_
        rintro e w10 ⟨rfl, hp10⟩
        have hpo := popen_any NM hp10 (by have := HLN.out.1; omega) (by have := HW.out; omega) (by have := HW.out; omega)
        rw [← HRS.out, HNX.out] at hpo
        have HPO := Lib.hid hpo
        unfold ptr at HPO
        clear c0 c1 hp10 hpo
        go_wp2_with fail
        go_at_call 58
        refine HPO.out.mono ?_
        rintro e w11 ⟨rfl, hpp⟩
        obtain ⟨lv, mv, H', hp11⟩ := hpp.some_
        obtain ⟨c0, c1⟩ := hp11.cells
        have hcr := hp11.onP (s' := S5) (Post := fun e => e = .returned (.tuple #[])) fun F R hr => by
          have := crash_any w11 d RS.1 F R 0 0 hr (by have := HW.out; omega) (by omega) (by omega) (by omega) (by omega)
          rw [HS5.out]; exact this
        have HCR := Lib.hid hcr
        unfold ptr at HCR
        clear hpp hp11 hcr
        go_wp2_with fail
        go_at_call 24
        refine HCR.out.mono ?_
        rintro e w12 ⟨rfl, hp12⟩
        clear c0 c1
        obtain ⟨c0, c1⟩ := hp12.cells
        have hcr := hp12.onR (t' := S5) (Post := fun e => e = .returned (.tuple #[])) fun G Q hr => by
          have := rcrash_any w12 r RS.1 G Q 0 0 hr (by have := HW.out; omega) (by have := HW.out; omega) (by omega) (by omega) (by omega) (by omega)
          rw [HS5.out]; exact this
        have HCR2 := Lib.hid hcr
        unfold ptr at HCR2
        clear hp12 hcr
        go_wp2_with fail
        go_at_call 59
        refine HCR2.out.mono ?_
        rintro e w13 ⟨rfl, hp13⟩
        clear c0 c1
        obtain ⟨c0, c1⟩ := hp13.cells
        have HP13 := Lib.hid hp13
        obtain ⟨F1, R1, G1, Q1, q1, q2, -⟩ := hp13
        have HNL := Lib.hid (nms_len S5 q1.ok)
        have hrd := read_any w13 d S5 F1 R1 NM q1 (by have := HLN.out.1; omega)
        have hrr := rread_any w13 r S5 G1 Q1 NM q2 (by have := HLN.out.1; omega) (by have := HW.out; omega) (by have := HW.out; omega)
        rw [HNX.out] at hrd hrr
        generalize S5.read NM = PP at *
        obtain ⟨xb, xe⟩ := PP
        unfold rdV at hrd hrr
        simp only at hrd hrr
        unfold ptr at hrd hrr
        generalize bstr xb = XX at *
        have HRD := Lib.hid hrd
        have HRR := Lib.hid hrr
        clear hrd hrr q1 q2
        go_wp2_with fail
        go_at_call 25
        refine HRD.out.mono ?_
        rintro e w' ⟨rfl, rfl⟩
        go_wp2_with fail
        go_at_call 60
        refine HRR.out.mono ?_
        rintro e w14 ⟨rfl, hb14⟩
        have HP14 := Lib.hid (HP13.out.below hb14)
        have hxx : (XX.toList == XX.toList) = true := beq_self_eq_true _
        have hee : (xe == xe) = true := beq_self_eq_true _
        clear hb14 c0 c1
        go_wp2_with fail
        refine wp_region_facts 24 (OfF w14 p d r XX xe S5.nms) (by kernel_rfl) (by kernel_rfl) (by rfl) (OfF.stable _ _ _ _ _ _ _) ?_ ?_
        · intro i o hi9 ho9 x w15 hb15 hd1
          have hc : i = 0 ∨ i = 1 ∨ i = 2 ∨ i = 3 ∨ i = 4 ∨ i = 5 ∨ i = 6 ∨ i = 7 ∨ i = 8 ∨ i = 9 ∨ i = 10 ∨ i = 11 ∨ i = 12 ∨ i = 13 ∨ i = 14 ∨ i = 15 ∨ i = 16 ∨ i = 17 ∨ i = 18 ∨ i = 19 ∨ i = 20 ∨ i = 21 ∨ i = 22 ∨ i = 23 := by omega
          have hp15 := HP14.out.below hb15
          obtain ⟨c0, c1⟩ := hp15.cells
          obtain ⟨F2, R2, G2, Q2, q1, q2, -⟩ := hp15
          have HB15 := Lib.hid hb15
          simp only [List.take_succ_cons, List.take_zero, putFrom, Act.put, List.setIfInBounds_toArray, List.set_cons_succ, List.set_cons_zero, Nat.zero_add, Nat.reduceAdd]
          clear hb15
          rcases hc with rfl | rfl | rfl | rfl | rfl | rfl | rfl | rfl | rfl | rfl | rfl | rfl | rfl | rfl | rfl | rfl | rfl | rfl | rfl | rfl | rfl | rfl | rfl | rfl
          all_goals
            simp only [List.getElem?_cons_succ, List.getElem?_cons_zero, Option.some.injEq] at ho9
            subst ho9
            simp [Needs, Region.binds, OfF, ptr] at hd1
          all_goals clear hi9
          · go_wp2_with fail
            exact ⟨rfl, rfl, rfl, Below.refl _ _⟩
          · go_wp2_with fail
            exact ⟨rfl, rfl, rfl, Below.refl _ _⟩
          · go_wp2_with fail
            exact ⟨rfl, rfl, rfl, Below.refl _ _⟩
          · go_wp2_with fail
            exact ⟨rfl, rfl, rfl, Below.refl _ _⟩
          · go_wp2_with fail
            exact ⟨rfl, rfl, rfl, Below.refl _ _⟩
          · go_wp2_with fail
            exact ⟨rfl, rfl, rfl, Below.refl _ _⟩
          · go_wp2_with fail
            exact ⟨rfl, rfl, rfl, Below.refl _ _⟩
          · go_wp2_with fail
            exact ⟨rfl, rfl, rfl, Below.refl _ _⟩
          · go_wp2_with fail
            exact ⟨rfl, rfl, rfl, Below.refl _ _⟩
          · go_wp2_with fail
            exact ⟨rfl, rfl, rfl, Below.refl _ _⟩
          · go_wp2_with fail
            exact ⟨rfl, rfl, rfl, Below.refl _ _⟩
          · go_wp2_with fail
            exact ⟨rfl, rfl, rfl, Below.refl _ _⟩
          · go_wp2_with fail
            exact ⟨rfl, rfl, rfl, Below.refl _ _⟩
          · have hnm := names_any w15 d S5 F2 R2 q1
            unfold ptr at hnm
            clear c0 c1
            go_wp2_with fail
            go_at_call 39
            refine hnm.mono ?_
            rintro e w16 ⟨v, rfl, hv, hb⟩
            have HV := Lib.hid (hv.mono HB15.out.size)
            have HBB := Lib.hid hb
            clear hv hb hnm
            go_wp2_with fail
            exact ⟨rfl, rfl, HV.out, HBB.out⟩
          · go_wp2_with fail
            exact ⟨rfl, rfl, rfl, Below.refl _ _⟩
          · go_wp2_with fail
            exact ⟨rfl, rfl, rfl, Below.refl _ _⟩
          · go_wp2_with fail
            exact ⟨rfl, rfl, rfl, Below.refl _ _⟩
          · go_wp2_with fail
            exact ⟨rfl, rfl, rfl, Below.refl _ _⟩
          · have hnm := rnames_any w15 r S5 G2 Q2 q2 (by have := HW.out; omega) (by have := HW.out; omega)
            unfold ptr at hnm
            clear c0 c1
            go_wp2_with fail
            go_at_call 42
            refine hnm.mono ?_
            rintro e w16 ⟨v, rfl, hv, hb⟩
            have HV := Lib.hid (hv.mono HB15.out.size)
            have HBB := Lib.hid hb
            clear hv hb hnm
            go_wp2_with fail
            exact ⟨rfl, rfl, HV.out, HBB.out⟩
          · obtain ⟨ho13, ho18, h8⟩ := hd1
            have hsm := same_any w15 (x 13) (x 18) S5.nms S5.nms (Own.rd ho13) (Own.rd ho18) HNL.out HNL.out
            rw [decide_eq_true rfl] at hsm
            have HSMM := Lib.hid hsm
            clear hsm ho13 ho18 c0 c1
            go_wp2_with fail
            go_at_call 32
            refine HSMM.out.mono ?_
            rintro e w16 ⟨rfl, hb⟩
            have HBB := Lib.hid hb
            clear hb
            go_wp2_with fail
            exact ⟨rfl, rfl, rfl, HBB.out⟩
          · go_wp2_with fail
            exact ⟨rfl, rfl, rfl, Below.refl _ _⟩
          · go_wp2_with fail
            exact ⟨rfl, rfl, rfl, Below.refl _ _⟩
          · clear c0 c1
            go_wp2_with fail
            go_at_call 43
            refine (HAW.out _).mono ?_
            rintro e w16 ⟨rfl, hb⟩
            have HBB := Lib.hid hb
            clear hb
            go_wp2_with fail
            exact ⟨rfl, rfl, rfl, HBB.out⟩
          · go_wp2_with fail
            exact ⟨rfl, rfl, rfl, Below.refl _ _⟩
        · intro x w15 hb15 hf
          have f23 := hf 23 (by omega)
          simp only [OfF] at f23
          simp only [List.take_succ_cons, List.take_zero, List.drop_succ_cons, List.drop_zero, putFrom, Act.put, List.setIfInBounds_toArray, List.set_cons_succ, List.set_cons_zero, Nat.zero_add, Nat.reduceAdd, f23]
          have hfin := (HP14.out.below hb15).bel
          have HF := Lib.hid hfin
          clear hf f23 hb15 hfin
          go_wp2_with fail
          go_ret
          exact ⟨rfl, HB1.out.trans (HF.out.mono (by rw [← HD.out]; exact HB1.out.size))⟩
  · have hgen : ∃ a b c1 : Bool, a = decide ((M.length : Int) > 200) ∧ b = decide ((T.length : Int) > 200) ∧ c1 = decide ((na.length : Int) > 100) := ⟨_, _, _, rfl, rfl, rfl⟩
    obtain ⟨qa, qb, qc, ha, hb, hc⟩ := hgen
    have t1 := ha.symm
    have t2 := hb.symm
    have t3 := hc.symm
    have hall : shortS l = false ∨ (shortS l = true ∧ qa = true) ∨ (shortS l = true ∧ qa = false ∧ qb = true) ∨ (shortS l = true ∧ qa = false ∧ qb = false ∧ qc = true) := by
      cases h1 : shortS l with
      | false => exact .inl rfl
      | true =>
        by_cases h2 : M.length ≤ 200
        · by_cases h3 : T.length ≤ 200
          · have h4 : ¬ na.length ≤ 100 := fun q => hs ⟨h1, h2, h3, q⟩
            exact .inr (.inr (.inr ⟨rfl, by rw [ha, decide_eq_false_iff_not]; omega, by rw [hb, decide_eq_false_iff_not]; omega, by rw [hc, decide_eq_true_eq]; omega⟩))
          · exact .inr (.inr (.inl ⟨rfl, by rw [ha, decide_eq_false_iff_not]; omega, by rw [hb, decide_eq_true_eq]; omega⟩))
        · exact .inr (.inl ⟨rfl, by rw [ha, decide_eq_true_eq]; omega⟩)
    clear ha hb hc hR hl hx hs
    generalize bstr M = MM at *
    generalize bstr T = TT at *
    generalize bstr na = NN at *
    rcases hall with h0 | ⟨h0, rfl⟩ | ⟨h0, rfl, rfl⟩ | ⟨h0, rfl, rfl, rfl⟩
    all_goals rw [h0] at hsh
    all_goals clear h0
    · go_enter Try.func17, Try.ntmps17
      go_wp2_with fail
      go_at_call 46
      refine hsh.mono ?_
      rintro e w' ⟨rfl, rfl⟩
      go_wp2_with fail
      go_at_call 43
      refine (HAW.out _).mono ?_
      rintro e w' ⟨rfl, hb⟩
      go_wp2
      go_ret
      exact ⟨rfl, hb⟩
    · go_enter Try.func17, Try.ntmps17
      go_wp2_with fail
      go_at_call 46
      refine hsh.mono ?_
      rintro e w' ⟨rfl, rfl⟩
      go_wp2_with fail
      go_at_call 43
      refine (HAW.out _).mono ?_
      rintro e w' ⟨rfl, hb⟩
      go_wp2
      go_ret
      exact ⟨rfl, hb⟩
    · go_enter Try.func17, Try.ntmps17
      go_wp2_with fail
      go_at_call 46
      refine hsh.mono ?_
      rintro e w' ⟨rfl, rfl⟩
      go_wp2_with fail
      go_at_call 43
      refine (HAW.out _).mono ?_
      rintro e w' ⟨rfl, hb⟩
      go_wp2
      go_ret
      exact ⟨rfl, hb⟩
    · go_enter Try.func17, Try.ntmps17
      go_wp2_with fail
      go_at_call 46
      refine hsh.mono ?_
      rintro e w' ⟨rfl, rfl⟩
      go_wp2_with fail
      go_at_call 43
      refine (HAW.out _).mono ?_
      rintro e w' ⟨rfl, hb⟩
      go_wp2
      go_ret
      exact ⟨rfl, hb⟩
end Go.Proofs.Ytbfgkcgnhgfkmaa.Wl
