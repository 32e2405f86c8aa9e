/-
  The walk of DiskCopies: it returns true. (Written by wip/gen/gen_copies.py.)
-/
import Derived.Test.YtbfgkcgnhgfkmaaDkQuad
namespace Go.Proofs.Ytbfgkcgnhgfkmaa.Dk
open Go Go.Maps Go.RowKit Go.Proofs.Ytbfgkcgnhgfkmaa.Slc
set_option linter.unusedVariables false
set_option linter.unusedSimpArgs false

set_option maxHeartbeats 8000000 in
set_option maxRecDepth 10000 in
theorem law_copies (v : Value) (l : List Cl) (u : Value) (m : List Cl) (w : World) (hA : Arg w v l) (hin : ∀ c ∈ l, c.In) (hl : l.length ≤ 9223372036854775807) (hAm : Arg w u m) (him : ∀ c ∈ m, c.In) (hm : m.length ≤ 9223372036854775807) :
    Calls Try.prog 9 #[v, u] w fun e w' => e = .returned (.bool true) ∧ Below w.heap.size w w' := by
  have hsh := short_any w v l hA hin hl
  have hsm := short_any w u m hAm him hm
  have HAW := Lib.hid (fun W => awake_any W)
  have HL := Lib.hid hl
  obtain ⟨ad, c, rfl, -⟩ := id hA
  obtain ⟨ae, c', rfl, -⟩ := id hAm
  have HA := Lib.hid hA
  have HM := Lib.hid hAm
  cases hs : shortB l with
  | false =>
    rw [hs] at hsh
    clear hA hin hAm him hsm
    go_enter Try.func9, Try.ntmps9
    go_wp2_with fail
    go_at_call 26
    refine hsh.mono ?_
    rintro e w' ⟨rfl, rfl⟩
    go_wp2_with fail
    go_at_call 19
    refine (HAW.out _).mono ?_
    rintro e w' ⟨rfl, hb⟩
    go_wp2
    go_ret
    exact ⟨rfl, hb⟩
  | true =>
   rw [hs] at hsh
   cases hs2 : shortB m with
   | false =>
    rw [hs2] at hsm
    clear hA hin hAm him
    go_enter Try.func9, Try.ntmps9
    go_wp2_with fail
    go_at_call 26
    refine hsh.mono ?_
    rintro e w' ⟨rfl, rfl⟩
    go_wp2_with fail
    go_at_call 26
    refine hsm.mono ?_
    rintro e w' ⟨rfl, rfl⟩
    go_wp2_with fail
    go_at_call 19
    refine (HAW.out _).mono ?_
    rintro e w' ⟨rfl, hb⟩
    go_wp2
    go_ret
    exact ⟨rfl, hb⟩
   | true =>
    rw [hs2] at hsm
    have hlen := short_len hs
    have hfit := short_fit hs hin
    have hlem := short_len hs2
    have hfim := short_fit hs2 him
    have HFIT := Lib.hid hfit
    have HFIM := Lib.hid hfim
    have HN0 := Lib.hid (new_rep w 500 (by omega))
    have HRN := Lib.hid (fun W => rnew_any 500 W (by omega))
    have HRF := Lib.hid (fun k => run_Fit (St.new 500) l k hfit hlen (by rw [new_wt]; omega) (by simp [St.new]))
    have hr0 := run_fit l (St.new 500) hfit
    rw [new_wt] at hr0
    have hz : (St.new 500).ops.length = 0 := rfl
    rw [hz] at hr0
    have HRE := Lib.hid (show ((St.new 500).run l).ops.length ≤ 10000 by omega)
    have HRG := Lib.hid (fun k => run_Fit ((St.new 500).run l) m k hfim hlem (by omega) (by omega))
    have h10 := new_any 500 w
    clear hA hin hAm him hfit hfim hs hs2 hr0 hz
    go_enter Try.func9, Try.ntmps9
    go_wp2_with fail
    go_at_call 26
    refine hsh.mono ?_
    rintro e w' ⟨rfl, rfl⟩
    go_wp2_with fail
    go_at_call 26
    refine hsm.mono ?_
    rintro e w' ⟨rfl, rfl⟩
    go_wp2_with fail
    go_at_call 20
    refine h10.mono ?_
    rintro e w0 ⟨rfl, hw0⟩
    rw [← hw0] at HN0
    clear h10 hw0 hsh hsm
    generalize hd : w.heap.size = d at *
    have HD := Lib.hid hd
    clear hd
    go_wp2_with fail
    go_at_call 27
    refine (HRN.out _).mono ?_
    rintro e w1 ⟨rfl, hr1, hb1⟩
    have HB1 := Lib.hid (NewB.made HN0.out hr1 hb1)
    clear hr1 hb1
    generalize w0.heap.size = r at *
    unfold ptr
    go_wp2
    go_loopw [7] (fun i wx => ∃ k : Nat, k ≤ l.length ∧ i = .int .i64 (k : Int) ∧ NewB d w wx d r ((St.new 500).run (l.take k)) ((St.new 500).run (l.take k))) (fun i _ => l.length - (intOf i).toNat)
    case atStart => exact ⟨0, Nat.zero_le _, rfl, HB1.out⟩
    case round =>
      obtain ⟨k, hk, rfl, hnb⟩ := hrel
      have HNB := Lib.hid hnb
      have hbel := hnb.bel
      clear hnb
      by_cases hlt : k < l.length
      · obtain ⟨b, o, rfl, hbs, x0, x1, x2, x3, x4, x5, x6, x7⟩ := (HA.out.below (by rw [HD.out]; exact hbel)).eight k hlt
        have HDO := Lib.hid (HNB.out.do l[k] (HFIT.out _ (List.getElem_mem hlt)) (HRF.out k) (HRF.out k))
        rw [← run_snoc _ _ _ hlt] at HDO
        rw [beq_self_eq_true] at HDO
        rw [(show (l[k]).cells.toArray = #[.int .i64 l[k].kind, .int .i64 l[k].frm, .int .i64 l[k].tgt, .int .i64 l[k].n, .int .i64 l[k].m, .string (bstr l[k].name), .string (bstr l[k].data), .bool l[k].raw] from rfl)] at HDO
        clear hbel hbs
        unfold ptr at HDO
        generalize bstr l[k].name = X5 at *
        generalize bstr l[k].data = X6 at *
        generalize l[k].kind = X0 at *
        generalize l[k].frm = X1 at *
        generalize l[k].tgt = X2 at *
        generalize l[k].n = X3 at *
        generalize l[k].m = X4 at *
        generalize l[k].raw = X7 at *
        go_wp2_with fail
        go_at_call 28
        refine HDO.out.mono ?_
        rintro e w2 ⟨rfl, h2⟩
        have HN2 := Lib.hid h2
        clear h2
        go_wp2
        go_roundw
        case rel => exact ⟨k + 1, by omega, by go_num, HN2.out⟩
        case measure => simp [intOf]; omega
      · obtain rfl : k = l.length := by omega
        rw [List.take_length] at HNB
        have HCP := Lib.hid (HNB.out.copy HRE.out)
        unfold ptr at HCP
        clear hbel
        go_wp2_with fail
        go_at_call 37
        refine HCP.out.mono ?_
        rintro e w2 ⟨rfl, hb2, hall⟩
        have HALL := Lib.hid hall
        have HB2 := Lib.hid hb2
        have hrc := (rcopy_of hall HRE.out)
        have HRC := Lib.hid hrc
        unfold ptr at HRC
        clear hall hb2 hrc
        go_wp2_with fail
        go_at_call 38
        refine HRC.out.mono ?_
        rintro e w3 ⟨e3, rfl, h3, -⟩
        have HQ := Lib.hid (Quad.made HB2.out HALL.out h3)
        clear h3
        generalize wr.heap.size = c3 at *
        go_wp2
        go_loopw [10] (fun i wx => ∃ k : Nat, k ≤ m.length ∧ i = .int .i64 (k : Int) ∧ Quad d w wx d r (((St.new 500).run l).run (m.take k)) c3 e3 ((St.new 500).run l)) (fun i _ => m.length - (intOf i).toNat)
        case atStart => exact ⟨0, Nat.zero_le _, rfl, HQ.out⟩
        case round =>
          obtain ⟨k, hk, rfl, hq⟩ := hrel
          have HQK := Lib.hid hq
          have hbel := hq.bel
          clear hq
          by_cases hlt : k < m.length
          · obtain ⟨b, o, rfl, hbs, x0, x1, x2, x3, x4, x5, x6, x7⟩ := (HM.out.below (by rw [HD.out]; exact hbel)).eight k hlt
            have HDO := Lib.hid (HQK.out.do m[k] (HFIM.out _ (List.getElem_mem hlt)) (HRG.out k))
            rw [← run_snoc _ _ _ hlt] at HDO
            rw [(show (m[k]).cells.toArray = #[.int .i64 m[k].kind, .int .i64 m[k].frm, .int .i64 m[k].tgt, .int .i64 m[k].n, .int .i64 m[k].m, .string (bstr m[k].name), .string (bstr m[k].data), .bool m[k].raw] from rfl)] at HDO
            clear hbel hbs
            unfold ptr at HDO
            generalize bstr m[k].name = X5 at *
            generalize bstr m[k].data = X6 at *
            generalize m[k].kind = X0 at *
            generalize m[k].frm = X1 at *
            generalize m[k].tgt = X2 at *
            generalize m[k].n = X3 at *
            generalize m[k].m = X4 at *
            generalize m[k].raw = X7 at *
            go_wp2_with fail
            go_at_call 28
            refine HDO.out.mono ?_
            rintro e w2 ⟨rfl, h2⟩
            have HN2 := Lib.hid h2
            clear h2
            go_wp2
            go_roundw
            case rel => exact ⟨k + 1, by omega, by go_num, HN2.out⟩
            case measure => simp [intOf]; omega
          · obtain rfl : k = m.length := by omega
            have HA1 := Lib.hid (HQK.out.agree (HRG.out _))
            unfold ptr at HA1
            clear hbel
            go_wp2_with fail
            go_at_call 29
            refine HA1.out.mono ?_
            rintro e w4 ⟨rfl, h4⟩
            have HA2 := Lib.hid (h4.swap.agree (show ((St.new 500).run l).Fit by have := HRG.out 0; rwa [List.take_zero] at this))
            unfold ptr at HA2
            clear h4
            go_wp2_with fail
            go_at_call 29
            refine HA2.out.mono ?_
            rintro e w5 ⟨rfl, h5⟩
            have HQ5 := Lib.hid h5
            clear h5
            go_wp2
            go_loopw [11] (fun i wx => ∃ k : Nat, k ≤ m.length ∧ i = .int .i64 (k : Int) ∧ Quad d w wx c3 e3 (((St.new 500).run l).run (m.take k)) d r (((St.new 500).run l).run (m.take m.length))) (fun i _ => m.length - (intOf i).toNat)
            case atStart => exact ⟨0, Nat.zero_le _, rfl, HQ5.out⟩
            case round =>
              obtain ⟨k, hk, rfl, hq⟩ := hrel
              have HQK := Lib.hid hq
              have hbel := hq.bel
              clear hq
              by_cases hlt : k < m.length
              · obtain ⟨b, o, rfl, hbs, x0, x1, x2, x3, x4, x5, x6, x7⟩ := (HM.out.below (by rw [HD.out]; exact hbel)).eight k hlt
                have HDO := Lib.hid (HQK.out.do m[k] (HFIM.out _ (List.getElem_mem hlt)) (HRG.out k))
                rw [← run_snoc _ _ _ hlt] at HDO
                rw [(show (m[k]).cells.toArray = #[.int .i64 m[k].kind, .int .i64 m[k].frm, .int .i64 m[k].tgt, .int .i64 m[k].n, .int .i64 m[k].m, .string (bstr m[k].name), .string (bstr m[k].data), .bool m[k].raw] from rfl)] at HDO
                clear hbel hbs
                unfold ptr at HDO
                generalize bstr m[k].name = X5 at *
                generalize bstr m[k].data = X6 at *
                generalize m[k].kind = X0 at *
                generalize m[k].frm = X1 at *
                generalize m[k].tgt = X2 at *
                generalize m[k].n = X3 at *
                generalize m[k].m = X4 at *
                generalize m[k].raw = X7 at *
                go_wp2_with fail
                go_at_call 28
                refine HDO.out.mono ?_
                rintro e w2 ⟨rfl, h2⟩
                have HN2 := Lib.hid h2
                clear h2
                go_wp2
                go_roundw
                case rel => exact ⟨k + 1, by omega, by go_num, HN2.out⟩
                case measure => simp [intOf]; omega
              · obtain rfl : k = m.length := by omega
                have HA3 := Lib.hid (HQK.out.agree (HRG.out _))
                unfold ptr at HA3
                clear hbel
                go_wp2_with fail
                go_at_call 29
                refine HA3.out.mono ?_
                rintro e w6 ⟨rfl, h6⟩
                have HA4 := Lib.hid (h6.swap.cross (HRG.out _))
                unfold ptr at HA4
                clear h6
                go_wp2_with fail
                go_at_call 29
                refine HA4.out.mono ?_
                rintro e w7 ⟨rfl, h7⟩
                have HQ7 := Lib.hid h7
                clear h7
                go_wp2_with fail
                go_at_call 19
                refine (HAW.out _).mono ?_
                rintro e w' ⟨rfl, hb⟩
                have HBB := Lib.hid (HQ7.out.below hb).bel
                clear hb
                go_wp2
                go_ret
                exact ⟨rfl, by rw [HD.out]; exact HBB.out⟩

end Go.Proofs.Ytbfgkcgnhgfkmaa.Dk
