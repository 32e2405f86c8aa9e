/-
  The walk of DiskSyncKeeps: it returns true. (Written by wip/gen/gen_synck.py.)
-/
import Derived.Test.YtbfgkcgnhgfkmaaDkKeep
namespace Go.Proofs.Ytbfgkcgnhgfkmaa.Dk
open Go Go.Maps Go.RowKit Go.Proofs.Ytbfgkcgnhgfkmaa.Slc
set_option linter.unusedVariables false
set_option linter.unusedSimpArgs false

set_option maxHeartbeats 8000000 in
set_option maxRecDepth 10000 in
theorem law_sync (v : Value) (l : List Cl) (u : Value) (m : List Cl) (w : World) (hA : Arg w v l) (hin : ∀ c ∈ l, c.In) (hl : l.length ≤ 9223372036854775807) (hAm : Arg w u m) (him : ∀ c ∈ m, c.In) (hm : m.length ≤ 9223372036854775807) :
    Calls Try.prog 6 #[v, u] w fun e w' => e = .returned (.bool true) ∧ Below w.heap.size w w' := by
  have hsh := short_any w v l hA hin hl
  have hsm := short_any w u m hAm him hm
  have HAW := Lib.hid (fun W => awake_any W)
  have HL := Lib.hid hl
  obtain ⟨ad, c, rfl, -⟩ := id hA
  obtain ⟨ae, c', rfl, -⟩ := id hAm
  have HA := Lib.hid hA
  have HM := Lib.hid hAm
  cases hs : shortB l with
  | false =>
    rw [hs] at hsh
    clear hA hin hAm him hsm
    go_enter Try.func6, Try.ntmps6
    go_wp2_with fail
    go_at_call 26
    refine hsh.mono ?_
    rintro e w' ⟨rfl, rfl⟩
    go_wp2_with fail
    go_at_call 19
    refine (HAW.out _).mono ?_
    rintro e w' ⟨rfl, hb⟩
    go_wp2
    go_ret
    exact ⟨rfl, hb⟩
  | true =>
   rw [hs] at hsh
   cases hs2 : shortB m with
   | false =>
    rw [hs2] at hsm
    clear hA hin hAm him
    go_enter Try.func6, Try.ntmps6
    go_wp2_with fail
    go_at_call 26
    refine hsh.mono ?_
    rintro e w' ⟨rfl, rfl⟩
    go_wp2_with fail
    go_at_call 26
    refine hsm.mono ?_
    rintro e w' ⟨rfl, rfl⟩
    go_wp2_with fail
    go_at_call 19
    refine (HAW.out _).mono ?_
    rintro e w' ⟨rfl, hb⟩
    go_wp2
    go_ret
    exact ⟨rfl, hb⟩
   | true =>
    rw [hs2] at hsm
    have hlen := short_len hs
    have hfit := short_fit hs hin
    have hlem := short_len hs2
    have hfim := short_fit hs2 him
    have HFIT := Lib.hid hfit
    have HFIM := Lib.hid hfim
    have HN0 := Lib.hid (new_rep w 2000 (by omega))
    have HRN := Lib.hid (fun W => rnew_any 2000 W (by omega))
    have HRF := Lib.hid (fun k => run_Fit (St.new 2000) l k hfit hlen (by rw [new_wt]; omega) (by simp [St.new]))
    have hr0 := run_fit l (St.new 2000) hfit
    rw [new_wt] at hr0
    have hz : (St.new 2000).ops.length = 0 := rfl
    rw [hz] at hr0
    have HRE := Lib.hid (show ((St.new 2000).run l).ops.length ≤ 10000 by omega)
    have HNM := Lib.hid ((St.Nm.new 2000).run l hfit)
    have HW0 := Lib.hid (show ((St.new 2000).run l).wt ≤ 8000 by omega)
    have HO0 := Lib.hid (show ((St.new 2000).run l).ops.length ≤ 40 by omega)
    have h10 := new_any 2000 w
    clear hA hin hAm him hfit hfim hs hs2 hr0 hz
    go_enter Try.func6, Try.ntmps6
    go_wp2_with fail
    go_at_call 26
    refine hsh.mono ?_
    rintro e w' ⟨rfl, rfl⟩
    go_wp2_with fail
    go_at_call 26
    refine hsm.mono ?_
    rintro e w' ⟨rfl, rfl⟩
    go_wp2_with fail
    go_at_call 20
    refine h10.mono ?_
    rintro e w0 ⟨rfl, hw0⟩
    rw [← hw0] at HN0
    clear h10 hw0 hsh hsm
    generalize hd : w.heap.size = d at *
    have HD := Lib.hid hd
    clear hd
    go_wp2_with fail
    go_at_call 27
    refine (HRN.out _).mono ?_
    rintro e w1 ⟨rfl, hr1, hb1⟩
    have HB1 := Lib.hid (NewB.made HN0.out hr1 hb1)
    clear hr1 hb1
    generalize w0.heap.size = r at *
    unfold ptr
    go_wp2
    go_loopw [7] (fun i wx => ∃ k : Nat, k ≤ l.length ∧ i = .int .i64 (k : Int) ∧ NewB d w wx d r ((St.new 2000).run (l.take k)) ((St.new 2000).run (l.take k))) (fun i _ => l.length - (intOf i).toNat)
    case atStart => exact ⟨0, Nat.zero_le _, rfl, HB1.out⟩
    case round =>
      obtain ⟨k, hk, rfl, hnb⟩ := hrel
      have HNB := Lib.hid hnb
      have hbel := hnb.bel
      clear hnb
      by_cases hlt : k < l.length
      · obtain ⟨b, o, rfl, hbs, x0, x1, x2, x3, x4, x5, x6, x7⟩ := (HA.out.below (by rw [HD.out]; exact hbel)).eight k hlt
        have HDO := Lib.hid (HNB.out.do l[k] (HFIT.out _ (List.getElem_mem hlt)) (HRF.out k) (HRF.out k))
        rw [← run_snoc _ _ _ hlt] at HDO
        rw [beq_self_eq_true] at HDO
        rw [(show (l[k]).cells.toArray = #[.int .i64 l[k].kind, .int .i64 l[k].frm, .int .i64 l[k].tgt, .int .i64 l[k].n, .int .i64 l[k].m, .string (bstr l[k].name), .string (bstr l[k].data), .bool l[k].raw] from rfl)] at HDO
        clear hbel hbs
        unfold ptr at HDO
        generalize bstr l[k].name = X5 at *
        generalize bstr l[k].data = X6 at *
        generalize l[k].kind = X0 at *
        generalize l[k].frm = X1 at *
        generalize l[k].tgt = X2 at *
        generalize l[k].n = X3 at *
        generalize l[k].m = X4 at *
        generalize l[k].raw = X7 at *
        go_wp2_with fail
        go_at_call 28
        refine HDO.out.mono ?_
        rintro e w2 ⟨rfl, h2⟩
        have HN2 := Lib.hid h2
        clear h2
        go_wp2
        go_roundw
        case rel => exact ⟨k + 1, by omega, by go_num, HN2.out⟩
        case measure => simp [intOf]; omega
      · obtain rfl : k = l.length := by omega
        rw [List.take_length] at HNB
        generalize hs1 : (St.new 2000).run l = s1 at *
        have HT2 := Lib.hid hs1
        clear hs1 hbel
        cases hoff : s1.off with
        | true =>
          have hfz := HNB.out.fuse (-1) ⟨by omega, by omega⟩
          rw [fuse_off hoff] at hfz
          have HSO := Lib.hid (sync_off hoff)
          have hcz := crash_zero s1
          have hcw := crash_wt s1 0 0
          have HCZ := Lib.hid hcz
          have HCN := Lib.hid (HNM.out.crash 0 0)
          have HSW := Lib.hid (sync_wt (s1.crash 0 0))
          have HSY := Lib.hid (sync_of hcz.2.2.2)
          have HCS := Lib.hid (calm_sync hcz.2.2.2)
          have HWX := Lib.hid (show (s1.crash 0 0).sync.1.wt ≤ 8000 by have := (sync_wt (s1.crash 0 0)).1; have := hcw.1; have := HW0.out; omega)
          have HNS := Lib.hid HCN.out.sync
          clear hcz hcw hoff
          go_wp2_with fail
          go_at_call 30
          refine hfz.mono ?_
          rintro e wa ⟨rfl, ha⟩
          have HNA := Lib.hid ha
          clear ha hfz
          have hsy := HNA.out.sync
          rw [HSO.out] at hsy
          go_wp2_with fail
          go_at_call 22
          refine hsy.mono ?_
          rintro e wb ⟨rfl, hb⟩
          have HNBB := Lib.hid hb
          clear hb hsy
          have hcr := HNBB.out.crash 0 0 (by have := HO0.out; omega) ⟨by omega, by omega⟩ ⟨by omega, by omega⟩
          go_wp2_with fail
          go_at_call 24
          refine hcr.mono ?_
          rintro e wc ⟨rfl, hc⟩
          have HNC := Lib.hid hc
          clear hc hcr
          have hsz := HNC.out.sync
          rw [show (s1.crash 0 0).sync.2 = 0 by rw [HSY.out]] at hsz
          generalize hs2 : (s1.crash 0 0).sync.1 = s2 at *
          go_wp2_with fail
          go_at_call 22
          refine hsz.mono ?_
          rintro e w2 ⟨rfl, h2⟩
          have HN2 := Lib.hid h2
          have HCM2 := Lib.hid HCS.out
          have HNM2 := Lib.hid HNS.out
          have HW2 := Lib.hid HWX.out
          generalize ht2 : s1 = t2 at HN2
          have HT2 := Lib.hid ht2
          clear h2 hsz hs2 HCS HNS HWX HSY HSW HCZ HCN HSO ht2
          have HTW := Lib.hid (show t2.wt ≤ 8000 by rw [← HT2.out]; exact HW0.out)
          have HTO := Lib.hid (show t2.ops.length ≤ 40 by rw [← HT2.out]; exact HO0.out)
          go_wp2_with fail
          go_at_call 31
          refine (HN2.out.left.cont HNM2.out).mono ?_
          rintro e w3 ⟨wv, rfl, how, hbw⟩
          have HK := Lib.hid (HN2.out.beside hbw)
          have HOW := Lib.hid how
          obtain ⟨wa, wcp, hwf, -⟩ := how.rd.form
          subst hwf
          have HCL := Lib.hid (cont_len s2 HN2.out.left.ok)
          clear how hbw
          generalize hSW : w2.heap.size = sw at *
          clear hSW
          go_wp2
          go_loopw [9] (fun i wx => ∃ (k : Nat) (u t : St), k ≤ m.length ∧ i = .int .i64 (k : Int) ∧ NewK (fun z => sw ≤ z ∧ z < w3.heap.size) w3 d w wx d r u t ∧ u.dur = s2.dur ∧ u.left = -1 ∧ u.Nm ∧ u.wt ≤ 8000 + 200 * k ∧ u.ops.length ≤ 60 + k ∧ t.wt ≤ 8000 + 200 * k ∧ t.ops.length ≤ 60 + k) (fun i _ => m.length - (intOf i).toNat)
          case atStart => exact ⟨0, s2, t2, Nat.zero_le _, rfl, HK.out, rfl, HCM2.out.left, HNM2.out, HW2.out, by rw [HCM2.out.ops]; simp, HTW.out, by have := HTO.out; omega⟩
          case round =>
            obtain ⟨k, u, t, hk, rfl, hq, hu1, hu2, hu3, hu4, hu5, hu6, hu7⟩ := hrel
            have HQK := Lib.hid hq
            have hbel := hq.toB.bel
            have HU1 := Lib.hid hu1
            have HU2 := Lib.hid hu2
            have HU3 := Lib.hid hu3
            have HU4 := Lib.hid hu4
            have HU5 := Lib.hid hu5
            have HU6 := Lib.hid hu6
            have HU7 := Lib.hid hu7
            have HML := Lib.hid hlem
            clear hq hu1 hu2 hu3 hu4 hu5 hu6 hu7
            by_cases hlt : k < m.length
            · obtain ⟨b, o, rfl, hbs, x0, x1, x2, x3, x4, x5, x6, x7⟩ := (HM.out.below (by rw [HD.out]; exact hbel)).eight k hlt
              have hfk := HFIM.out _ (List.getElem_mem hlt)
              have HDO := Lib.hid (HQK.out.do m[k] hfk ⟨by have := HU5.out; omega, by have := HU4.out; omega⟩ ⟨by have := HU7.out; omega, by have := HU6.out; omega⟩)
              have HSM := Lib.hid (small_any m[k].kind 6 wr hfk.ok.kind.1 hfk.ok.kind.2 (by omega) (by omega))
              have HCK := Lib.hid (fun (hk3 : m[k].kind % 6 < 3) => call_keeps HU2.out m[k] hk3)
              have HNK := Lib.hid (HU3.out.call m[k] hfk)
              have HWU := Lib.hid (call_wt u m[k])
              have HWT := Lib.hid (call_wt t m[k])
              have HDL := Lib.hid hfk.data
              generalize (u.call m[k]).1 = u' at *
              generalize (t.call m[k]).1 = t' at *
              generalize hbb : ((u.call m[k]).2 == (t.call m[k]).2) = bb at *
              clear hbb
              rw [(show (m[k]).cells.toArray = #[.int .i64 m[k].kind, .int .i64 m[k].frm, .int .i64 m[k].tgt, .int .i64 m[k].n, .int .i64 m[k].m, .string (bstr m[k].name), .string (bstr m[k].data), .bool m[k].raw] from rfl)] at HDO
              generalize hDL : m[k].data.length = DL at *
              clear hbel hbs hfk hDL
              unfold ptr at HDO
              generalize bstr m[k].name = X5 at *
              generalize bstr m[k].data = X6 at *
              generalize m[k].kind = X0 at *
              generalize m[k].frm = X1 at *
              generalize m[k].tgt = X2 at *
              generalize m[k].n = X3 at *
              generalize m[k].m = X4 at *
              generalize m[k].raw = X7 at *
              have hx6 : 0 ≤ X0 % 6 ∧ X0 % 6 < 6 := by omega
              generalize X0 % 6 = kk at *
              by_cases hk3 : kk < 3
              · obtain ⟨ck1, ck2⟩ := HCK.out hk3
                have CK1 := Lib.hid ck1
                have CK2 := Lib.hid ck2
                clear ck1 ck2
                go_wp2_with fail
                go_at_call 23
                refine HSM.out.mono ?_
                rintro e w' ⟨rfl, rfl⟩
                go_wp2_with fail
                go_at_call 28
                refine HDO.out.mono ?_
                rintro e w5 ⟨rfl, h5⟩
                have HN5 := Lib.hid h5
                clear h5
                go_wp2
                go_roundw
                case rel => exact ⟨k + 1, u', t', by omega, by go_num, HN5.out, by rw [CK1.out, HU1.out], CK2.out, HNK.out, by have := HWU.out.1; have := HU4.out; have := HDL.out; omega, by have := HWU.out.2; have := HU5.out; omega, by have := HWT.out.1; have := HU6.out; have := HDL.out; omega, by have := HWT.out.2; have := HU7.out; omega⟩
                case measure => simp [intOf]; omega
              · go_wp2_with fail
                go_at_call 23
                refine HSM.out.mono ?_
                rintro e w' ⟨rfl, rfl⟩
                go_wp2
                go_roundw
                case rel => exact ⟨k + 1, u, t, by omega, by go_num, HQK.out, HU1.out, HU2.out, HU3.out, by have := HU4.out; omega, by have := HU5.out; omega, by have := HU6.out; omega, by have := HU7.out; omega⟩
                case measure => simp [intOf]; omega
            · obtain rfl : k = m.length := by omega
              have HCO := Lib.hid (cont_keeps HCM2.out HU1.out)
              have HNC := Lib.hid (HU3.out.crash 0 0)
              have HOC := Lib.hid (crash_zero u).2.2.1
              have hcr := HQK.out.crash 0 0 (by have := HU5.out; omega) ⟨by omega, by omega⟩ ⟨by omega, by omega⟩
              generalize u.crash 0 0 = uc at *
              clear hbel
              go_wp2_with fail
              go_at_call 24
              refine hcr.mono ?_
              rintro e w6 ⟨rfl, h6⟩
              have HN6 := Lib.hid h6
              clear h6 hcr
              go_wp2_with fail
              go_at_call 31
              refine (HN6.out.toB.left.cont HNC.out).mono ?_
              rintro e w7 ⟨wv7, rfl, how7, hb7⟩
              have HN7 := Lib.hid (HN6.out.below hb7)
              have HO7 := Lib.hid how7.rd
              obtain ⟨wa7, wc7, hwf7, -⟩ := how7.rd.form
              subst hwf7
              clear how7 hb7
              rw [HCO.out] at HO7
              have hsame := same_any w7 _ _ s2.cont s2.cont HO7.out (HN7.out.rd HOW.out.rd fun z hz => HOW.out.lt z hz) HCL.out HCL.out
              rw [decide_eq_true rfl] at hsame
              have hcl : (s2.cont).length = (s2.cont).length := rfl
              generalize hcc : (s2.cont).length = cl at *
              rw [HCO.out] at *
              rw [hcc] at *
              clear hcc hcl
              go_wp2_with fail
              go_at_call 32
              refine hsame.mono ?_
              rintro e w8 ⟨rfl, hb8⟩
              have HN8 := Lib.hid (HN7.out.below hb8)
              have hpd := HN8.out.toB.left.pend
              rw [HOC.out] at hpd
              clear hb8 hsame
              go_wp2_with fail
              go_at_call 33
              refine hpd.mono ?_
              rintro e w' ⟨rfl, rfl⟩
              go_wp2_with fail
              go_at_call 19
              refine (HAW.out _).mono ?_
              rintro e w' ⟨rfl, hb⟩
              have HBB := Lib.hid (HN8.out.toB.below hb).bel
              clear hb
              go_wp2
              go_ret
              exact ⟨rfl, by rw [HD.out]; exact HBB.out⟩
        | false =>
          have hfz := HNB.out.fuse (-1) ⟨by omega, by omega⟩
          have hfl := fuse_on hoff
          have hfw := fuse_wt s1 (-1)
          have HFN := Lib.hid (HNM.out.fuse (-1))
          generalize s1.fuse (-1) = s3 at *
          have HSY := Lib.hid (sync_of hfl)
          have HCS := Lib.hid (calm_sync hfl)
          have HWX := Lib.hid (show s3.sync.1.wt ≤ 8000 by have := (sync_wt s3).1; have := hfw.1; have := HW0.out; omega)
          have HNS := Lib.hid HFN.out.sync
          clear hfl hfw hoff
          go_wp2_with fail
          go_at_call 30
          refine hfz.mono ?_
          rintro e wa ⟨rfl, ha⟩
          have HNA := Lib.hid ha
          clear ha hfz
          have hsz := HNA.out.sync
          rw [show s3.sync.2 = 0 by rw [HSY.out]] at hsz
          generalize hs2 : s3.sync.1 = s2 at *
          go_wp2_with fail
          go_at_call 22
          refine hsz.mono ?_
          rintro e w2 ⟨rfl, h2⟩
          have HN2 := Lib.hid h2
          have HCM2 := Lib.hid HCS.out
          have HNM2 := Lib.hid HNS.out
          have HW2 := Lib.hid HWX.out
          generalize ht2 : s1 = t2 at HN2
          have HT2 := Lib.hid ht2
          clear h2 hsz hs2 HCS HNS HWX HSY HFN ht2
          have HTW := Lib.hid (show t2.wt ≤ 8000 by rw [← HT2.out]; exact HW0.out)
          have HTO := Lib.hid (show t2.ops.length ≤ 40 by rw [← HT2.out]; exact HO0.out)
          go_wp2_with fail
          go_at_call 31
          refine (HN2.out.left.cont HNM2.out).mono ?_
          rintro e w3 ⟨wv, rfl, how, hbw⟩
          have HK := Lib.hid (HN2.out.beside hbw)
          have HOW := Lib.hid how
          obtain ⟨wa, wcp, hwf, -⟩ := how.rd.form
          subst hwf
          have HCL := Lib.hid (cont_len s2 HN2.out.left.ok)
          clear how hbw
          generalize hSW : w2.heap.size = sw at *
          clear hSW
          go_wp2
          go_loopw [9] (fun i wx => ∃ (k : Nat) (u t : St), k ≤ m.length ∧ i = .int .i64 (k : Int) ∧ NewK (fun z => sw ≤ z ∧ z < w3.heap.size) w3 d w wx d r u t ∧ u.dur = s2.dur ∧ u.left = -1 ∧ u.Nm ∧ u.wt ≤ 8000 + 200 * k ∧ u.ops.length ≤ 60 + k ∧ t.wt ≤ 8000 + 200 * k ∧ t.ops.length ≤ 60 + k) (fun i _ => m.length - (intOf i).toNat)
          case atStart => exact ⟨0, s2, t2, Nat.zero_le _, rfl, HK.out, rfl, HCM2.out.left, HNM2.out, HW2.out, by rw [HCM2.out.ops]; simp, HTW.out, by have := HTO.out; omega⟩
          case round =>
            obtain ⟨k, u, t, hk, rfl, hq, hu1, hu2, hu3, hu4, hu5, hu6, hu7⟩ := hrel
            have HQK := Lib.hid hq
            have hbel := hq.toB.bel
            have HU1 := Lib.hid hu1
            have HU2 := Lib.hid hu2
            have HU3 := Lib.hid hu3
            have HU4 := Lib.hid hu4
            have HU5 := Lib.hid hu5
            have HU6 := Lib.hid hu6
            have HU7 := Lib.hid hu7
            have HML := Lib.hid hlem
            clear hq hu1 hu2 hu3 hu4 hu5 hu6 hu7
            by_cases hlt : k < m.length
            · obtain ⟨b, o, rfl, hbs, x0, x1, x2, x3, x4, x5, x6, x7⟩ := (HM.out.below (by rw [HD.out]; exact hbel)).eight k hlt
              have hfk := HFIM.out _ (List.getElem_mem hlt)
              have HDO := Lib.hid (HQK.out.do m[k] hfk ⟨by have := HU5.out; omega, by have := HU4.out; omega⟩ ⟨by have := HU7.out; omega, by have := HU6.out; omega⟩)
              have HSM := Lib.hid (small_any m[k].kind 6 wr hfk.ok.kind.1 hfk.ok.kind.2 (by omega) (by omega))
              have HCK := Lib.hid (fun (hk3 : m[k].kind % 6 < 3) => call_keeps HU2.out m[k] hk3)
              have HNK := Lib.hid (HU3.out.call m[k] hfk)
              have HWU := Lib.hid (call_wt u m[k])
              have HWT := Lib.hid (call_wt t m[k])
              have HDL := Lib.hid hfk.data
              generalize (u.call m[k]).1 = u' at *
              generalize (t.call m[k]).1 = t' at *
              generalize hbb : ((u.call m[k]).2 == (t.call m[k]).2) = bb at *
              clear hbb
              rw [(show (m[k]).cells.toArray = #[.int .i64 m[k].kind, .int .i64 m[k].frm, .int .i64 m[k].tgt, .int .i64 m[k].n, .int .i64 m[k].m, .string (bstr m[k].name), .string (bstr m[k].data), .bool m[k].raw] from rfl)] at HDO
              generalize hDL : m[k].data.length = DL at *
              clear hbel hbs hfk hDL
              unfold ptr at HDO
              generalize bstr m[k].name = X5 at *
              generalize bstr m[k].data = X6 at *
              generalize m[k].kind = X0 at *
              generalize m[k].frm = X1 at *
              generalize m[k].tgt = X2 at *
              generalize m[k].n = X3 at *
              generalize m[k].m = X4 at *
              generalize m[k].raw = X7 at *
              have hx6 : 0 ≤ X0 % 6 ∧ X0 % 6 < 6 := by omega
              generalize X0 % 6 = kk at *
              by_cases hk3 : kk < 3
              · obtain ⟨ck1, ck2⟩ := HCK.out hk3
                have CK1 := Lib.hid ck1
                have CK2 := Lib.hid ck2
                clear ck1 ck2
                go_wp2_with fail
                go_at_call 23
                refine HSM.out.mono ?_
                rintro e w' ⟨rfl, rfl⟩
                go_wp2_with fail
                go_at_call 28
                refine HDO.out.mono ?_
                rintro e w5 ⟨rfl, h5⟩
                have HN5 := Lib.hid h5
                clear h5
                go_wp2
                go_roundw
                case rel => exact ⟨k + 1, u', t', by omega, by go_num, HN5.out, by rw [CK1.out, HU1.out], CK2.out, HNK.out, by have := HWU.out.1; have := HU4.out; have := HDL.out; omega, by have := HWU.out.2; have := HU5.out; omega, by have := HWT.out.1; have := HU6.out; have := HDL.out; omega, by have := HWT.out.2; have := HU7.out; omega⟩
                case measure => simp [intOf]; omega
              · go_wp2_with fail
                go_at_call 23
                refine HSM.out.mono ?_
                rintro e w' ⟨rfl, rfl⟩
                go_wp2
                go_roundw
                case rel => exact ⟨k + 1, u, t, by omega, by go_num, HQK.out, HU1.out, HU2.out, HU3.out, by have := HU4.out; omega, by have := HU5.out; omega, by have := HU6.out; omega, by have := HU7.out; omega⟩
                case measure => simp [intOf]; omega
            · obtain rfl : k = m.length := by omega
              have HCO := Lib.hid (cont_keeps HCM2.out HU1.out)
              have HNC := Lib.hid (HU3.out.crash 0 0)
              have HOC := Lib.hid (crash_zero u).2.2.1
              have hcr := HQK.out.crash 0 0 (by have := HU5.out; omega) ⟨by omega, by omega⟩ ⟨by omega, by omega⟩
              generalize u.crash 0 0 = uc at *
              clear hbel
              go_wp2_with fail
              go_at_call 24
              refine hcr.mono ?_
              rintro e w6 ⟨rfl, h6⟩
              have HN6 := Lib.hid h6
              clear h6 hcr
              go_wp2_with fail
              go_at_call 31
              refine (HN6.out.toB.left.cont HNC.out).mono ?_
              rintro e w7 ⟨wv7, rfl, how7, hb7⟩
              have HN7 := Lib.hid (HN6.out.below hb7)
              have HO7 := Lib.hid how7.rd
              obtain ⟨wa7, wc7, hwf7, -⟩ := how7.rd.form
              subst hwf7
              clear how7 hb7
              rw [HCO.out] at HO7
              have hsame := same_any w7 _ _ s2.cont s2.cont HO7.out (HN7.out.rd HOW.out.rd fun z hz => HOW.out.lt z hz) HCL.out HCL.out
              rw [decide_eq_true rfl] at hsame
              have hcl : (s2.cont).length = (s2.cont).length := rfl
              generalize hcc : (s2.cont).length = cl at *
              rw [HCO.out] at *
              rw [hcc] at *
              clear hcc hcl
              go_wp2_with fail
              go_at_call 32
              refine hsame.mono ?_
              rintro e w8 ⟨rfl, hb8⟩
              have HN8 := Lib.hid (HN7.out.below hb8)
              have hpd := HN8.out.toB.left.pend
              rw [HOC.out] at hpd
              clear hb8 hsame
              go_wp2_with fail
              go_at_call 33
              refine hpd.mono ?_
              rintro e w' ⟨rfl, rfl⟩
              go_wp2_with fail
              go_at_call 19
              refine (HAW.out _).mono ?_
              rintro e w' ⟨rfl, hb⟩
              have HBB := Lib.hid (HN8.out.toB.below hb).bel
              clear hb
              go_wp2
              go_ret
              exact ⟨rfl, by rw [HD.out]; exact HBB.out⟩

end Go.Proofs.Ytbfgkcgnhgfkmaa.Dk
