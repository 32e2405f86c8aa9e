/-
  The walk of DiskCrashPrefix: it returns true.
-/
import Derived.Test.YtbfgkcgnhgfkmaaDkMany
namespace Go.Proofs.Ytbfgkcgnhgfkmaa.Dk
open Go Go.Maps Go.RowKit Go.Proofs.Ytbfgkcgnhgfkmaa.Slc
set_option linter.unusedVariables false
set_option linter.unusedSimpArgs false

def PfF (W : World) (d : Nat) (c : Cl) : Nat → Value → World → Prop
  | 0, v, _ => v = ptr d
  | 1, v, w => ∃ r, v = ptr r ∧ W.heap.size ≤ r ∧ RepR w r (St.new 0) (fun k => k = r) (fun _ => False)
  | 2, v, _ => v = .agg c.cells.toArray
  | _, _, _ => True
theorem PfF.stable (W : World) (d : Nat) (c : Cl) (i : Nat) (v : Value) (w w' : World) (h : PfF W d c i v w) (hb : Below w.heap.size w w') : PfF W d c i v w' := by
  match i with
  | 0 | 2 => exact h
  | 1 => obtain ⟨r, h1, h2, h3⟩ := h; exact ⟨r, h1, h2, h3.below hb⟩
  | _ + 3 => exact trivial

set_option maxHeartbeats 8000000 in
set_option maxRecDepth 10000 in
theorem law_prefix (v : Value) (l : List Cl) (kp : Int) (w : World) (hkp : i64ok kp) (hA : Arg w v l) (hin : ∀ c ∈ l, c.In) (hl : l.length ≤ 9223372036854775807) :
    Calls Try.prog 8 #[v, .int .i64 kp] w fun e w' => e = .returned (.bool true) ∧ Below w.heap.size w w' := by
  obtain ⟨i0, hi0, hz0, hz1, hz2⟩ := info_parts info_dk
  have hsh := short_any w v l hA hin hl
  have HAW := Lib.hid (fun W => awake_any W)
  have HL := Lib.hid hl
  obtain ⟨ad, c, rfl, -⟩ := id hA
  have HA := Lib.hid hA
  have HKP := Lib.hid hkp
  obtain ⟨hkp0, hkp1⟩ := hkp
  cases hs : shortB l with
  | false =>
    rw [hs] at hsh
    clear hA hin
    go_enter Try.func8, Try.ntmps8
    go_wp2_with fail
    go_at_call 26
    refine hsh.mono ?_
    rintro e w' ⟨rfl, rfl⟩
    go_wp2_with fail
    go_at_call 19
    refine (HAW.out _).mono ?_
    rintro e w' ⟨rfl, hb⟩
    go_wp2
    go_ret
    exact ⟨rfl, hb⟩
  | true =>
   rw [hs] at hsh
   by_cases h20 : 20 < l.length
   · clear hA hin
     go_enter Try.func8, Try.ntmps8
     go_wp2_with fail
     go_at_call 26
     refine hsh.mono ?_
     rintro e w' ⟨rfl, rfl⟩
     go_wp2_with fail
     go_at_call 19
     refine (HAW.out _).mono ?_
     rintro e w' ⟨rfl, hb⟩
     go_wp2
     go_ret
     exact ⟨rfl, hb⟩
   · have h20' : decide ((20 : Int) < (l.length : Int)) = false := decide_eq_false (by omega)
     have hlen := short_len hs
     have hfit := short_fit hs hin
     have HFIT := Lib.hid hfit
     have HN0 := Lib.hid (new_rep w 2000 (by omega))
     have HRN := Lib.hid (fun W => rnew_any 0 W (by omega))
     have h10 := new_any 2000 w
     clear hA hin hfit hs
     go_enter Try.func8, Try.ntmps8
     go_wp2_with fail
     go_at_call 26
     refine hsh.mono ?_
     rintro e w' ⟨rfl, rfl⟩
     go_wp2_with fail
     go_at_call 20
     refine h10.mono ?_
     rintro e w0 ⟨rfl, hw0⟩
     rw [← hw0] at HN0
     clear h10 hw0 hsh
     generalize hd : w.heap.size = d at *
     have HD := Lib.hid hd
     clear hd
     go_wp2_with fail
     go_at_call 37
     refine ((Many.start HN0.out).copy (by simp [St.new])).mono ?_
     rintro e w1 ⟨rfl, h1⟩
     have h1' : Many d w w1 d (St.new 2000) (.slice none 0 0) [] [(w0.heap.size, St.new 2000)] := h1
     generalize w0.heap.size = c0 at *
     clear h1
     have hbx : Below w1.heap.size w1 (w1.alloc (.cells #[ptr c0] 23)) := (Below.refl _ w1).alloc (Nat.le_refl _) _
     have hmb := h1'.below hbx
     have HMB := Lib.hid hmb
     have how := hmb.own
     have hbs := hmb.ge
     have hsn := src_ptr (heap_alloc_new w1 (.cells #[ptr c0] 23))
     clear h1' hmb hbx
     unfold ptr at *
     go_wp2_with (at_builtin; refine wpList_append_any rfl _ _ _ rfl d 23 i0 _ 1 8 und_dks hi0 hz0 hz1 hz2 rfl (by decide) _ 0 [] rfl how _ 1 ([c0].flatMap encP) rfl hsn ?ap1 ?ap2 hbs ?_)
     case ap1 => unfold maxLen; omega
     case ap2 => omega
     intro v3 w3 ha
     have HM3 : Hid (Many d w w3 d (St.new 2000) v3 [c0] [(c0, St.new 2000)]) := Lib.hid (HMB.out.put (c := c0) ha)
     obtain ⟨va, vc, hvf⟩ : ∃ va vc, v3 = .slice va 1 vc := by
       obtain ⟨va, vc, hq, -⟩ := HM3.out.own.rd.form
       exact ⟨va, vc, hq⟩
     subst hvf
     clear ha how hbs hsn
     go_wp2
     go_loopw [6, 7] (fun cv i wx => ∃ (k : Nat) (s : St) (L : List (Nat × St)) (cs : List Nat), k ≤ l.length ∧ i = .int .i64 (k : Int) ∧ cs = L.map (·.1) ∧ Many d w wx d s cv cs L ∧ Pre s L ∧ s.wt ≤ 200 * k ∧ s.ops.length ≤ k) (fun _ i _ => l.length - (intOf i).toNat)
     case atStart => exact ⟨0, St.new 2000, [(c0, St.new 2000)], [c0], Nat.zero_le _, rfl, rfl, HM3.out, Pre.start _ _, by rw [new_wt]; omega, by simp [St.new]⟩
     case round =>
       obtain ⟨k, s, L, cs, hk, rfl, hcs, hm, hpre, hwt, hop⟩ := hrel
       have HM := Lib.hid hm
       have HCS := Lib.hid hcs
       have HPRE := Lib.hid hpre
       have hbel := hm.left.bel
       have HCLL := Lib.hid (show cs.length = L.length ∧ L.length = s.ops.length + 1 from ⟨by rw [hcs, List.length_map], hpre.len⟩)
       have hcb : cs.length ≤ 21 := by have := HCLL.out; omega
       obtain ⟨va, vc, hvf, -⟩ := hm.own.rd.form
       subst hvf
       clear hm hcs hpre
       by_cases hlt : k < l.length
       · obtain ⟨b, o, rfl, hbs, x0, x1, x2, x3, x4, x5, x6, x7⟩ := (HA.out.below (by rw [HD.out]; exact hbel)).eight k hlt
         have hfk := HFIT.out _ (List.getElem_mem hlt)
         generalize l[k] = cl at *
         have HFK := Lib.hid hfk
         have HSM := Lib.hid (fun W => small_any cl.kind 6 W hfk.ok.kind.1 hfk.ok.kind.2 (by omega) (by omega))
         have hk0 : 0 ≤ cl.kind % 6 := by omega
         have hk6 : cl.kind % 6 < 6 := by omega
         have HOP := Lib.hid (fun hk3 : cl.kind % 6 < 3 => call_ops HPRE.out.left cl hk3)
         have HKE := Lib.hid (fun hk3 : cl.kind % 6 < 3 => call_keeps HPRE.out.left cl hk3)
         have HNM := Lib.hid (HPRE.out.nm.call cl hfk)
         have HWT := Lib.hid (call_wt s cl)
         have HDT := Lib.hid hfk.data
         have HSF := Lib.hid (show s.Fit from ⟨by omega, by omega⟩)
         generalize hmod : cl.kind % 6 = kk at *
         clear hmod hbel hbs hfk
         by_cases hk3 : kk < 3
         · go_wp2_with fail
           go_at_call 23
           refine (HSM.out _).mono ?_
           have hall := heap_alloc_new wr (boxC cl)
           have hbw : Below wr.heap.size wr (wr.alloc (boxC cl)) := (Below.refl _ wr).alloc (Nat.le_refl _) _
           rintro e w2 ⟨rfl, hw2⟩
           have hw2' : wr.alloc (boxC cl) = w2 := hw2
           rw [hw2'] at hall hbw
           clear hw2 hw2'
           have HMW := Lib.hid (HM.out.below hbw)
           generalize wr.heap.size = bx at *
           have HCL := Lib.hid (fun (W : World) (hb : Below w2.heap.size w2 W) => boxC_cells ((hb.block bx (lt_of_block hall)).trans hall))
           clear x0 x1 x2 x3 x4 x5 x6 x7 hbw hall
           have hpd := HMW.out.left.pend
           go_wp2_with fail
           go_at_call 33
           refine hpd.mono ?_
           rintro e w' ⟨rfl, rfl⟩
           clear hpd
           go_wp2_with fail
           refine wp_region_facts 3 (PfF w2 d cl) (by kernel_rfl) (by kernel_rfl) (by rfl) (PfF.stable w2 d cl) ?_ ?_
           · intro i o hi9 ho9 x w4 hb4 hd1
             have hc : i = 0 ∨ i = 1 ∨ i = 2 := by omega
             have HB4 := Lib.hid hb4
             obtain ⟨y0, y1, y2, y3, y4, y5, y6, y7⟩ := HCL.out w4 hb4
             simp only [List.take_succ_cons, List.take_zero, putFrom, Act.put, List.setIfInBounds_toArray, List.set_cons_succ, List.set_cons_zero, Nat.zero_add, Nat.reduceAdd]
             clear hb4
             rcases hc with rfl | rfl | rfl
             all_goals
               simp only [List.getElem?_cons_succ, List.getElem?_cons_zero, Option.some.injEq] at ho9
               subst ho9
               simp [Needs, Region.binds, PfF, ptr] at hd1
             all_goals clear hi9
             · go_wp2_with fail
               exact ⟨rfl, rfl, rfl, Below.refl _ _⟩
             · clear y0 y1 y2 y3 y4 y5 y6 y7
               go_wp2_with fail
               go_at_call 27
               refine (HRN.out _).mono ?_
               rintro e w5 ⟨rfl, hr5, hb5⟩
               have HR5 := Lib.hid hr5
               have HB5 := Lib.hid hb5
               clear hr5 hb5
               go_wp2_with fail
               exact ⟨rfl, rfl, ⟨_, rfl, HB4.out.size, HR5.out⟩, HB5.out⟩
             · go_wp2_with fail
               exact ⟨rfl, rfl, rfl, Below.refl _ _⟩
           · intro x w4 hb4 hf
             have f0 := hf 0 (by omega)
             have f1 := hf 1 (by omega)
             have f2 := hf 2 (by omega)
             simp only [PfF] at f0 f1 f2
             obtain ⟨r, f1, hr1, hr2⟩ := f1
             simp only [List.take_succ_cons, List.take_zero, List.drop_succ_cons, List.drop_zero, putFrom, Act.put, List.setIfInBounds_toArray, List.set_cons_succ, List.set_cons_zero, Nat.zero_add, Nat.reduceAdd, f0, f1, f2]
             have HDO := Lib.hid (HMW.out.do hb4 hr2 hr1 cl HFK.out HSF.out ⟨by simp [St.new], by rw [new_wt]; omega⟩)
             clear hf f0 f1 f2 hb4 hr1 hr2
             unfold ptr at *
             rcases HOP.out hk3 with hsame | ⟨xc, hx⟩
             · rw [hsame] at HDO
               go_wp2_with fail
               go_at_call 28
               refine HDO.out.mono ?_
               rintro e w5 ⟨⟨bb, rfl⟩, h5⟩
               have HM5 := Lib.hid h5
               have hpd := h5.left.pend
               clear h5 hsame
               go_wp2_with fail
               go_at_call 33
               refine hpd.mono ?_
               rintro e w' ⟨rfl, rfl⟩
               clear hpd
               go_wp2
               go_roundw
               case rel => exact ⟨k + 1, s, L, cs, by omega, by go_num, HCS.out, HM5.out, HPRE.out, by omega, by omega⟩
               case measure => simp [intOf]; omega
             · obtain ⟨ke1, ke2⟩ := HKE.out hk3
               have hxl : (s.call cl).1.ops.length = s.ops.length + 1 := by rw [hx]; simp
               have HPRM := Lib.hid (fun cc => HPRE.out.more (s' := (s.call cl).1) cc xc ke2 (by rw [ke1]; exact HPRE.out.dur) hx HNM.out)
               clear ke1 ke2 hx
               generalize (s.call cl).1 = s' at *
               go_wp2_with fail
               go_at_call 28
               refine HDO.out.mono ?_
               rintro e w5 ⟨⟨bb, rfl⟩, h5⟩
               have HM5 := Lib.hid h5
               have hpd := h5.left.pend
               rw [hxl] at hpd
               clear h5
               go_wp2_with fail
               go_at_call 33
               refine hpd.mono ?_
               rintro e w' ⟨rfl, rfl⟩
               clear hpd
               have hcp := HM5.out.copy (by omega)
               unfold ptr at hcp
               generalize w5.heap.size = c5 at *
               go_wp2_with fail
               go_at_call 37
               refine hcp.mono ?_
               rintro e w6 ⟨rfl, h6⟩
               clear hcp
               have hbx : Below w6.heap.size w6 (w6.alloc (.cells #[.pointer (some ⟨c5, 0, none⟩)] 23)) := (Below.refl _ w6).alloc (Nat.le_refl _) _
               have hmb := h6.below hbx
               have HMB := Lib.hid hmb
               have how := hmb.own
               have hbs := hmb.ge
               have hsn := src_ptr (c := c5) (heap_alloc_new w6 (.cells #[.pointer (some ⟨c5, 0, none⟩)] 23))
               clear h6 hmb hbx
               go_wp2_with (at_builtin; go_loud (refine wpList_append_any rfl _ _ _ rfl d 23 i0 _ 1 8 und_dks hi0 hz0 hz1 hz2 rfl (by decide) _ cs.length (cs.flatMap encP) rfl how _ 1 ([c5].flatMap encP) rfl hsn ?bp1 ?bp2 hbs ?_))
               case bp1 => unfold maxLen; omega
               case bp2 => omega
               intro v7 w7 ha
               have HM7 := Lib.hid (HMB.out.put (c := c5) ha)
               obtain ⟨va7, vc7, hvf⟩ : ∃ va vc, v7 = .slice va (cs.length + 1) vc := by
                 obtain ⟨va, vc, hq, -⟩ := HM7.out.own.rd.form
                 rw [List.length_append] at hq
                 exact ⟨va, vc, hq⟩
               subst hvf
               clear ha how hbs hsn
               have HWT1 := HWT.out
               go_wp2
               go_roundw
               case rel => exact ⟨k + 1, s', L ++ [(c5, s')], cs ++ [c5], by omega, by go_num, by rw [HCS.out]; simp, HM7.out, HPRM.out c5, by have := HDT.out; omega, by omega⟩
               case measure => simp [intOf]; omega
         · go_wp2_with fail
           go_at_call 23
           refine (HSM.out _).mono ?_
           have hbw : Below wr.heap.size wr (wr.alloc (boxC cl)) := (Below.refl _ wr).alloc (Nat.le_refl _) _
           rintro e w2 ⟨rfl, hw2⟩
           have hw2' : wr.alloc (boxC cl) = w2 := hw2
           rw [hw2'] at hbw
           have HMW := Lib.hid (HM.out.below hbw)
           clear hw2 hw2' hbw x0 x1 x2 x3 x4 x5 x6 x7
           go_wp2
           go_roundw
           case rel => exact ⟨k + 1, s, L, cs, by omega, by go_num, HCS.out, HMW.out, HPRE.out, by omega, by omega⟩
           case measure => simp [intOf]; omega
       · obtain rfl : k = l.length := by omega
         obtain ⟨hcl, hll⟩ := HCLL.out
         have hsm := small_any kp (cs.length : Int) wr HKP.out.1 HKP.out.2 (by omega) (by omega)
         have hj0 : 0 ≤ kp % (cs.length : Int) := Int.emod_nonneg _ (by omega)
         have hj1 : kp % (cs.length : Int) < (cs.length : Int) := Int.emod_lt_of_pos _ (by omega)
         generalize kp % (cs.length : Int) = jj at *
         obtain ⟨j, rfl⟩ := Int.eq_ofNat_of_zero_le hj0
         have hjL : j < L.length := by omega
         have HCT := Lib.hid (HPRE.out.cont j hjL)
         obtain ⟨at1, at2, at3⟩ := HPRE.out.at' j hjL
         have hpo : (L[j]).2.ops.length = j := by rw [at3, List.length_take]; omega
         have HNMJ := Lib.hid (HPRE.out.nms _ (List.getElem_mem hjL))
         have HNMC := Lib.hid (HPRE.out.nm.crash j 0)
         have hmem := Lib.hid (List.getElem_mem hjL)
         have HRD := Lib.hid HM.out.own.rd
         have HCJ := Lib.hid (show cs[j]'(by omega) = (L[j]).1 by have := HCS.out; subst this; simp)
         obtain ⟨b9, o9, c9, hv9, -, hlt9, hc9⟩ := HRD.out.cells encP_ok (by omega)
         simp only [Value.slice.injEq] at hv9
         obtain ⟨rfl, -, rfl⟩ := hv9
         have hx9 := hc9 wr (fun z hz => rfl) j (by omega) 0 _ (by omega) rfl
         rw [HCJ.out, show o9 + (j * 1 + 0) = o9 + j by omega] at hx9
         have HCLN := Lib.hid (cont_len (L[j]).2 (HM.out.want _ hmem.out).ok)
         have HPO := Lib.hid hpo
         have hjc : j < cs.length := by omega
         have hjo : j ≤ 10000 := by omega
         have hso : s.ops.length ≤ 10000 := by omega
         clear hc9 at1 at2 at3 hbel
         have HP9 := Lib.hid (show L[j] ∈ L from hmem.out)
         clear HCJ hmem hpo
         generalize L[j] = pj at *
         clear hcl hll hjL
         obtain ⟨cj, sj⟩ := pj
         unfold ptr at hx9
         have hcr := HM.out.crash j 0 (by omega) ⟨by omega, by omega⟩ ⟨by omega, by omega⟩
         generalize s.crash j 0 = sc at *
         simp only at HCT HPO HNMJ HCLN hx9
         generalize hlc : sj.cont = LC at *
         have HLC := Lib.hid hlc
         clear hlc
         go_wp2_with fail
         go_at_call 23
         refine hsm.mono ?_
         rintro e w' ⟨rfl, rfl⟩
         clear hsm
         go_wp2_with fail
         go_at_call 24
         refine hcr.mono ?_
         rintro e w2 ⟨rfl, h2⟩
         have HM2 := Lib.hid h2
         clear h2 hcr hx9
         have hpd := (HM2.out.want _ HP9.out).pend
         simp only at hpd
         rw [HPO.out] at hpd
         go_wp2_with fail
         go_at_call 33
         refine hpd.mono ?_
         rintro e w' ⟨rfl, rfl⟩
         clear hpd
         go_wp2_with fail
         go_at_call 31
         refine (HM2.out.left.cont HNMC.out).mono ?_
         rintro e w3 ⟨u1, rfl, how1, hb1⟩
         have HM3 := Lib.hid (HM2.out.below hb1)
         rw [HCT.out] at how1
         have HO1 := Lib.hid how1
         obtain ⟨ua, uc, huf, -⟩ := how1.rd.form
         subst huf
         clear how1 hb1
         go_wp2_with fail
         go_at_call 31
         refine ((HM3.out.want _ HP9.out).cont HNMJ.out).mono ?_
         rintro e w4 ⟨u2, rfl, how2, hb2⟩
         simp only at how2
         rw [HLC.out] at how2
         have HM4 := Lib.hid (HM3.out.below hb2)
         have HO2 := Lib.hid how2
         have HO3 := Lib.hid (HO1.out.below hb2)
         obtain ⟨ua2, uc2, huf, -⟩ := how2.rd.form
         subst huf
         clear how2 hb2
         have hsame := same_any w4 _ _ LC LC HO3.out.rd HO2.out.rd HCLN.out HCLN.out
         rw [decide_eq_true (rfl : LC = LC)] at hsame
         go_wp2_with fail
         go_at_call 32
         refine hsame.mono ?_
         rintro e w8 ⟨rfl, hb8⟩
         have HM8 := Lib.hid (HM4.out.below hb8)
         clear hb8 hsame
         go_wp2_with fail
         go_at_call 19
         refine (HAW.out _).mono ?_
         rintro e w' ⟨rfl, hb⟩
         have HBB := Lib.hid (HM8.out.below hb).left.bel
         clear hb
         go_wp2
         go_ret
         exact ⟨rfl, by rw [HD.out]; exact HBB.out⟩

end Go.Proofs.Ytbfgkcgnhgfkmaa.Dk
