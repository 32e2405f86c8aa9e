/- packed -/
import Derived.Test.YtmagjdocondmhaaGreatPkVb18
import Derived.Test.YtmagjdocondmhaaGreatPkVb16
import Derived.Test.YtmagjdocondmhaaGreatPkVb10
import Derived.Test.YtmagjdocondmhaaGreatPkVb08
import Derived.Test.YtmagjdocondmhaaGreatPkVb06
import Derived.Test.YtmagjdocondmhaaGreatPkVb01
set_option linter.unusedVariables false
set_option linter.unusedSimpArgs false
namespace Go.Proofs.YtmagjdocondmhaaGreat.Tr.Gr
open Go Go.RowKit Go.Proofs.YtmagjdocondmhaaGreat.Slc Go.Proofs.YtmagjdocondmhaaGreat.St Go.Proofs.YtmagjdocondmhaaGreat.Mp Go.Proofs.YtmagjdocondmhaaGreat.Tr Go.Proofs.YtmagjdocondmhaaGreat.Rg
attribute [local go_sem] Oper.semAt_some
def MaF (v lv sv pv : Value) (n gb i sb so : Nat) : Nat → Value → World → Prop
 | 0, x, _ => x = v
 | 1, x, _ => x = .int .i64 n
 | 2, x, _ => x = .pointer (some ⟨gb, n, none⟩)
 | 3, x, _ => x = .pointer (some ⟨gb, n, none⟩)
 | 4, x, _ => x = lv
 | 5, x, _ => x = sv
 | 6, x, _ => x = .int .i64 i
 | 7, x, _ => x = .pointer (some ⟨sb, so + i, none⟩)
 | 8, x, _ => x = pv
 | _, _, _ => True
theorem MaF.stable (v lv sv pv : Value) (n gb i sb so : Nat) (j : Nat) (x : Value) (w w' : World) (h : MaF v lv sv pv n gb i sb so j x w) (hb : Below w.heap.size w w') : MaF v lv sv pv n gb i sb so j x w' := by
 match j with
 | 0 | 1 | 2 | 3 | 4 | 5 | 6 | 7 | 8 => exact h
 | _ + 9 => exact trivial
def MbF (W0 : World) (v lv sv pv mv : Value) (n gb i sb so k lb : Nat) (sub : List B) (u : Unit) : Nat → Value → World → Prop
 | 0, x, _ => x = v
 | 1, x, _ => x = .int .i64 n
 | 2, x, _ => x = .pointer (some ⟨gb, n, none⟩)
 | 3, x, _ => x = .pointer (some ⟨gb, n, none⟩)
 | 4, x, _ => x = lv
 | 5, x, _ => x = .int .i64 k
 | 6, x, _ => x = mv
 | 7, x, _ => x = sv
 | 8, x, _ => x = .int .i64 i
 | 9, x, _ => x = .pointer (some ⟨sb, so + i, none⟩)
 | 10, x, _ => x = pv
 | 11, x, w => ∃ s : Sl, x = .slice s.ad s.n s.c ∧ Slc.Own w W0.heap.size 9 1 encS s.val sub
 | 12, x, _ => x = .pointer (some ⟨lb, k * 3, none⟩)
 | 13, x, _ => x = .pointer (some ⟨lb, k * 3 + 1, none⟩)
 | _, _, _ => True
theorem MbF.stable (W0 : World) (v lv sv pv mv : Value) (n gb i sb so k lb : Nat) (sub : List B) (u : Unit) (j : Nat) (x : Value) (w w' : World) (h : MbF W0 v lv sv pv mv n gb i sb so k lb sub u j x w) (hb : Below w.heap.size w w') : MbF W0 v lv sv pv mv n gb i sb so k lb sub u j x w' := by
 match j with
 | 0 | 1 | 2 | 3 | 4 | 5 | 6 | 7 | 8 | 9 | 10 | 12 | 13 => exact h
 | 11 => obtain ⟨s, h1, h2⟩ := h; exact ⟨s, h1, h2.below hb⟩
 | _ + 14 => exact trivial
def McF (W0 : World) (v lv sv pv mv av : Value) (n n0 gb i sb so : Nat) (A : Int) (vs : List Vt) (nn : Vx) (u : Unit) (u' : Unit) : Nat → Value → World → Prop
 | 0, x, _ => x = v
 | 1, x, _ => x = .int .i64 n
 | 2, x, _ => x = v
 | 3, x, _ => x = .int .i64 n
 | 4, x, _ => x = .pointer (some ⟨gb, n, none⟩)
 | 5, x, _ => x = .pointer (some ⟨gb, n, none⟩)
 | 6, x, _ => x = lv
 | 7, x, _ => x = sv
 | 8, x, _ => x = .int .i64 i
 | 9, x, _ => x = .pointer (some ⟨sb, so + i, none⟩)
 | 10, x, _ => x = pv
 | 11, x, _ => x = mv
 | 12, x, _ => x = sv
 | 13, x, _ => x = .int .i64 i
 | 14, x, _ => x = .pointer (some ⟨sb, so + i, none⟩)
 | 15, x, _ => x = pv
 | 16, x, w => ∃ s : Sl, x = .slice s.ad s.n s.c ∧ Slc.Own w W0.heap.size 9 1 encS s.val nn.ex
 | 17, x, _ => x = v
 | 18, x, _ => x = .int .i64 n
 | 19, x, _ => x = .int .i64 n0
 | 20, x, _ => x = .pointer (some ⟨gb, n0, none⟩)
 | 21, x, _ => x = .pointer (some ⟨gb, n0, none⟩)
 | 22, x, _ => x = av
 | 23, x, _ => x = .int .i64 A
 | 24, x, w => ∃ s : Sl, x = .slice s.ad s.n s.c ∧ Slc.Own w W0.heap.size 3 1 encI s.val [A]
 | 25, x, w => ∃ s q : Sl, x = .agg #[pv, .slice s.ad s.n s.c, .slice q.ad q.n q.c] ∧ Slc.Own w W0.heap.size 9 1 encS s.val nn.ex ∧ Slc.Own w W0.heap.size 3 1 encI q.val [A]
 | 26, x, w => ∃ t s q : Sl, x = .slice t.ad t.n t.c ∧ Slc.Own w W0.heap.size 65 3 encV t.val (insT vs ⟨nn, s, q⟩) ∧ Slc.Own w W0.heap.size 9 1 encS s.val nn.ex ∧ Slc.Own w W0.heap.size 3 1 encI q.val nn.par
 | 27, x, _ => x = .pointer (some ⟨gb, n, none⟩)
 | 28, x, _ => x = .pointer (some ⟨gb, n, none⟩)
 | _, _, _ => True
theorem McF.stable (W0 : World) (v lv sv pv mv av : Value) (n n0 gb i sb so : Nat) (A : Int) (vs : List Vt) (nn : Vx) (u : Unit) (u' : Unit) (j : Nat) (x : Value) (w w' : World) (h : McF W0 v lv sv pv mv av n n0 gb i sb so A vs nn u u' j x w) (hb : Below w.heap.size w w') : McF W0 v lv sv pv mv av n n0 gb i sb so A vs nn u u' j x w' := by
 match j with
 | 0 | 1 | 2 | 3 | 4 | 5 | 6 | 7 | 8 | 9 | 10 | 11 | 12 | 13 | 14 | 15 | 17 | 18 | 19 | 20 | 21 | 22 | 23 | 27 | 28 => exact h
 | 16 => obtain ⟨s, h1, h2⟩ := h; exact ⟨s, h1, h2.below hb⟩
 | 24 => obtain ⟨s, h1, h2⟩ := h; exact ⟨s, h1, h2.below hb⟩
 | 25 => obtain ⟨s, q, h1, h2, h3⟩ := h; exact ⟨s, q, h1, h2.below hb, h3.below hb⟩
 | 26 => obtain ⟨t, s, q, h1, h2, h3, h4⟩ := h; exact ⟨t, s, q, h1, h2.below hb, h3.below hb, h4.below hb⟩
 | _ + 29 => exact trivial
theorem rmL_any {ms : List (B × B)} {ok : Bool} {above : Int} : ∀ {ks : List B} {l : List Vx}, anyP ∉ ks → 0 ≤ fndP (rmL ms ok above l ks) anyP → 0 ≤ fndP l anyP
 | [], _, _, h => h
 | p :: ks, l, ha, h => rmS_any (fun e => ha (e ▸ List.mem_cons_self)) (rmL_any (ks := ks) (l := rmS ms ok above l p) (fun q => ha (List.mem_cons_of_mem _ q)) h)
theorem srcL_few {ms : List (B × B)} (h : ∀ m ∈ ms, m.1.length ≤ 1000000 ∧ m.2.length ≤ 1000000) : ∀ p ∈ srcL ms, p.length ≤ 1000000 := fun p hp => by
 unfold srcL at hp
 rw [setB_mem] at hp
 obtain ⟨m, hm, rfl⟩ := List.mem_map.1 hp
 exact (h m (List.mem_filter.1 hm).1).1
set_option maxRecDepth 100000 in
set_option maxHeartbeats 64000000 in
theorem rgmap_any (w : World) (v lv : Value) (g : List Lv) (ms : List (B × B)) (h : GQ w v g) (hm : Rd w encP lv ms) (hn : g.length ≤ 90000) (hln : ∀ L ∈ g, L.vs.length ≤ 40000) (hml : ms.length ≤ 40000) (hmx : ∀ m ∈ ms, m.1.length ≤ 1000000 ∧ m.2.length ≤ 1000000) (ok : Bool) :
  Calls Tryz.prog 27 #[v, lv, .bool ok] w fun e w' => GrN w (gmapP (gxs g) ms ok) e w' := by
 have mixed : Tryz.prog.follows .mixedOrders = true := by kernel_rfl
 have hval := rgvalid_q w v g h (by omega) (fun L hL => by have := hln L hL; omega)
 obtain ⟨R, hR⟩ : ∃ R, R = gmapP (gxs g) ms ok := ⟨_, rfl⟩
 rw [← hR]
 unfold gmapP at hR
 obtain ⟨ad, c, rfl, -⟩ := h.rd.form
 obtain ⟨ma, mc, rfl, -⟩ := hm.form
 have HQ := Bx.mk h
 have HM := Bx.mk hm
 have HLN := Bx.mk hln
 have HMX := Bx.mk hmx
 obtain ⟨N, hN⟩ : ∃ N, N = g.length := ⟨_, rfl⟩
 have HN := Bx.mk hN
 obtain ⟨MN, hMN⟩ : ∃ N, N = ms.length := ⟨_, rfl⟩
 have HMN := Bx.mk hMN
 have HML := Bx.mk hml
 obtain ⟨V, hV⟩ : ∃ V, V = gvalidB (gxs g) := ⟨_, rfl⟩
 rw [← hV] at hval hR
 have HV := Bx.mk hV
 rw [gxs_len, ← hN] at hR
 have HRR := Bx.mk hR
 rw [← hN] at hn hval ⊢
 rw [← hMN] at hml ⊢
 clear h hm hln hmx hN hMN hV hR
 unfold GrN
 go_enter Tryz.func27, Tryz.ntmps27
 go_wp2_with fail
 go_at_call 16
 refine hval.mono ?_
 rintro e w1 ⟨rfl, hb1⟩
 clear hval
 cases V with
 | false =>
  have HF := Bx.mk (show R = ([], 7) by rw [HRR.out]; rfl)
  go_wp2_with fail
  go_ret2
  exact ⟨_, [], by rw [HF.out]; rfl, GO.nil _ _, by rw [HF.out]; rfl, hb1, NQ.nil _⟩
 | true =>
 rw [Bool.true_and] at HRR
 by_cases hN1 : N = 1
 ·have HF := Bx.mk (show R = ([], 7) by rw [HRR.out, decide_eq_true hN1]; rfl)
  subst hN1
  go_wp2_with fail
  go_ret2
  exact ⟨_, [], by rw [HF.out]; rfl, GO.nil _ _, by rw [HF.out]; rfl, hb1, NQ.nil _⟩
 have t1 : ((N : Int) == 1) = false := by simp; omega
 have t1' : ¬ (N : Int) = 1 := by omega
 have HRR2 := Bx.mk (show R = if N = 0 then ([], 0) else (pruneG ((gxs g).set (N - 1) (gmapL (gxs g) ms ok)), 0) by rw [HRR.out, decide_eq_false hN1]; rfl)
 clear HRR
 rcases Nat.eq_zero_or_pos N with e | hN0
 ·have HF := Bx.mk (show R = ([], 0) by rw [HRR2.out, if_pos e])
  have t5 : ((N : Int) == 0) = true := by simp; omega
  have e' : (N : Int) = 0 := by omega
  go_wp2_with fail
  go_ret2
  exact ⟨_, [], by rw [HF.out]; rfl, GO.nil _ _, by rw [HF.out]; rfl, hb1, NQ.nil _⟩
 ·have t5 : ((N : Int) == 0) = false := by simp; omega
  have t5' : ¬ (N : Int) = 0 := by omega
  have HGL := Bx.mk (HQ.out.gl HV.out.symm (fun L hL => by have := HLN.out L hL; omega))
  obtain ⟨n0, hn0⟩ : ∃ n0, n0 + 2 = N := ⟨N - 2, by omega⟩
  obtain ⟨n1, hn1⟩ : ∃ n1, n1 = n0 + 1 := ⟨_, rfl⟩
  have HN0 := Bx.mk hn0
  have HN1 := Bx.mk hn1
  have HPR := Bx.mk (show gvalidB (gxs g) = true from HV.out.symm)
  have HGN := Bx.mk (show (gxs g).length = N by rw [gxs_len, HN.out])
  have HRF := Bx.mk (show R = (pruneG ((gxs g).set n1 (rmL ms ok (fndP (gxs g)[n0]! anyP) (gxs g)[n1]! (srcL ms))), 0) by
   have e := rmL_eq HPR.out (by rw [HGN.out]; omega) ms ok
   rw [HGN.out, show N - 2 = n0 by omega, show N - 1 = n1 by omega] at e
   rw [HRR2.out, if_neg (by omega), e, show N - 1 = n1 by omega])
  have HGB := Bx.mk (show ∀ l ∈ gxs g, l.length ≤ 40000 from fun l hl => by
   obtain ⟨L0, h0, rfl⟩ := List.mem_map.1 hl
   rw [vxs_len]; exact HLN.out L0 h0)
  have HPGK := Bx.mk (show ∀ ks : List B, ks.length ≤ 40000 → anyP ∉ ks → PG ((gxs g).set n1 (rmL ms ok (fndP (gxs g)[n0]! anyP) (gxs g)[n1]! ks)) from fun ks hk ha => by
   rw [HN1.out]
   exact rm_pg HPR.out (by rw [HGN.out]; exact HN0.out) (fun l hl => by have := HGB.out l hl; omega) ms ok (by omega) ha)
  have HOK := Bx.mk (show ∀ ks, OrdP (rmL ms ok (fndP (gxs g)[n0]! anyP) (gxs g)[n1]! ks) from fun ks => rmL_ord ks ((valid_pv HPR.out).ord _))
  have HST := Bx.mk (show 0 ≤ fndP (gxs g)[n1]! anyP → 0 ≤ fndP (gxs g)[n0]! anyP by
   rw [HN1.out]; exact fun q => gvalid_star HPR.out (by rw [HGN.out]; have := HN0.out; omega) q)
  have HLB := Bx.mk (show ∀ k : Nat, ((gxs g)[k]!).length ≤ 40000 from fun k => by
   by_cases hk : k < (gxs g).length
   ·rw [getElem!_pos (gxs g) k hk]; exact HGB.out _ (List.getElem_mem _)
   ·rw [getElem!_neg (gxs g) k hk]; show 0 ≤ 40000; omega)
  obtain ⟨G0, hG0⟩ : ∃ G0, G0 = gxs g := ⟨_, rfl⟩
  have HG0 := Bx.mk hG0
  rw [← hG0] at HGN HRF HPGK HOK HST HLB
  have hcp := rcopy_ov w1 (.slice ad N c) g (by rw [HN.out]; exact HGL.out.below hb1) (by rw [← HN.out]; omega) (fun L hL => by have := HLN.out L hL; omega)
  have wn : IntKind.i64.wrap ((N : Int) - 1) = (n1 : Int) := by rw [IntWalk.i64_in _ (by omega)]; omega
  have HB1 := Bx.mk hb1
  clear hN0 hN1 hG0 hb1 hn0 hn1
  go_wp2_with fail
  go_at_call 59
  refine hcp.mono ?_
  rintro e w5 ⟨v5, g5, rfl, hgo, hgx, hb5, hov5⟩
  have HNQ5 := Bx.mk (show NQ w.heap.size g5 from (NQ.of_ov hov5).mono HB1.out.size)
  have HB5 := Bx.mk (HB1.out.trans (hb5.mono HB1.out.size))
  have HGO5 := Bx.mk (hgo.mono HB1.out.size)
  have HGX5 := Bx.mk (hgx.trans HG0.out.symm)
  have HNL5 := Bx.mk (show g5.length = N by rw [gx_len HGX5.out, HGN.out])
  have HLT5 := Bx.mk (show ∀ k, GB v5 g5 k → k < w5.heap.size from fun k hk => (hgo.lt hk).2)
  obtain ⟨ga, gc, hv5, -⟩ := hgo.own.rd.form
  have hv5' : v5 = .slice ga N gc := by rw [hv5, HNL5.out]
  clear hcp hgo hgx hb5 hv5 hov5
  have HV5 := Bx.mk hv5'
  rw [hv5']
  have hsrc := sources_any w5 (.slice ma MN mc) ms (by rw [HMN.out]; exact HM.out.below HB5.out) (by have := HML.out; omega)
  clear hv5'
  go_wp2_with fail
  go_at_call 66
  refine hsrc.mono ?_
  rintro e w6 ⟨sv, rfl, hso, hb6⟩
  obtain ⟨S, hS⟩ : ∃ S, S = srcL ms := ⟨_, rfl⟩
  have HS := Bx.mk hS
  rw [← hS] at hso HRF
  have HSO := Bx.mk hso
  have HSL := Bx.mk (show S.length ≤ 40000 by rw [hS]; have := srcL_len ms; have := HML.out; omega)
  have HSA := Bx.mk (show anyP ∉ S by rw [hS]; exact srcL_any ms)
  have HSF := Bx.mk (show ∀ p ∈ S, p.length ≤ 1000000 by rw [hS]; exact srcL_few HMX.out)
  obtain ⟨sa, sc, hsv, -⟩ := hso.rd.form
  obtain ⟨SN, hSN⟩ : ∃ SN, SN = S.length := ⟨_, rfl⟩
  have HSN := Bx.mk hSN
  rw [← hSN] at hsv
  subst hsv
  have hSNb : SN ≤ 40000 := by rw [hSN]; exact HSL.out
  have HB6 := Bx.mk (HB5.out.trans (hb6.mono HB5.out.size))
  have HS6 := Bx.mk (show GStep w6 w.heap.size v5 g5 w6 g5 from GStep.refl (HGO5.out.below hb6))
  have HF6 := Bx.mk (show ∀ k, GB v5 g5 k → (Value.slice sa SN sc).ownBlock ≠ some k from fun k hk e => by
   have h1 := HLT5.out k hk
   have h2 := (hso.lt k e).1
   omega)
  have HX6 := Bx.mk (show gxs g5 = G0.set n1 (rmL ms ok (fndP G0[n0]! anyP) G0[n1]! (S.take 0)) by
   rw [HGX5.out, List.take_zero]
   show G0 = G0.set n1 G0[n1]!
   exact (set_self_get (by rw [HGN.out]; have := HN0.out; have := HN1.out; omega)).symm)
  have HGO6 := Bx.mk (HGO5.out.below hb6)
  have hn1N : n1 < N := by have := HN0.out; have := HN1.out; omega
  clear hsrc hso hb6 hS hSN
  go_wp2_with fail
  clear wn t1 t1' t5 t5'
  go_loopw [11] (fun iv wr => ∃ (i : Nat) (g2 : List Lv), i ≤ SN ∧ iv = .int .i64 i ∧ Bx (GStep w6 w.heap.size v5 g5 wr g2) ∧ Bx (gxs g2 = G0.set n1 (rmL ms ok (fndP G0[n0]! anyP) G0[n1]! (S.take i))) ∧ Bx (NQ w.heap.size g2)) (fun iv _ => SN - (intOf iv).toNat)
  case atStart => exact ⟨0, g5, by omega, rfl, HS6, HX6, HNQ5⟩
  case round =>
   clear HS6 HX6 HNQ5
   obtain ⟨i, g2, hi, rfl, hS2, hX2, hQ2⟩ := hrel
   have HBW := Bx.mk (show Below w.heap.size w wr from HB6.out.trans (hS2.out.bel HGO6.out HB6.out.size))
   have HNL2 := Bx.mk (show g2.length = N by rw [gx_len hX2.out, List.length_set, HGN.out])
   have hgo2 := hS2.out.go
   rw [HV5.out] at hgo2
   by_cases hlt : i < SN
   ·obtain ⟨l, hl⟩ : ∃ l, l = rmL ms ok (fndP G0[n0]! anyP) G0[n1]! (S.take i) := ⟨_, rfl⟩
    have HL := Bx.mk hl
    have HN2 := Bx.mk (show n1 < g2.length by rw [HNL2.out]; exact hn1N)
    have HN02 := Bx.mk (show n0 < g2.length by rw [HNL2.out]; have := HN1.out; omega)
    have HVX := Bx.mk (show vxs (g2[n1]'HN2.out).vs = l by
     rw [← gxs_at' g2 n1 HN2.out, hX2.out, hl, set_at2 (by rw [HGN.out]; exact hn1N), if_pos rfl])
    have HVA := Bx.mk (show vxs (g2[n0]'HN02.out).vs = G0[n0]! by
     rw [← gxs_at' g2 n0 HN02.out, hX2.out, set_at2 (by rw [HGN.out]; exact hn1N), if_neg (by have := HN1.out; omega)])
    have hil : i < S.length := by rw [← HSN.out]; exact hlt
    have HTK := Bx.mk (show rmL ms ok (fndP G0[n0]! anyP) G0[n1]! (S.take (i + 1)) = rmS ms ok (fndP G0[n0]! anyP) l S[i] by rw [rmL_take hil, hl])
    have HTA := Bx.mk (show anyP ∉ S.take i ∧ (S.take i).length ≤ 40000 from ⟨fun q => HSA.out (List.mem_of_mem_take q), by rw [List.length_take]; omega⟩)
    have HPG2 := Bx.mk (show PG (gxs g2) by rw [hX2.out]; exact HPGK.out _ HTA.out.2 HTA.out.1)
    have HLO := Bx.mk (show OrdP l by rw [hl]; exact HOK.out _)
    have HLA := Bx.mk (show 0 ≤ fndP l anyP → 0 ≤ fndP G0[n0]! anyP by rw [hl]; exact fun q => HST.out (rmL_any HTA.out.1 q))
    have HPM := Bx.mk (HSF.out _ (List.getElem_mem hil))
    obtain ⟨gb, rfl, l0, hgfr⟩ := hgo2.cellL n1 HN2.out
    obtain ⟨gb', heq, l1, -⟩ := hgo2.cellL n0 HN02.out
    simp only [Option.some.injEq, Addr.mk.injEq, and_true] at heq
    subst heq
    have HSO2 := Bx.mk (HSO.out.keep (w' := wr) fun k hk hkl => hS2.out.fr.block k hkl fun hn => HF6.out k hn hk)
    obtain ⟨sb, so, rfl, -, c0⟩ := (strs_cells (show Rd wr encS (.slice sa S.length sc) S by have := HSO2.out.rd; rw [HSN.out] at this; exact this)).2 wr (Below.refl _ _) i hil
    obtain ⟨p, hp⟩ : ∃ p, p = S[i] := ⟨_, rfl⟩
    rw [← hp] at c0 HTK HPM
    have hvl := (hgo2.gl.lv _ (List.getElem_mem HN2.out))
    have hva := (hgo2.gl.lv _ (List.getElem_mem HN02.out))
    obtain ⟨sL, hsL⟩ : ∃ sL, sL = (g2[n1]'HN2.out).s := ⟨_, rfl⟩
    obtain ⟨sA, hsA⟩ : ∃ sA, sA = (g2[n0]'HN02.out).s := ⟨_, rfl⟩
    have HSLV := Bx.mk (show (g2[n1]'HN2.out).s.val = sL.val by rw [hsL])
    have HSAV := Bx.mk (show (g2[n0]'HN02.out).s.val = sA.val by rw [hsA])
    rw [← hsL] at l0 hvl
    rw [← hsA] at l1 hva
    simp only [Sl.val] at l0 l1 hvl hva
    obtain ⟨vs2, hvs2⟩ : ∃ vs2, vs2 = (g2[n1]'HN2.out).vs := ⟨_, rfl⟩
    obtain ⟨vsA, hvsA⟩ : ∃ vsA, vsA = (g2[n0]'HN02.out).vs := ⟨_, rfl⟩
    have HVS := Bx.mk hvs2
    have HVSA := Bx.mk hvsA
    have HLL := Bx.mk (pg_len HPG2.out _ (List.getElem_mem HN2.out))
    have HLLA := Bx.mk (pg_len HPG2.out _ (List.getElem_mem HN02.out))
    rw [← hvs2] at hvl HVX HLL
    rw [← hvsA] at hva HVA HLLA
    have HVL := Bx.mk hvl
    have HVLA := Bx.mk hva
    have HCL := Bx.mk (show ∀ W, Below wr.heap.size wr W → W.cell? ⟨gb, n1, none⟩ = some (.slice sL.ad sL.n sL.c) ∧ W.cell? ⟨gb, n0, none⟩ = some (.slice sA.ad sA.n sA.c) ∧ W.cell? ⟨sb, so + i, none⟩ = some (.string (bstr p)) from fun W hW =>
     ⟨(hW.cell (p := ⟨gb, n1, none⟩) (World.block_lt_of_cell? wr _ l0)).trans l0, (hW.cell (p := ⟨gb, n0, none⟩) (World.block_lt_of_cell? wr _ l1)).trans l1, (hW.cell (p := ⟨sb, so + i, none⟩) (World.block_lt_of_cell? wr _ c0)).trans c0⟩)
    have HFR := Bx.mk hgfr
    obtain ⟨PB, hPB⟩ : ∃ PB, PB = bstr p := ⟨_, rfl⟩
    have HPB := Bx.mk hPB
    rw [← hPB] at HCL c0
    obtain ⟨z, hz⟩ : ∃ z, z = fndP l p := ⟨_, rfl⟩
    have HZ := Bx.mk hz
    have HPA := Bx.mk (show p ≠ anyP from fun e => HSA.out (by rw [← e, hp]; exact List.getElem_mem hil))
    have hi40 : i ≤ 40000 := by omega
    have HVT := Bx.mk (show ∀ W, Below wr.heap.size wr W → ∀ q, Calls Tryz.prog 56 #[.slice sL.ad sL.n sL.c, .string (bstr q)] W fun e w' => e = .returned (.int .i64 (fndP l q)) ∧ Below W.heap.size W w' from fun W hW q => by
     have := rvert_any W _ vs2 (HVL.out.q.below hW) HLL.out q
     rw [HVX.out] at this
     exact this)
    have HB0 := Bx.mk (Below.refl wr.heap.size wr)
    clear hl hil hp hsL hsA hvl hva hvs2 hvsA hgfr hPB hz hgo2 l0 l1 c0
    go_wp2_with fail
    go_cut [12] (fun s wx => s = .int .i64 z ∧ Bx (Below wr.heap.size wr wx))
    case first =>
     refine wp_region_facts 9 (MaF (.slice (some ⟨gb, 0, none⟩) N gc) (.slice sL.ad sL.n sL.c) (.slice (some ⟨sb, so, none⟩) SN sc) (.string PB) n1 gb i sb so) (by kernel_rfl) (by kernel_rfl) (by rfl) (MaF.stable _ _ _ _ _ _ _ _ _) ?_ ?_
     ·intro i' oo hi ho xs w7 hb hd
      have hcs : i' = 0 ∨ i' = 1 ∨ i' = 2 ∨ i' = 3 ∨ i' = 4 ∨ i' = 5 ∨ i' = 6 ∨ i' = 7 ∨ i' = 8 := by omega
      simp only [List.take_succ_cons, List.take_zero, putFrom, Act.put, List.setIfInBounds_toArray, List.set_cons_succ, List.set_cons_zero, Nat.zero_add, Nat.reduceAdd]
      have HB7 := Bx.mk hb
      obtain ⟨q0, q1, q2⟩ := HCL.out w7 hb
      clear hb
      rcases hcs with rfl | rfl | rfl | rfl | rfl | rfl | rfl | rfl | rfl
      all_goals
       simp only [List.getElem?_cons_succ, List.getElem?_cons_zero, Option.some.injEq] at ho
       subst ho
       simp [Needs, Region.binds, MaF] at hd
      all_goals clear hi
      all_goals
       go_wp2_with fail
       exact ⟨rfl, rfl, rfl, Below.refl _ _⟩
     ·intro xs w7 hb hf
      have f4 := hf 4 (by omega)
      have f8 := hf 8 (by omega)
      simp only [MaF] at f4 f8
      have HB7 := Bx.mk hb
      have hvt := HVT.out w7 hb p
      rw [← HPB.out, ← HZ.out] at hvt
      clear hf hb
      simp only [List.take_succ_cons, List.take_zero, List.drop_succ_cons, List.drop_zero, putFrom, Act.put, List.setIfInBounds_toArray, List.set_cons_succ, List.set_cons_zero, Nat.zero_add, Nat.reduceAdd, f4, f8]
      clear f4 f8
      go_wp2_with fail
      go_at_call 56
      refine hvt.mono ?_
      rintro e w8 ⟨rfl, hb8⟩
      have HB8 := Bx.mk (HB7.out.trans (hb8.mono HB7.out.size))
      clear hvt hb8
      go_wp2_with fail
      go_meet
      exact ⟨rfl, HB8⟩
    case rest =>
     obtain ⟨rfl, hbc⟩ := hcut
     obtain ⟨c0, c1, c2⟩ := HCL.out wc hbc.out
     have HSC := Bx.mk (show GStep w6 w.heap.size v5 g5 wc g2 from hS2.out.below hbc.out)
     by_cases hz0 : 0 ≤ z
     ·have tz : decide (z ≥ 0) = true := decide_eq_true hz0
      obtain ⟨k, hk⟩ : ∃ k : Nat, z = (k : Int) := ⟨z.toNat, by omega⟩
      subst hk
      have HKL := Bx.mk (show k < vs2.length ∧ (l[k]!).pol = p ∧ fndP l p = (k : Int) by
       obtain ⟨k', h1, h2, h3, -⟩ := fndP_some (l := l) (p := p) (by rw [← HZ.out]; exact hz0)
       have : k' = k := by have := HZ.out; omega
       subst this
       exact ⟨by rw [← HVX.out, vxs_len] at h1; exact h1, h3, h2⟩)
      clear hz0
      cases ok with
      | true =>
       have HRS := Bx.mk (show rmL ms true (fndP G0[n0]! anyP) G0[n1]! (S.take (i + 1)) = l.set k ⟨(l[k]!).pol, subL ms p, (l[k]!).par⟩ by
        rw [HTK.out]
        unfold rmS
        rw [HKL.out.2.2, if_pos (by omega), Int.toNat_natCast]
        rfl)
       have HSUB := Bx.mk (show ∀ W, Below wc.heap.size wc W → Calls Tryz.prog 67 #[.slice ma MN mc, .string PB] W fun e w' => ∃ v', e = .returned v' ∧ Slc.Own w' W.heap.size 9 1 encS v' (subL ms p) ∧ Below W.heap.size W w' from fun W hW => by
        have := subjects_any W (.slice ma ms.length mc) ms p (HM.out.below (HBW.out.trans ((hbc.out.trans (hW.mono hbc.out.size)).mono HBW.out.size))) (by have := HML.out; omega)
        rw [← HMN.out, ← HPB.out] at this
        exact this)
       have HB0C := hbc
       have hgoc := HSC.out.go
       have hlvc := hgoc.lv _ (List.getElem_mem HN2.out)
       rw [HSLV.out] at hlvc
       obtain ⟨lb, cap, hsb, -, -, -, -, -⟩ := hlvc.set1 encV_ok k 1 (by rw [← HVS.out]; exact HKL.out.1) (by omega) ((g2[n1]'HN2.out).vs[k]'(by rw [← HVS.out]; exact HKL.out.1)).u.val ((g2[n1]'HN2.out).vs[k]'(by rw [← HVS.out]; exact HKL.out.1)) (by simp [encV])
       have hsn : (g2[n1]'HN2.out).vs.length = vs2.length := by rw [← HVS.out]
       rw [hsn] at hsb
       obtain ⟨KN, hKN⟩ : ∃ KN, KN = vs2.length := ⟨_, rfl⟩
       rw [← hKN] at hsb
       have HSB := Bx.mk hsb
       have hkK : k < KN := by rw [hKN]; exact HKL.out.1
       have hKNb : KN ≤ 100000 := by rw [hKN]; exact HLL.out
       simp only [Sl.val, Value.slice.injEq] at hsb
       obtain ⟨hsb1, hsb2, hsb3⟩ := hsb
       rw [hsb1, hsb2, hsb3] at c0 HCL
       clear hgoc hlvc hsn hKN hsb1 hsb2 hsb3
       go_upto_region 13 with fail
       clear tz c0 c1 c2
       refine wp_region_facts 14 (MbF wc (.slice (some ⟨gb, 0, none⟩) N gc) (.slice (some ⟨lb, 0, none⟩) KN cap) (.slice (some ⟨sb, so, none⟩) SN sc) (.string PB) (.slice ma MN mc) n1 gb i sb so k lb (subL ms p) ()) (by kernel_rfl) (by kernel_rfl) (by rfl) (MbF.stable _ _ _ _ _ _ _ _ _ _ _ _ _ _ _) ?_ ?_
       ·intro i' oo hi ho xs w7 hb hd
        have hcs : i' = 0 ∨ i' = 1 ∨ i' = 2 ∨ i' = 3 ∨ i' = 4 ∨ i' = 5 ∨ i' = 6 ∨ i' = 7 ∨ i' = 8 ∨ i' = 9 ∨ i' = 10 ∨ i' = 11 ∨ i' = 12 ∨ i' = 13 := by omega
        simp only [List.take_succ_cons, List.take_zero, putFrom, Act.put, List.setIfInBounds_toArray, List.set_cons_succ, List.set_cons_zero, Nat.zero_add, Nat.reduceAdd]
        have HB7 := Bx.mk hb
        obtain ⟨q0, q1, q2⟩ := HCL.out w7 (HB0C.out.trans (hb.mono HB0C.out.size))
        clear hb
        rcases hcs with rfl | rfl | rfl | rfl | rfl | rfl | rfl | rfl | rfl | rfl | rfl | rfl | rfl | rfl
        all_goals
         simp only [List.getElem?_cons_succ, List.getElem?_cons_zero, Option.some.injEq] at ho
         subst ho
         simp [Needs, Region.binds, MbF] at hd
        all_goals clear hi
        case inr.inr.inr.inr.inr.inr.inr.inr.inr.inr.inr.inl =>
         have hsub := HSUB.out w7 HB7.out
         clear q0 q1 q2
         go_wp2_with (go_at_call 67; refine hsub.mono ?_; rintro e w8 ⟨v8, rfl, ho8, hb8⟩)
         obtain ⟨s8, hs8⟩ := sl_of ho8
         subst hs8
         have HO8 := Bx.mk (ho8.mono HB7.out.size)
         have HB8 := Bx.mk hb8
         clear ho8 hb8 hsub
         simp only [Sl.val]
         exact ⟨rfl, rfl, ⟨s8, rfl, HO8.out⟩, HB8.out⟩
        all_goals
         go_wp2_with fail
         exact ⟨rfl, rfl, rfl, Below.refl _ _⟩
       ·intro xs w7 hb hf
        have f11 := hf 11 (by omega)
        have f13 := hf 13 (by omega)
        simp only [MbF] at f11 f13
        obtain ⟨s8, f11, ho8⟩ := f11
        have HO8 := Bx.mk ho8
        have hS7 := HSC.out.below hb
        have hkv : k < (g2[n1]'HN2.out).vs.length := by rw [← HVS.out]; exact HKL.out.1
        have hnm := hS7.go.nm _ (List.getElem_mem HN2.out) _ (List.getElem_mem hkv)
        obtain ⟨nb, cap', hsb', -, hfr, hgo', hgr'⟩ := hS7.go.setV n1 HN2.out k hkv 1 (by omega) (.slice s8.ad s8.n s8.c) ⟨⟨((g2[n1]'HN2.out).vs[k]).n.pol, subL ms p, ((g2[n1]'HN2.out).vs[k]).n.par⟩, s8, ((g2[n1]'HN2.out).vs[k]).q⟩ rfl
         ⟨⟨ho8.rd, fun q hq hn => by have h1 := (ho8.lt q hq).1; have h2 := (HSC.out.go.lt hn).2; omega⟩, hnm.2.1, ⟨subL_few (by have := HML.out; omega) HMX.out p, hnm.2.2.2.1, hnm.2.2.2.2⟩⟩
        have hnb : nb = lb := by
         rw [HSLV.out, HSB.out] at hsb'
         simp only [Value.slice.injEq, Option.some.injEq, Addr.mk.injEq, and_true] at hsb'
         exact hsb'.1.symm
        subst hnb
        have hGBn : GB v5 g2 nb := .inr ⟨_, List.getElem_mem HN2.out, by rw [hsb']; rfl⟩
        obtain ⟨W8, hW8⟩ : ∃ W8, W8 = w7.setCell ⟨nb, k * 3 + 1, none⟩ (.slice s8.ad s8.n s8.c) := ⟨_, rfl⟩
        rw [← hW8] at hgo' hgr'
        have HS8 := Bx.mk (show GStep w6 w.heap.size v5 g5 W8 _ from hS7.trans ⟨hgo', Fr.of_grown (S := GB v5 g2) hgr' fun q hq => (by simp only [Option.some.injEq] at hq; subst hq; exact hGBn), fun q hq => .inl ((GB.same HN2.out _).1 hq)⟩)
        have HX8 := Bx.mk (show gxs (g2.set n1 ⟨(g2[n1]'HN2.out).vs.set k ⟨⟨((g2[n1]'HN2.out).vs[k]).n.pol, subL ms p, ((g2[n1]'HN2.out).vs[k]).n.par⟩, s8, ((g2[n1]'HN2.out).vs[k]).q⟩, (g2[n1]'HN2.out).s⟩) = G0.set n1 (rmL ms true (fndP G0[n0]! anyP) G0[n1]! (S.take (i + 1))) by
         have e1 : ∀ L', gxs (g2.set n1 L') = (gxs g2).set n1 (vxs L'.vs) := fun L' => List.map_set
         rw [e1, hX2.out, List.set_set, HRS.out, ← HVX.out, vxs_at vs2 k HKL.out.1]
         congr 1
         simp only [HVS.out]
         exact List.map_set)
        have HQ8 := Bx.mk (show NQ w.heap.size (g2.set n1 ⟨(g2[n1]'HN2.out).vs.set k ⟨⟨((g2[n1]'HN2.out).vs[k]).n.pol, subL ms p, ((g2[n1]'HN2.out).vs[k]).n.par⟩, s8, ((g2[n1]'HN2.out).vs[k]).q⟩, (g2[n1]'HN2.out).s⟩) from hQ2.out.set n1 fun y hy kb hkb => by
         rcases List.mem_or_eq_of_mem_set hy with e | rfl
         ·exact hQ2.out _ (List.getElem_mem HN2.out) y e kb hkb
         ·rcases hkb with e | e
          ·have h1 := (ho8.lt kb e).1
           have h2 := HBW.out.size
           have h3 := hbc.out.size
           omega
          ·exact hQ2.out _ (List.getElem_mem HN2.out) _ (List.getElem_mem hkv) kb (.inr e))
        have z9 := hfr (k * 3 + 1)
        have cc := hS7.go.lv _ (List.getElem_mem HN2.out)
        rw [hsb'] at cc
        have cu := cc.cell encV_ok k hkv 1 (by omega) ((g2[n1]'HN2.out).vs[k]).u.val rfl
        simp only [Sl.val] at cu
        have HW8 := Bx.mk hW8
        clear hf hb ho8 hS7 hnm hgo' hgr' hGBn cc hsb' hfr hW8
        simp only [List.take_succ_cons, List.take_zero, List.drop_succ_cons, List.drop_zero, putFrom, Act.put, List.setIfInBounds_toArray, List.set_cons_succ, List.set_cons_zero, Nat.zero_add, Nat.reduceAdd, f11, f13]
        clear f11 f13
        go_wp2_with fail
        rw [← HW8.out]
        go_roundw
        case rel => exact ⟨i + 1, _, by omega, by go_num, HS8, HX8, HQ8⟩
        case measure => simp [intOf]; omega
      | false =>
       have hd := rdrop_any wc w.heap.size v5 g2 HSC.out.go HPG2.out (by rw [HNL2.out]; omega) n1 HN2.out k (by rw [← HVS.out]; exact HKL.out.1)
       rw [HV5.out] at hd
       go_wp2_with fail
       go_at_call 68
       refine hd.mono ?_
       rintro e w8 ⟨⟨u, rfl⟩, g3, hs3, hg3, hk3⟩
       have HQ3 := Bx.mk (hk3 w.heap.size (Nat.le_trans HBW.out.size hbc.out.size) hQ2.out)
       have HS3 := Bx.mk (show GStep w6 w.heap.size v5 g5 w8 g3 from HSC.out.trans (by rw [HV5.out]; exact hs3))
       have HX3 := Bx.mk (show gxs g3 = G0.set n1 (rmL ms false (fndP G0[n0]! anyP) G0[n1]! (S.take (i + 1))) by
        rw [hg3, hX2.out, ← HL.out, HTK.out]
        unfold dropG rmS
        rw [List.length_set, HGN.out, if_neg (by have := HN0.out; have := HN1.out; omega), set_at2 (by rw [HGN.out]; exact hn1N), if_pos rfl, List.set_set, HKL.out.2.2, if_pos (by omega), Int.toNat_natCast]
        rfl)
       clear hd hs3 hg3 hk3 tz c0 c1 c2
       go_wp2_with fail
       go_roundw
       case rel => exact ⟨i + 1, g3, by omega, by go_num, HS3, HX3, HQ3⟩
       case measure => simp [intOf]; omega
     ·have tz : decide (z ≥ 0) = false := decide_eq_false hz0
      have HFN := Bx.mk (show fndP l p < 0 by rw [← HZ.out]; omega)
      cases ok with
      | false =>
       have HX3 := Bx.mk (show gxs g2 = G0.set n1 (rmL ms false (fndP G0[n0]! anyP) G0[n1]! (S.take (i + 1))) by
        rw [hX2.out, ← HL.out, HTK.out]
        unfold rmS
        rw [if_neg (show ¬ 0 ≤ fndP l p by have := HFN.out; omega)]
        rfl)
       clear hz0
       go_wp2_with fail
       go_roundw
       case rel => exact ⟨i + 1, g2, by omega, by go_num, HSC, HX3, hQ2⟩
       case measure => simp [intOf]; omega
      | true =>
       have hvt := HVT.out wc hbc.out anyP
       rw [anyP_str] at hvt
       obtain ⟨z2, hz2'⟩ : ∃ z2, z2 = fndP l anyP := ⟨_, rfl⟩
       have HZ2 := Bx.mk hz2'
       rw [← hz2'] at hvt
       clear hz2'
       go_wp2_with fail
       go_at_call 56
       refine hvt.mono ?_
       rintro e w8 ⟨rfl, hb8⟩
       have HB8 := Bx.mk (hbc.out.trans (hb8.mono hbc.out.size))
       have HS8 := Bx.mk (HSC.out.below hb8)
       clear hvt hb8 c0 c1 c2
       by_cases hs0 : 0 ≤ z2
       ·have t2 : decide (z2 ≥ 0) = true := decide_eq_true hs0
        have HAB := Bx.mk (HLA.out (by rw [← HZ2.out]; exact hs0))
        obtain ⟨AB, hAB⟩ : ∃ AB, AB = fndP G0[n0]! anyP := ⟨_, rfl⟩
        have HABE := Bx.mk hAB
        have HRS := Bx.mk (show rmL ms true (fndP G0[n0]! anyP) G0[n1]! (S.take (i + 1)) = insV l ⟨p, subL ms p, [AB]⟩ by
         rw [HTK.out, hAB]
         unfold rmS
         rw [if_neg (show ¬ 0 ≤ fndP l p by have := HFN.out; omega), if_pos (by rw [Bool.true_and, decide_eq_true_eq, ← HZ2.out]; exact hs0)])
        have HOKN := Bx.mk (show Vx.Ok ⟨p, subL ms p, [AB]⟩ from ⟨subL_few (by have := HML.out; omega) HMX.out p, HPM.out, by simp, fun q hq => by
         rw [List.mem_singleton] at hq
         subst hq
         have h1 := fndP_lt HAB.out
         have h2 := HLB.out n0
         have h3 := HAB.out
         rw [← hAB] at h1 h3
         omega⟩)
        clear hs0 hz0 hAB
        have HSUB := Bx.mk (show ∀ W, Below w8.heap.size w8 W → Calls Tryz.prog 67 #[.slice ma MN mc, .string PB] W fun e w' => ∃ v', e = .returned v' ∧ Slc.Own w' W.heap.size 9 1 encS v' (subL ms p) ∧ Below W.heap.size W w' from fun W hW => by
         have := subjects_any W (.slice ma ms.length mc) ms p (HM.out.below (HBW.out.trans ((HB8.out.trans (hW.mono HB8.out.size)).mono HBW.out.size))) (by have := HML.out; omega)
         rw [← HMN.out, ← HPB.out] at this
         exact this)
        have HVTA := Bx.mk (show ∀ W, Below w8.heap.size w8 W → Calls Tryz.prog 56 #[.slice sA.ad sA.n sA.c, .string ⟨#[50, 46, 53, 46, 50, 57, 46, 51, 50, 46, 48]⟩] W fun e w' => e = .returned (.int .i64 AB) ∧ Below W.heap.size W w' from fun W hW => by
         have := rvert_any W _ vsA (HVLA.out.q.below (HB8.out.trans (hW.mono HB8.out.size))) HLLA.out anyP
         rw [HVA.out, ← HABE.out, anyP_str] at this
         exact this)
        have HPUT := Bx.mk (show ∀ W, Below w8.heap.size w8 W → ∀ s q : Sl, Slc.Own W w8.heap.size 9 1 encS s.val (subL ms p) → Slc.Own W w8.heap.size 3 1 encI q.val [AB] → Calls Tryz.prog 57 #[.slice sL.ad sL.n sL.c, .agg #[.string PB, .slice s.ad s.n s.c, .slice q.ad q.n q.c]] W fun e w' => ∃ v', e = .returned v' ∧ Slc.Own w' W.heap.size 65 3 encV v' (insT vs2 ⟨⟨p, subL ms p, [AB]⟩, s, q⟩) ∧ Below W.heap.size W w' from fun W hW s q hs hq => by
         have hov : OV W w8.heap.size ⟨⟨p, subL ms p, [AB]⟩, s, q⟩ := ⟨hs, hq⟩
         have := rput_any W _ vs2 ⟨⟨p, subL ms p, [AB]⟩, s, q⟩ (HVL.out.below (HB8.out.trans (hW.mono HB8.out.size))) (hov.vt (S := fun k => k < W.heap.size) HOKN.out (fun k hk => (hs.lt k hk).2) (fun k hk => (hq.lt k hk).2)) HLL.out (by rw [HVX.out]; exact HLO.out) (by rw [HVX.out]; exact fun y hy => fndP_neg HFN.out y hy)
         unfold verV at this
         rw [← HPB.out] at this
         exact this)
        have HB0C := HB8
        have hnN0 : n0 < N := by have := HN1.out; omega
        have HWN := Bx.mk (show IntKind.i64.wrap ((n1 : Int) - 1) = (n0 : Int) by have := HN1.out; rw [IntWalk.i64_in _ (by omega)]; omega)
        go_upto_region 17 with fail
        clear t2 tz
        refine wp_region_facts 29 (McF w8 (.slice (some ⟨gb, 0, none⟩) N gc) (.slice sL.ad sL.n sL.c) (.slice (some ⟨sb, so, none⟩) SN sc) (.string PB) (.slice ma MN mc) (.slice sA.ad sA.n sA.c) n1 n0 gb i sb so AB vs2 ⟨p, subL ms p, [AB]⟩ () ()) (by kernel_rfl) (by kernel_rfl) (by rfl) (McF.stable _ _ _ _ _ _ _ _ _ _ _ _ _ _ _ _ _ _) ?_ ?_
        ·intro i' oo hi ho xs w7 hb hd
         have hcs : i' = 0 ∨ i' = 1 ∨ i' = 2 ∨ i' = 3 ∨ i' = 4 ∨ i' = 5 ∨ i' = 6 ∨ i' = 7 ∨ i' = 8 ∨ i' = 9 ∨ i' = 10 ∨ i' = 11 ∨ i' = 12 ∨ i' = 13 ∨ i' = 14 ∨ i' = 15 ∨ i' = 16 ∨ i' = 17 ∨ i' = 18 ∨ i' = 19 ∨ i' = 20 ∨ i' = 21 ∨ i' = 22 ∨ i' = 23 ∨ i' = 24 ∨ i' = 25 ∨ i' = 26 ∨ i' = 27 ∨ i' = 28 := by omega
         simp only [List.take_succ_cons, List.take_zero, putFrom, Act.put, List.setIfInBounds_toArray, List.set_cons_succ, List.set_cons_zero, Nat.zero_add, Nat.reduceAdd]
         have HB7 := Bx.mk hb
         obtain ⟨q0, q1, q2⟩ := HCL.out w7 (HB0C.out.trans (hb.mono HB0C.out.size))
         clear hb
         rcases hcs with rfl | rfl | rfl | rfl | rfl | rfl | rfl | rfl | rfl | rfl | rfl | rfl | rfl | rfl | rfl | rfl | rfl | rfl | rfl | rfl | rfl | rfl | rfl | rfl | rfl | rfl | rfl | rfl | rfl
         all_goals
          simp only [List.getElem?_cons_succ, List.getElem?_cons_zero, Option.some.injEq] at ho
          subst ho
          simp [Needs, Region.binds, McF] at hd
         all_goals clear hi
         case inr.inr.inr.inr.inr.inr.inr.inr.inr.inr.inr.inr.inr.inr.inr.inr.inl =>
          have hsub := HSUB.out w7 HB7.out
          clear q0 q1 q2
          go_wp2_with (go_at_call 67; refine hsub.mono ?_; rintro e w8 ⟨v8, rfl, ho8, hb8⟩)
          obtain ⟨s8, hs8⟩ := sl_of ho8
          subst hs8
          have HO8 := Bx.mk (ho8.mono HB7.out.size)
          have HB8 := Bx.mk hb8
          clear ho8 hb8 hsub
          simp only [Sl.val]
          exact ⟨rfl, rfl, ⟨s8, rfl, HO8.out⟩, HB8.out⟩
         case inr.inr.inr.inr.inr.inr.inr.inr.inr.inr.inr.inr.inr.inr.inr.inr.inr.inr.inr.inl =>
          have wn := HWN.out
          clear q0 q1 q2
          go_wp2_with fail
          exact ⟨rfl, rfl, rfl, Below.refl _ _⟩
         case inr.inr.inr.inr.inr.inr.inr.inr.inr.inr.inr.inr.inr.inr.inr.inr.inr.inr.inr.inr.inr.inr.inr.inl =>
          have hvt := HVTA.out w7 HB7.out
          clear q0 q1 q2
          go_wp2_with (go_at_call 56; refine hvt.mono ?_; rintro e w8' ⟨rfl, hb8'⟩)
          have HB8' := Bx.mk hb8'
          clear hvt hb8'
          exact ⟨rfl, rfl, rfl, HB8'.out⟩
         case inr.inr.inr.inr.inr.inr.inr.inr.inr.inr.inr.inr.inr.inr.inr.inr.inr.inr.inr.inr.inr.inr.inr.inr.inl =>
          have HS7 := Bx.mk HB7.out.size
          clear q0 q1 q2
          go_wp2_with fail
          have hA : Below w7.heap.size w7 (w7.alloc (.cells #[.int .i64 AB] 3)) := (Below.refl _ _).alloc (Nat.le_refl _) _
          exact ⟨rfl, rfl, ⟨⟨some ⟨w7.heap.size, 0, none⟩, 1, 1⟩, rfl, own_alloc encI_ok w7 [AB] _ rfl HS7.out (by unfold maxLen; simp)⟩, hA⟩
         case inr.inr.inr.inr.inr.inr.inr.inr.inr.inr.inr.inr.inr.inr.inr.inr.inr.inr.inr.inr.inr.inr.inr.inr.inr.inl =>
          obtain ⟨h10, ⟨s, h16, ho16⟩, ⟨q, h24, ho24⟩⟩ := hd
          have HO16 := Bx.mk ho16
          have HO24 := Bx.mk ho24
          clear ho16 ho24 q0 q1 q2
          go_wp2_with fail
          exact ⟨rfl, rfl, ⟨s, q, rfl, HO16.out, HO24.out⟩, Below.refl _ _⟩
         case inr.inr.inr.inr.inr.inr.inr.inr.inr.inr.inr.inr.inr.inr.inr.inr.inr.inr.inr.inr.inr.inr.inr.inr.inr.inr.inl =>
          obtain ⟨h6, ⟨s, q, h25, ho16, ho24⟩, -⟩ := hd
          have hput := HPUT.out w7 HB7.out s q ho16 ho24
          have HO16 := Bx.mk ho16
          have HO24 := Bx.mk ho24
          clear ho16 ho24 q0 q1 q2
          go_wp2_with (go_at_call 57; refine hput.mono ?_; rintro e w9 ⟨v9, rfl, ho9, hb9⟩)
          obtain ⟨t9, ht9⟩ := sl_of ho9
          subst ht9
          have HO9 := Bx.mk (ho9.mono HB7.out.size)
          have HB9 := Bx.mk hb9
          clear ho9 hb9 hput
          simp only [Sl.val]
          exact ⟨rfl, rfl, ⟨t9, s, q, rfl, HO9.out, HO16.out.below HB9.out, HO24.out.below HB9.out⟩, HB9.out⟩
         all_goals
          go_wp2_with fail
          exact ⟨rfl, rfl, rfl, Below.refl _ _⟩
        ·intro xs w7 hb hf
         have f26 := hf 26 (by omega)
         have f28 := hf 28 (by omega)
         simp only [McF] at f26 f28
         obtain ⟨t9, s, q, f26, ho9, hs9, hq9⟩ := f26
         have hx9 : ∀ x ∈ insT vs2 ⟨⟨p, subL ms p, [AB]⟩, s, q⟩, VtIn w7 (fun k => ¬ GB v5 g2 k ∧ (Sl.val t9).ownBlock ≠ some k) x := fun x hx => by
          rcases insT_mem hx with e | rfl
          ·have hold := HS8.out.go.nm _ (List.getElem_mem HN2.out) x (by rw [← HVS.out]; exact e)
           refine (VtIn.below (VtIn.and hold hold.at_) hb).mono fun k _ hk => ⟨hk.1, fun e => ?_⟩
           have h1 := (ho9.lt k e).1
           have h2 := hk.2
           omega
          ·have hov : OV w7 w8.heap.size ⟨⟨p, subL ms p, [AB]⟩, s, q⟩ := ⟨hs9, hq9⟩
           exact hov.vt HOKN.out (fun k hk => ⟨fun hn => by have h1 := (hs9.lt k hk).1; have h2 := (HS8.out.go.lt hn).2; omega, fun e => own_type hs9 ho9 (by decide) k hk e⟩) (fun k hk => ⟨fun hn => by have h1 := (hq9.lt k hk).1; have h2 := (HS8.out.go.lt hn).2; omega, fun e => own_type hq9 ho9 (by decide) k hk e⟩)
         obtain ⟨gb9, cap9, hv9, hfr9, hc9, hS9⟩ := HS8.out.go.setL3 (Nat.le_trans HBW.out.size HB8.out.size) n1 HN2.out hb ⟨insT vs2 ⟨⟨p, subL ms p, [AB]⟩, s, q⟩, t9⟩ ho9 hx9
         rw [HV5.out] at hv9
         simp only [Value.slice.injEq, Option.some.injEq, Addr.mk.injEq, and_true] at hv9
         obtain ⟨hgb9, -, -⟩ := hv9
         subst hgb9
         obtain ⟨W9, hW9⟩ : ∃ W9, W9 = w7.setCell ⟨gb, n1, none⟩ (.slice t9.ad t9.n t9.c) := ⟨_, rfl⟩
         simp only [Sl.val] at hS9
         rw [← hW9] at hS9
         have HS9 := Bx.mk (HS8.out.trans hS9)
         have HX9 := Bx.mk (show gxs (g2.set n1 ⟨insT vs2 ⟨⟨p, subL ms p, [AB]⟩, s, q⟩, t9⟩) = G0.set n1 (rmL ms true (fndP G0[n0]! anyP) G0[n1]! (S.take (i + 1))) by
          have e1 : ∀ L', gxs (g2.set n1 L') = (gxs g2).set n1 (vxs L'.vs) := fun L' => List.map_set
          rw [e1, hX2.out, List.set_set, HRS.out]
          show G0.set n1 (vxs (insT vs2 _)) = _
          rw [insT_vxs, HVX.out])
         have HQ9 := Bx.mk (show NQ w.heap.size (g2.set n1 ⟨insT vs2 ⟨⟨p, subL ms p, [AB]⟩, s, q⟩, t9⟩) from hQ2.out.set n1 fun y hy kb hkb => by
          rcases insT_mem hy with e | rfl
          ·exact hQ2.out _ (List.getElem_mem HN2.out) y (by rw [← HVS.out]; exact e) kb hkb
          ·have h2 := HBW.out.size
           have h3 := HB8.out.size
           rcases hkb with e | e
           ·have h1 := (hs9.lt kb e).1; omega
           ·have h1 := (hq9.lt kb e).1; omega)
         have z9 := hfr9 n1
         rw [HSLV.out] at hc9
         simp only [Sl.val] at hc9
         have HW9 := Bx.mk hW9
         clear hf hb ho9 hs9 hq9 hx9 hS9 hfr9 hW9
         simp only [List.take_succ_cons, List.take_zero, List.drop_succ_cons, List.drop_zero, putFrom, Act.put, List.setIfInBounds_toArray, List.set_cons_succ, List.set_cons_zero, Nat.zero_add, Nat.reduceAdd, f26, f28]
         clear f26 f28
         go_wp2_with fail
         rw [← HW9.out]
         go_roundw
         case rel => exact ⟨i + 1, _, by omega, by go_num, HS9, HX9, HQ9⟩
         case measure => simp [intOf]; omega
       ·have t2 : decide (z2 ≥ 0) = false := decide_eq_false hs0
        have HX3 := Bx.mk (show gxs g2 = G0.set n1 (rmL ms true (fndP G0[n0]! anyP) G0[n1]! (S.take (i + 1))) by
         rw [hX2.out, ← HL.out, HTK.out]
         unfold rmS
         rw [if_neg (show ¬ 0 ≤ fndP l p by have := HFN.out; omega), if_neg (by rw [Bool.true_and, decide_eq_true_eq, ← HZ2.out]; exact hs0)])
        clear hs0 hz0
        go_wp2_with fail
        go_roundw
        case rel => exact ⟨i + 1, g2, by omega, by go_num, HS8, HX3, hQ2⟩
        case measure => simp [intOf]; omega
   ·obtain rfl : i = SN := by omega
    have HXF := Bx.mk (show gxs g2 = G0.set n1 (rmL ms ok (fndP G0[n0]! anyP) G0[n1]! S) by rw [hX2.out, HSN.out, List.take_length])
    have hprn := rprune_any wr w.heap.size v5 g2 hS2.out.go (by rw [HXF.out]; exact HPGK.out S HSL.out HSA.out) (by rw [HNL2.out]; omega)
    rw [HV5.out] at hprn
    have HGLT := Bx.mk (fun k => hS2.out.go.lt (k := k))
    clear hgo2
    go_wp2_with fail
    go_at_call 58
    refine hprn.mono ?_
    rintro e w12 ⟨v12, g12, rfl, hgo12, hgx12, hfr12, -, hnk12⟩
    have HNQ12 := Bx.mk (hnk12 w.heap.size HBW.out.size hQ2.out)
    have hb12 : Below w.heap.size wr w12 := hfr12.below (fun j hj => (HGLT.out j (by rw [HV5.out]; exact hj)).1) HBW.out.size
    have HB12 := Bx.mk (HBW.out.trans hb12)
    have HG12 := Bx.mk hgo12
    have HX12 := Bx.mk (show gxs g12 = R.1 by rw [hgx12, HXF.out, HRF.out])
    obtain ⟨xa, xc, rfl, -⟩ := hgo12.own.rd.form
    clear hprn hgo12 hgx12 hfr12 hb12 hnk12
    go_wp2_with fail
    go_ret2
    exact ⟨_, g12, by rw [HRF.out]; rfl, HG12.out, HX12.out, HB12.out, HNQ12.out⟩
set_option maxRecDepth 100000 in
theorem rgroot_any (w : World) : Calls Tryz.prog 21 #[] w fun e w' => ∃ v' g', e = .returned v' ∧ GO w' w.heap.size v' g' ∧ gxs g' = rootG ∧ Below w.heap.size w w' ∧ NQ w.heap.size g' := by
 have hal := alone_any w
 go_enter Tryz.func21, Tryz.ntmps21
 go_wp2_with fail
 go_at_call 44
 refine hal.mono ?_
 rintro e W1 ⟨v1, rfl, ho1, hb1⟩
 obtain ⟨a1, c1, rfl, -⟩ := ho1.rd.form
 have HO1 := Bx.mk ho1
 have HB1 := Bx.mk hb1
 clear hal ho1 hb1
 go_wp2_with fail
 go_ret
 have ho1 : Slc.Own W1 w.heap.size 9 1 encS (.slice a1 1 c1) [anyP] := HO1.out
 have hb1 := HB1.out
 obtain ⟨W2, hW2⟩ : ∃ W2, W2 = W1.alloc (.cells #[.string ⟨#[50, 46, 53, 46, 50, 57, 46, 51, 50, 46, 48]⟩, .slice a1 1 c1, .slice none 0 0] 65) := ⟨_, rfl⟩
 have ho2 : Slc.Own W2 w.heap.size 65 3 encV (.slice (some ⟨W1.heap.size, 0, none⟩) 1 1) [⟨⟨anyP, [anyP], []⟩, ⟨a1, 1, c1⟩, ⟨none, 0, 0⟩⟩] := by
  rw [hW2]; exact own_alloc encV_ok W1 [⟨⟨anyP, [anyP], []⟩, ⟨a1, 1, c1⟩, ⟨none, 0, 0⟩⟩] _ rfl hb1.size (by unfold maxLen; simp)
 have hs2 : W2.heap.size = W1.heap.size + 1 := by rw [hW2]; simp
 have hb12 : Below W1.heap.size W1 W2 := by rw [hW2]; exact (Below.refl _ _).alloc (Nat.le_refl _) _
 have hb2 : Below w.heap.size w W2 := hb1.trans (hb12.mono hb1.size)
 have ho12 : Slc.Own W2 w.heap.size 9 1 encS (.slice a1 1 c1) [anyP] := ho1.below hb12
 obtain ⟨W3, hW3⟩ : ∃ W3, W3 = W2.alloc (.cells #[.slice (some ⟨W1.heap.size, 0, none⟩) 1 1] 63) := ⟨_, rfl⟩
 have hba : Below W2.heap.size W2 W3 := by rw [hW3]; exact (Below.refl _ _).alloc (Nat.le_refl _) _
 have ho3 : Slc.Own W3 w.heap.size 63 1 encL (.slice (some ⟨W2.heap.size, 0, none⟩) 1 1) [⟨[⟨⟨anyP, [anyP], []⟩, ⟨a1, 1, c1⟩, ⟨none, 0, 0⟩⟩], ⟨some ⟨W1.heap.size, 0, none⟩, 1, 1⟩⟩] := by
  rw [hW3]; exact own_alloc encL_ok W2 [⟨[⟨⟨anyP, [anyP], []⟩, ⟨a1, 1, c1⟩, ⟨none, 0, 0⟩⟩], ⟨some ⟨W1.heap.size, 0, none⟩, 1, 1⟩⟩] _ rfl hb2.size (by unfold maxLen; simp)
 have hfin : GO W3 w.heap.size (.slice (some ⟨W2.heap.size, 0, none⟩) 1 1) [⟨[⟨⟨anyP, [anyP], []⟩, ⟨a1, 1, c1⟩, ⟨none, 0, 0⟩⟩], ⟨some ⟨W1.heap.size, 0, none⟩, 1, 1⟩⟩] := by
  refine ⟨ho3, fun L hL => ?_, fun i j hi hj hij => ?_, fun L hL k hk => ?_, fun L hL x hx => ?_⟩
  ·rw [List.mem_singleton] at hL; subst hL; exact ho2.below hba
  ·simp only [List.length_singleton] at hi hj; omega
  ·rw [List.mem_singleton] at hL; subst hL
   have hk' : some W1.heap.size = some k := hk
   simp only [Option.some.injEq] at hk'
   intro hn
   have hn' : some W2.heap.size = some k := hn
   simp only [Option.some.injEq] at hn'
   omega
  ·rw [List.mem_singleton] at hL; subst hL
   rw [List.mem_singleton] at hx; subst hx
   refine ⟨⟨(ho12.below hba).rd, fun k hk hn => ?_⟩, .inl ⟨rfl, _, _, rfl⟩, ⟨by simp, fun b hb => ?_⟩, by show 11 ≤ 1000000; omega, by simp, fun p hp => by cases hp⟩
   ·have hk1 := (ho1.lt k hk).2
    rcases hn with hn | ⟨L, hL, hn⟩
    ·have : some W2.heap.size = some k := hn
     simp only [Option.some.injEq] at this; omega
    ·rw [List.mem_singleton] at hL; subst hL
     have : some W1.heap.size = some k := hn
     simp only [Option.some.injEq] at this; omega
   ·simp only [List.mem_singleton] at hb
    subst hb
    show 11 ≤ 1000000
    omega
 have hnq : NQ w.heap.size [(⟨[⟨⟨anyP, [anyP], []⟩, ⟨a1, 1, c1⟩, ⟨none, 0, 0⟩⟩], ⟨some ⟨W1.heap.size, 0, none⟩, 1, 1⟩⟩ : Lv)] := fun L hL x hx k hk => by
  rw [List.mem_singleton] at hL; subst hL
  rw [List.mem_singleton] at hx; subst hx
  rcases hk with e | e
  ·exact (HO1.out.lt k e).1
  ·simp [Sl.val, Value.ownBlock] at e
 have hbf : Below w.heap.size w W3 := hb2.trans (hba.mono hb2.size)
 rw [hW3, hs2, hW2] at hfin
 rw [hW3, hW2] at hbf
 exact ⟨_, _, by first | rfl | simp, hfin, rfl, hbf, hnq⟩
end Go.Proofs.YtmagjdocondmhaaGreat.Tr.Gr
namespace Go.Proofs.YtmagjdocondmhaaGreat.Tr
open Go Go.RowKit Go.Proofs.YtmagjdocondmhaaGreat.Slc Go.Proofs.YtmagjdocondmhaaGreat.St Go.Proofs.YtmagjdocondmhaaGreat.Mp
attribute [local go_sem] Oper.semAt_some
theorem grown_below {w w' : World} {g : Option Nat} (h : Below w.heap.size w w') : w.grownBy w' g := ⟨h.os, h.tape, h.output, h.size, fun k hk _ => h.block k hk⟩
theorem deck_keep {W0 : World} {v : Value} {zs : List Int} {w w' : World} {g B : Nat} (h : Deck W0 v zs w g) (hb : Below B w w') (hg : g < B) (hB : W0.heap.size ≤ B) : Deck W0 v zs w' g := by
 obtain ⟨k, hk, hc⟩ := h.c1
 exact ⟨h.ints, h.bel.trans (hb.mono hB), h.ge, (hb.cell (p := ⟨g, 0, none⟩) hg).trans h.c0, ⟨k, hk, (hb.cell (p := ⟨g, 1, none⟩) hg).trans hc⟩, fun k => (hb.frozen (p := ⟨g, k, none⟩) hg).trans (h.fr k), Nat.lt_of_lt_of_le h.lt hb.size, fun j s e => h.ns j s ((hb.cell (p := ⟨g, j, none⟩) hg).symm.trans e)⟩
theorem own_grown {α : Type} {w w' : World} {B z g : Nat} {t : TypeId} {enc : α → List Value} {v : Value} {l : List α} (h : Slc.Own w B t z enc v l) (hg : w.grownBy w' (some g)) (hgB : g < B) : Slc.Own w' B t z enc v l :=
 h.keep fun k hk hlt => hg.block k hlt (by simp only [ne_eq, Option.some.injEq]; intro e; have := (h.lt k hk).1; omega)
structure MSt {α : Type} (t : TypeId) (z : Nat) (enc : α → List Value) (W0 : World) (v : Value) (zs : List Int) (w : World) (g : Nat) (hv : Value) (out : List α) (wr : World) : Prop where
 own : Slc.Own wr w.heap.size t z enc hv out
 dk : Deck W0 v zs wr g
 gr : w.grownBy wr (some g)
section
variable {α : Type} {t : TypeId} {z : Nat} {enc : α → List Value} {W0 : World} {v : Value} {zs : List Int} {w : World} {g : Nat} {hv : Value} {out : List α} {wr w' : World}
theorem MSt.below (h : MSt t z enc W0 v zs w g hv out wr) (hb : Below wr.heap.size wr w') : MSt t z enc W0 v zs w g hv out w' :=
 ⟨h.own.below hb, h.dk.below hb, h.gr.trans (grown_below hb)⟩
theorem MSt.grow (h : MSt t z enc W0 v zs w g hv out wr) (hg : wr.grownBy w' (some g)) (hd : Deck W0 v zs w' g) (hgl : g < w.heap.size) : MSt t z enc W0 v zs w g hv out w' :=
 ⟨own_grown h.own hg hgl, hd, h.gr.trans hg⟩
theorem MSt.apd {a b : Nat} {xs news : List Value} {m : List α} {v' : Value} (h : MSt t z enc W0 v zs w g hv out wr) (hgl : g < w.heap.size) (hw0 : W0.heap.size ≤ w.heap.size) (hx : xs = out.flatMap enc) (hy : news = m.flatMap enc) (ha : a = out.length) (hb : b = m.length) (h' : Apd wr w.heap.size t z hv a b xs news v' w') : MSt t z enc W0 v zs w g v' (out ++ m) w' := by
 have hbb : Below w.heap.size wr w' := (Below.refl _ _).grown h'.grown h.gr.size fun k hk => (h.own.lt k hk).1
 exact ⟨h.own.apd hx hy ha hb h', deck_keep h.dk hbb hgl hw0, ⟨hbb.os.trans h.gr.os, hbb.tape.trans h.gr.tape, hbb.output.trans h.gr.output, Nat.le_trans h.gr.size hbb.size, fun k hk hne => (hbb.block k hk).trans (h.gr.block k hk hne)⟩⟩
end
set_option maxRecDepth 100000 in
set_option maxHeartbeats 4000000 in
theorem policy_any (w : World) (m : Nat) (hm : m < 9) : Calls Tryz.prog 35 #[.int .i64 m] w fun e w' => ∃ p : B, e = .returned (.string (bstr p)) ∧ p.length ≤ 100 ∧ Below w.heap.size w w' := by
 have hb : ∀ x, Below w.heap.size w (w.alloc x) := fun x => (Below.refl _ _).alloc (Nat.le_refl _) _
 have HB := Bx.mk hb
 clear hb
 obtain rfl | rfl | rfl | rfl | rfl | rfl | rfl | rfl | rfl : m = 0 ∨ m = 1 ∨ m = 2 ∨ m = 3 ∨ m = 4 ∨ m = 5 ∨ m = 6 ∨ m = 7 ∨ m = 8 := by omega
 all_goals
  clear hm
  go_enter Tryz.func35, Tryz.ntmps35
  go_wp2_with fail
  go_ret
 ·exact ⟨[49, 46, 50, 46, 51, 46, 49], rfl, by decide, HB.out _⟩
 ·exact ⟨[49, 46, 50, 46, 51, 46, 50], rfl, by decide, HB.out _⟩
 ·exact ⟨[49, 46, 50, 46, 51, 46, 51], rfl, by decide, HB.out _⟩
 ·exact ⟨[49, 46, 50, 46, 51, 46, 52], rfl, by decide, HB.out _⟩
 ·exact ⟨[49, 46, 50, 46, 51, 46, 53], rfl, by decide, HB.out _⟩
 ·exact ⟨[50, 46, 57, 57, 57, 46, 49], rfl, by decide, HB.out _⟩
 ·exact ⟨[50, 46, 57, 57, 57, 46, 50], rfl, by decide, HB.out _⟩
 ·exact ⟨[49, 46, 50, 46, 51], rfl, by decide, HB.out _⟩
 ·exact ⟨anyP, rfl, by decide, HB.out _⟩
theorem info_map2 : (Tryz.prog.info? 49).map (fun i => (i.zero, i.size, i.bytes)) = some (some (.agg #[.string ⟨#[]⟩, .string ⟨#[]⟩]), 2, 32) := by kernel_rfl
theorem und_maps : Tryz.prog.underlying 40 = some (.slice 49) := by kernel_rfl
theorem src_map (w : World) (x y : B) : SrcV (w.alloc (.cells #[.string (bstr x), .string (bstr y)] 49)) 2 (.slice (some ⟨w.heap.size, 0, none⟩) 1 1) 1 ([(x, y)].flatMap encP) := src_new encP_ok (heap_alloc_new _ _)
set_option maxRecDepth 100000 in
set_option maxHeartbeats 4000000 in
theorem policies_any (W0 : World) (v : Value) (zs : List Int) (w : World) (g n : Nat) (h : Deck W0 v zs w g) (hn : n ≤ 1000) :
  Calls Tryz.prog 22 #[.pointer (some ⟨g, 0, none⟩), .int .i64 n] w fun e w' => ∃ (rv : Value) (out : List B), e = .returned rv ∧ MSt 9 1 encS W0 v zs w g rv out w' ∧ out.length ≤ n ∧ ∀ p ∈ out, p.length ≤ 100 := by
 obtain ⟨i0, hi0, hz0, hz1, hz2⟩ := info_parts info_str
 have hgl := h.lt
 have hw0 := h.bel.size
 have hnx := next_any W0 v zs w g ((n : Int) + 1) h (by omega) (by omega)
 go_enter Tryz.func22, Tryz.ntmps22
 go_wp2_with fail
 refine hnx.mono ?_
 rintro e w1 ⟨r, rfl, a1, b1, hD1, hg1⟩
 have HS1 := Bx.mk (show MSt 9 1 encS W0 v zs w g (.slice none 0 0) [] w1 from ⟨Slc.Own.nil _ _, hD1, hg1⟩)
 clear hnx hD1 hg1 h
 go_wp2_with fail
 go_loopw [5, 6] (fun hv i wr => ∃ (k : Int) (out : List B), 0 ≤ k ∧ i = .int .i64 k ∧ out.length + k ≤ n ∧ Bx (MSt 9 1 encS W0 v zs w g hv out wr) ∧ Bx (∀ p ∈ out, p.length ≤ 100)) (fun _ i _ => (intOf i).toNat)
 case atStart => exact ⟨r, [], a1, rfl, by simp; omega, HS1, ⟨fun p hp => by cases hp⟩⟩
 case round =>
  clear HS1
  obtain ⟨k, out, hk, rfl, hlen, hS, hP⟩ := hrel
  obtain ⟨av, cv, rfl, -⟩ := hS.out.own.rd.form
  by_cases hlt : 0 < k
  ·have tk : decide (k > 0) = true := decide_eq_true hlt
   have tk2 : decide (0 < k) = true := decide_eq_true hlt
   have hwk : IntKind.i64.wrap (k - 1) = k - 1 := IntWalk.i64_in _ (by omega)
   obtain ⟨W2, hW2⟩ : ∃ W2, W2 = wr.alloc (.cells #[.int .i64 0, .int .i64 1, .int .i64 2, .int .i64 3, .int .i64 8] 3) := ⟨_, rfl⟩
   have hb2 : Below wr.heap.size wr W2 := by rw [hW2]; exact (Below.refl _ _).alloc (Nat.le_refl _) _
   have hq2 : W2.heap[wr.heap.size]? = some (.cells #[.int .i64 0, .int .i64 1, .int .i64 2, .int .i64 3, .int .i64 8] 3 (0, 0)) := by rw [hW2]; exact heap_alloc_new _ _
   have HS2 := Bx.mk (hS.out.below hb2)
   have hnx := next_any W0 v zs W2 g 5 HS2.out.dk (by omega) (by omega)
   have hsz : w.heap.size ≤ wr.heap.size := hS.out.gr.size
   have HQ2 := Bx.mk hq2
   clear hb2 hq2
   go_upto_if 20 with fail
   rw [← hW2]
   clear hW2
   refine hnx.mono ?_
   rintro e w3 ⟨r3, rfl, a3, b3, hD3, hg3⟩
   clear hnx
   have HS3 := Bx.mk (HS2.out.grow hg3 hD3 hgl)
   have hq3 := (hg3.block wr.heap.size (lt_of_some HQ2.out) (by simp only [ne_eq, Option.some.injEq]; omega)).trans HQ2.out
   obtain ⟨m, rfl⟩ : ∃ m : Nat, r3 = (m : Int) := ⟨r3.toNat, by omega⟩
   obtain ⟨c, hc9, hx⟩ : ∃ c : Nat, c < 9 ∧ w3.cell? ⟨wr.heap.size, m, none⟩ = some (.int .i64 (c : Int)) := by
    have hm5 : m = 0 ∨ m = 1 ∨ m = 2 ∨ m = 3 ∨ m = 4 := by omega
    rcases hm5 with rfl | rfl | rfl | rfl | rfl
    ·exact ⟨0, by omega, cell_of_row _ _ 0 _ _ _ hq3⟩
    ·exact ⟨1, by omega, cell_of_row _ _ 1 _ _ _ hq3⟩
    ·exact ⟨2, by omega, cell_of_row _ _ 2 _ _ _ hq3⟩
    ·exact ⟨3, by omega, cell_of_row _ _ 3 _ _ _ hq3⟩
    ·exact ⟨8, by omega, cell_of_row _ _ 4 _ _ _ hq3⟩
   have hm5 : m < 5 := by omega
   have hpl := policy_any w3 c hc9
   clear hD3 hg3 hq3 HS2 HQ2 a3 b3
   go_upto_if 20 with fail
   go_at_call 35
   refine hpl.mono ?_
   rintro e w4 ⟨p, rfl, hp, hb4⟩
   clear hpl
   have HS4 := Bx.mk (HS3.out.below hb4)
   have HS5 := Bx.mk (HS4.out.below ((Below.refl w4.heap.size w4).alloc (Nat.le_refl _) (.cells #[.string (bstr p)] 9)))
   have HP5 := Bx.mk (show ∀ q ∈ out ++ [p], q.length ≤ 100 from fun q hq => by
    rcases List.mem_append.1 hq with e | e
    ·exact hP.out q e
    ·rw [List.mem_singleton] at e; subst e; exact hp)
   have HSRC := Bx.mk (src_str w4 p)
   have hm1 : out.length + 1 ≤ maxLen := by unfold maxLen; omega
   have hm2 : (out.length + 1) * 16 ≤ 140737488355328 := by omega
   have hbz : w.heap.size ≤ (w4.alloc (.cells #[.string (bstr p)] 9)).heap.size := HS5.out.gr.size
   clear hb4 hx HS3 hc9 hm5 hp
   go_wp2_with (at_builtin; refine wpList_append_any rfl _ _ _ rfl w.heap.size 9 i0 _ 1 16 und_strs hi0 hz0 hz1 hz2 rfl (by decide) _ out.length (out.flatMap encS) rfl HS5.out.own _ 1 ([p].flatMap encS) rfl HSRC.out hm1 hm2 hbz ?_)
   intro v9 w9 hapd
   have HS9 := Bx.mk (HS5.out.apd (m := [p]) hgl hw0 rfl rfl rfl rfl hapd)
   clear hapd hm1 hm2 hbz HS5 HS4
   go_wp2_with fail
   go_roundw
   case rel => exact ⟨k - 1, out ++ [p], by omega, by go_num, by simp; omega, HS9, HP5⟩
   case measure => simp [intOf]; omega
  ·go_wp2_with fail
   go_ret
   exact ⟨_, rfl, out, hS.out, by omega, hP.out⟩
set_option maxRecDepth 100000 in
set_option maxHeartbeats 4000000 in
theorem mappings_any (W0 : World) (v : Value) (zs : List Int) (w : World) (g n : Nat) (h : Deck W0 v zs w g) (hn : n ≤ 1000) :
  Calls Tryz.prog 25 #[.pointer (some ⟨g, 0, none⟩), .int .i64 n] w fun e w' => ∃ (rv : Value) (out : List (B × B)), e = .returned rv ∧ MSt 49 2 encP W0 v zs w g rv out w' ∧ out.length ≤ n + 1 ∧ ∀ p ∈ out, p.1.length ≤ 100 ∧ p.2.length ≤ 100 := by
 obtain ⟨i0, hi0, hz0, hz1, hz2⟩ := info_parts info_map2
 have hgl := h.lt
 have hw0 := h.bel.size
 have hnx := next_any W0 v zs w g ((n : Int) + 1) h (by omega) (by omega)
 go_enter Tryz.func25, Tryz.ntmps25
 go_wp2_with fail
 refine hnx.mono ?_
 rintro e w1 ⟨r, rfl, a1, b1, hD1, hg1⟩
 have HS1 := Bx.mk (show MSt 49 2 encP W0 v zs w g (.slice none 0 0) [] w1 from ⟨Slc.Own.nil _ _, hD1, hg1⟩)
 clear hnx hD1 hg1 h
 go_wp2_with fail
 go_loopw [5, 6] (fun hv i wr => ∃ (k : Int) (out : List (B × B)), 0 ≤ k ∧ i = .int .i64 k ∧ out.length + k ≤ n ∧ Bx (MSt 49 2 encP W0 v zs w g hv out wr) ∧ Bx (∀ p ∈ out, p.1.length ≤ 100 ∧ p.2.length ≤ 100)) (fun _ i _ => (intOf i).toNat)
 case atStart => exact ⟨r, [], a1, rfl, by simp; omega, HS1, ⟨fun p hp => by cases hp⟩⟩
 case round =>
  clear HS1
  obtain ⟨k, out, hk, rfl, hlen, hS, hP⟩ := hrel
  obtain ⟨av, cv, rfl, -⟩ := hS.out.own.rd.form
  by_cases hlt : 0 < k
  ·have tk : decide (k > 0) = true := decide_eq_true hlt
   have tk2 : decide (0 < k) = true := decide_eq_true hlt
   have hwk : IntKind.i64.wrap (k - 1) = k - 1 := IntWalk.i64_in _ (by omega)
   have hnx := next_any W0 v zs wr g 4 hS.out.dk (by omega) (by omega)
   go_upto_if 20 with fail
   refine hnx.mono ?_
   rintro e w3 ⟨r3, rfl, a3, b3, hD3, hg3⟩
   clear hnx
   have HS3 := Bx.mk (hS.out.grow hg3 hD3 hgl)
   obtain ⟨m, rfl⟩ : ∃ m : Nat, r3 = (m : Int) := ⟨r3.toNat, by omega⟩
   have hpl := policy_any w3 m (by omega)
   clear hD3 hg3 hS a3 b3
   go_upto_if 20 with fail
   go_at_call 35
   refine hpl.mono ?_
   rintro e w4 ⟨p, rfl, hp, hb4⟩
   clear hpl
   have HS4 := Bx.mk (HS3.out.below hb4)
   have hnx := next_any W0 v zs w4 g 4 HS4.out.dk (by omega) (by omega)
   clear hb4 HS3
   go_upto_if 20 with fail
   refine hnx.mono ?_
   rintro e w5 ⟨r5, rfl, a5, b5, hD5, hg5⟩
   clear hnx
   have HS5 := Bx.mk (HS4.out.grow hg5 hD5 hgl)
   obtain ⟨m2, rfl⟩ : ∃ m : Nat, r5 = (m : Int) := ⟨r5.toNat, by omega⟩
   have hpl := policy_any w5 m2 (by omega)
   clear hD5 hg5 HS4 a5 b5
   go_upto_if 20 with fail
   go_at_call 35
   refine hpl.mono ?_
   rintro e w6 ⟨p2, rfl, hp2, hb6⟩
   clear hpl
   have HS6 := Bx.mk (HS5.out.below hb6)
   have HS7 := Bx.mk (HS6.out.below ((Below.refl w6.heap.size w6).alloc (Nat.le_refl _) (.cells #[.string (bstr p), .string (bstr p2)] 49)))
   have HP7 := Bx.mk (show ∀ q ∈ out ++ [(p, p2)], q.1.length ≤ 100 ∧ q.2.length ≤ 100 from fun q hq => by
    rcases List.mem_append.1 hq with e | e
    ·exact hP.out q e
    ·rw [List.mem_singleton] at e; subst e; exact ⟨hp, hp2⟩)
   have HSRC := Bx.mk (src_map w6 p p2)
   have hm1 : out.length + 1 ≤ maxLen := by unfold maxLen; omega
   have hm2 : (out.length + 1) * 32 ≤ 140737488355328 := by omega
   have hbz : w.heap.size ≤ (w6.alloc (.cells #[.string (bstr p), .string (bstr p2)] 49)).heap.size := HS7.out.gr.size
   clear hb6 HS5 hp hp2
   go_wp2_with (at_builtin; refine wpList_append_any rfl _ _ _ rfl w.heap.size 49 i0 _ 2 32 und_maps hi0 hz0 hz1 hz2 rfl (by decide) _ out.length (out.flatMap encP) rfl HS7.out.own _ 1 ([(p, p2)].flatMap encP) rfl HSRC.out hm1 hm2 hbz ?_)
   intro v9 w9 hapd
   have HS9 := Bx.mk (HS7.out.apd (m := [(p, p2)]) hgl hw0 rfl rfl rfl rfl hapd)
   clear hapd hm1 hm2 hbz HS7 HS6
   go_wp2_with fail
   go_roundw
   case rel => exact ⟨k - 1, out ++ [(p, p2)], by omega, by go_num, by simp; omega, HS9, HP7⟩
   case measure => simp [intOf]; omega
  ·have hnx := next_any W0 v zs wr g 12 hS.out.dk (by omega) (by omega)
   go_wp2_with fail
   refine hnx.mono ?_
   rintro e w3 ⟨r3, rfl, a3, b3, hD3, hg3⟩
   clear hnx
   have HS3 := Bx.mk (hS.out.grow hg3 hD3 hgl)
   clear hD3 hg3
   by_cases h1 : r3 = 1
   ·have t1 : (r3 == 1) = true := by simp [h1]
    have hpl := policy_any w3 0 (by omega)
    clear a3 b3
    go_wp2_with fail
    go_at_call 35
    refine hpl.mono ?_
    rintro e w6 ⟨p2, rfl, hp2, hb6⟩
    clear hpl
    have HS6 := Bx.mk (HS3.out.below hb6)
    have HS7 := Bx.mk (HS6.out.below ((Below.refl w6.heap.size w6).alloc (Nat.le_refl _) (.cells #[.string (bstr anyP), .string (bstr p2)] 49)))
    have HP7 := Bx.mk (show ∀ q ∈ out ++ [(anyP, p2)], q.1.length ≤ 100 ∧ q.2.length ≤ 100 from fun q hq => by
     rcases List.mem_append.1 hq with e | e
     ·exact hP.out q e
     ·rw [List.mem_singleton] at e; subst e; exact ⟨(by decide : anyP.length ≤ 100), hp2⟩)
    have HSRC := Bx.mk (src_map w6 anyP p2)
    have hm1 : out.length + 1 ≤ maxLen := by unfold maxLen; omega
    have hm2 : (out.length + 1) * 32 ≤ 140737488355328 := by omega
    have hbz : w.heap.size ≤ (w6.alloc (.cells #[.string (bstr anyP), .string (bstr p2)] 49)).heap.size := HS7.out.gr.size
    clear hb6 HS3 hp2
    go_wp2_with (at_builtin; refine wpList_append_any rfl _ _ _ rfl w.heap.size 49 i0 _ 2 32 und_maps hi0 hz0 hz1 hz2 rfl (by decide) _ out.length (out.flatMap encP) rfl HS7.out.own _ 1 ([(anyP, p2)].flatMap encP) rfl HSRC.out hm1 hm2 hbz ?_)
    intro v9 w9 hapd
    have HS9 := Bx.mk (HS7.out.apd (m := [(anyP, p2)]) hgl hw0 rfl rfl rfl rfl hapd)
    clear hapd hm1 hm2 hbz HS7 HS6
    go_wp2_with fail
    go_ret
    exact ⟨_, out ++ [(anyP, p2)], rfl, HS9.out, by simp; omega, HP7.out⟩
   ·have t1 : (r3 == 1) = false := by simp [h1]
    go_wp2_with fail
    go_ret
    exact ⟨_, out, rfl, HS3.out, by omega, hP.out⟩
end Go.Proofs.YtmagjdocondmhaaGreat.Tr
