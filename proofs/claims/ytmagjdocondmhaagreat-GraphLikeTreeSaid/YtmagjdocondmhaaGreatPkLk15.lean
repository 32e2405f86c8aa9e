/- packed -/
import Derived.Test.YtmagjdocondmhaaGreatPkLk14
import Derived.WalkSpells
set_option linter.unusedVariables false
set_option linter.unusedSimpArgs false
set_option maxRecDepth 100000
set_option maxHeartbeats 64000000
namespace Go.Proofs.YtmagjdocondmhaaGreat.Tr
open Go Go.RowKit Slc St Mp
attribute [local go_sem] Oper.semAt_some
theorem marks_step {L : List Bool} {N k : Nat} (hL : L.length = N) (hk : k < N) : (L.take k ++ List.replicate (N - k) false).set k L[k]! = L.take (k + 1) ++ List.replicate (N - (k + 1)) false := by
 have hlt : (L.take k).length = k := by rw [List.length_take]; omega
 rw [List.set_append_right _ _ (by omega), hlt, Nat.sub_self, zA (by omega), getElem!_pos L k (by omega), List.append_assoc];congr 1
 obtain ⟨j, hj⟩ : ∃ j, N - k = j + 1 := ⟨N - k - 1, by omega⟩
 rw [hj, show N - (k + 1) = j by omega, List.replicate_succ, List.set_cons_zero]; rfl
theorem marks_len {L : List Bool} {N k : Nat} (hL : L.length = N) (hk : k <= N) : (L.take k ++ List.replicate (N - k) false).length = N := by
 rw [List.length_append, List.length_take, List.length_replicate]; omega
theorem TabP.below {w w' : World} {l : List (B × B)} {bm : Nat} {f : B -> Option Sg} (h : TabP w l bm f) (hb : Below w.heap.size w w') : TabP w' l bm f :=
 ⟨h.has_, fun p s hp => RdIn.below (h.rd p s hp) hb, by obtain ⟨q, h1, h2⟩ := h.mp; exact ⟨q, h1, h2.below hb⟩⟩
theorem TabP.look {w : World} {l : List (B × B)} {bm : Nat} {f : B -> Option Sg} (h : TabP w l bm f) (p : B) (hp : p.length <= 1000000) :
  ∃ va n vc, ((f p).getD nilS).val = .slice va n vc /\ (Instr.lookup 86 (.map (some bm)) (.string (bstr p)) true).run Tryz.prog w = .ok (.tuple #[.slice va n vc, .bool (decide (p ∈ srcL l))]) w /\
   (Instr.lookup 86 (.map (some bm)) (.string (bstr p)) false).run Tryz.prog w = .ok (.slice va n vc) w := by
 obtain ⟨q, _, ho⟩ := h.mp;have h1 := ho.lookS u_mapSS Sg.val nilS (Tryz.zeroValue34 _) rdS_mk rdS_inv (k := p) (by unfold maxLen; omega);rw [h.has_] at h1;exact ⟨_, _, _, rfl, h1.2, h1.1⟩
theorem mapno_any (w : World) (v lv : Value) (l : List Nt) (ms : List (B × B)) (h : TL w v l) (hm : Rd w encP lv ms) (hn : l.length <= 100000) (hml : ms.length <= 100000) (hmx : ∀ m ∈ ms, m.1.length <= 1000000 /\ m.2.length <= 1000000) (D : Int) (hD : I64 D) :
  Calls Tryz.prog 39 #[v, .int .i64 D, lv, .bool false] w fun e w' => EnP w (mapP (nds l) D ms false) e w' := by
 obtain ⟨ib, hib, hib0, hib1, hib2⟩ := info_parts (show (Tryz.prog.info? 4).map (fun i => (i.zero, i.size, i.bytes)) = some (some (.bool false), 1, 1) by kernel_rfl);have htab := fun (W : World) (hW : Below w.heap.size w W) => table_any W lv ms (hm.below hW) hml hmx
 obtain ⟨R, hR⟩ : ∃ R, R = mapP (nds l) D ms false := ⟨_, rfl⟩
 rw [<- hR];have HR := Bx.mk hR;unfold mapP at hR;obtain ⟨ad, c, rfl, -⟩ := h.rd.form;obtain ⟨pa, pc, rfl, -⟩ := hm.form;have hval := fun hd : 1 <= D => valid_any w _ l h hn D
 have HL := Bx.mk h;have HC := Bx.mk h.cells.2;have HTAB := Bx.mk htab;obtain ⟨N, hN⟩ : ∃ N, N = l.length := ⟨_, rfl⟩
 have HN := Bx.mk hN;rw [<- hN] at hn hval |-;clear h hm hN hmx htab;unfold EnP I64 at *;by_cases h1 : D < 1
 ·have t0 : decide (D < 1) = true := zT h1;have HF := Bx.mk (show R = ([], 7) by rw [hR, t0]; rfl);clear hval h1 hR;go_enter Tryz.func39, Tryz.ntmps39;go_wp2_with fail
  go_ret2;exact ⟨_, [], by rw [HF.out]; rfl, TO.nil _ _, by rw [HF.out]; rfl, Below.refl _ _⟩
 have h1' : 1 <= D := by omega
 have t0 : decide (D < 1) = false := zF h1;have hval' := hval h1';rw [t0, Bool.false_or] at hR;obtain ⟨V, hV⟩ : ∃ V, V = validB (nds l) D := ⟨_, rfl⟩
 rw [<- hV] at hval' hR;have HV := Bx.mk hV;have HRR := Bx.mk hR;clear hval hV hR h1;go_enter Tryz.func39, Tryz.ntmps39;go_wp2_with fail
 go_at_call 80;refine hval'.mono ?_;rintro e w1 ⟨rfl, hb1⟩;clear hval'
 cases V with
 | false =>
  have HF := Bx.mk (show R = ([], 7) by rw [HRR.out]; rfl);go_wp2_with fail
  go_ret2
  exact ⟨_, [], by rw [HF.out]; rfl, TO.nil _ _, by rw [HF.out]; rfl, hb1⟩
 | true =>
 have HVV := Bx.mk ((valid_iff _ _).1 HV.out.symm);have hN2 : N <= 2048 := by have := HVV.out.len; rw [nds_len, <- HN.out] at this; exact this
 have htab1 := HTAB.out w1 hb1;have HB1 := Bx.mk hb1;obtain ⟨st1, st2, st3⟩ := map_stay_no HVV.out h1' ms;have HST := Bx.mk (And.intro st1 st3);clear hb1 st1 st2 st3;go_wp2_with fail
 go_at_call 86;refine htab1.mono ?_;rintro e w2 ⟨bm, f, rfl, hbm, hT, hb2⟩;have HT := Bx.mk hT;have HB2 := Bx.mk (HB1.out.trans (hb2.mono HB1.out.size));have hmk := run_makeSlice (P := Tryz.prog) w2 75 4 ib (.bool false) Tryz.underlying75 hib hib0 .i64 .i64 (N : Nat) (N : Nat) (by omega) (by omega) (by rw [Int.toNat_natCast, hib1]; omega) (by rw [hib2]; omega) (by omega);simp only [Int.toNat_natCast, hib1, made_marks] at hmk
 obtain ⟨W3, hW3⟩ : ∃ W3, W3 = w2.alloc (.cells ((List.replicate N false).map Value.bool).toArray 4) := ⟨_, rfl⟩
 obtain ⟨mb, hmb⟩ : ∃ mb, mb = w2.heap.size := ⟨_, rfl⟩
 have HMBE := Bx.mk hmb;rw [<- hW3, <- hmb] at hmk;have HM0 := Bx.mk (show MB W3 mb (List.replicate N false) by unfold MB; rw [hW3, hmb]; exact heap_alloc_new _ _);have HB3 := Bx.mk (show Below mb w2 W3 by rw [hW3, hmb]; exact (Below.refl _ _).alloc (zR _) _);obtain ⟨MM, hMM⟩ : ∃ MM, MM = mapM (nds l) D ms := ⟨_, rfl⟩
 have HMM := Bx.mk hMM;have hMl : MM.length = N := by rw [hMM]; unfold mapM; rw [List.length_map, nds_len, <- HN.out]
 have HML := Bx.mk hMl;clear htab1 hT hb2 hW3 hmb hMM hMl;go_wp2_with fail
 clear hmk;go_loopw [45] (fun i wr => ∃ k : Nat, k <= N /\ i = .int .i64 k /\ Bx (MB wr mb (MM.take k ++ List.replicate (N - k) false)) /\ Bx (Below mb w2 wr)) (fun i _ => N - (intOf i).toNat)
 case atStart => exact ⟨0, by omega, rfl, ⟨by simpa using HM0.out⟩, HB3⟩
 case round =>
  clear HM0 HB3;obtain ⟨k, hk, rfl, hM, hBw⟩ := hrel;have hbw2 : Below w2.heap.size w2 wr := HMBE.out ▸ hBw.out;have HBW := Bx.mk (HB2.out.trans (hbw2.mono HB2.out.size));have HTW := Bx.mk (HT.out.below hbw2);by_cases hlt : k < N
  ·have hkl : k < l.length := by rw [<- HN.out]; exact hlt
   obtain ⟨b, o, rfl, hbl, c0, c1, c2, c3⟩ := HC.out wr HBW.out k hkl;have hXL := (HL.out.at_ l[k] (zM hkl)).2.2
   have HMK := Bx.mk (show MM[k]! = (decide ((l[k]).n.d < D) || !decide ((l[k]).n.pol ∈ srcL ms)) by
    rw [HMM.out]; unfold mapM
    rw [mapP_at _ (by rw [nds_len]; exact hkl), nds_at l k hkl])
   obtain ⟨x, hx⟩ : ∃ x, x = l[k] := ⟨_, rfl⟩
   rw [<- hx] at c0 c1 c2 c3 hXL HMK;simp only [Sl.val] at c3
   clear hx hbl hkl;obtain ⟨W1, hW1⟩ : ∃ W1, W1 = wr.alloc (.cells #[.int .i64 x.n.d, .int .i64 x.n.p, .string (bstr x.n.pol), .slice x.u.ad x.u.n x.u.c] 111) := ⟨_, rfl⟩
   obtain ⟨bn, hbn⟩ : ∃ bn, bn = wr.heap.size := ⟨_, rfl⟩
   have hq1 : W1.heap[bn]? = some (.cells #[.int .i64 x.n.d, .int .i64 x.n.p, .string (bstr x.n.pol), .slice x.u.ad x.u.n x.u.c] 111 (0, 0)) := by rw [hW1, hbn]; exact heap_alloc_new _ _
   have HBA := Bx.mk (show Below wr.heap.size wr W1 by rw [hW1]; exact (Below.refl _ _).alloc (zR _) _);have hsz := hbw2.size;have HBWA := Bx.mk (show Below mb w2 W1 from hBw.out.trans (HBA.out.mono (by have := HMBE.out; omega)));have hM1 : MB W1 mb (MM.take k ++ List.replicate (N - k) false) := (HBA.out.block mb (lt_of_some hM.out)).trans hM.out;have HM1 := Bx.mk hM1;obtain ⟨va, vn, vc, -, hlook, -⟩ := (HTW.out.below HBA.out).look x.n.pol hXL;have hmlen := marks_len (L := MM) (k := k) HML.out (by omega);have hmc := hM1.cell k (by rw [hmlen]; exact hlt);have hmf := Go.Proofs.YtmagjdocondmhaaGreat.Rg.frozen_row (i := k) hM1;go_upto_region 9 with fail
   rw [<- hW1, <- hbn];clear hW1 hbn c0 c1 c2 c3 hM1 hbw2;have m0 := cell_of_row _ _ 0 _ _ _ hq1;have m2 := cell_of_row _ _ 2 _ _ _ hq1;simp only [List.getElem?_toArray, List.getElem?_cons_zero, List.getElem?_cons_succ] at m0 m2
   clear hq1 hsz hmlen;obtain ⟨isb, hisb⟩ : ∃ b, b = decide (x.n.pol ∈ srcL ms) := ⟨_, rfl⟩
   rw [<- hisb] at hlook HMK;obtain ⟨old, hold⟩ : ∃ b, b = (MM.take k ++ List.replicate (N - k) false)[k]! := ⟨_, rfl⟩
   rw [<- hold] at hmc;clear hisb hold hXL
   have HEND := Bx.mk (show ∀ r, r = MM[k]! -> MB (W1.setCell ⟨mb, k, none⟩ (.bool r)) mb (MM.take (k + 1) ++ List.replicate (N - (k + 1)) false) from fun r hr => by
    have := HM1.out.set k r;rw [hr, marks_step HML.out hlt] at this
    rw [hr]; exact this)
   have HENB := Bx.mk (show ∀ r : Bool, Below mb w2 (W1.setCell ⟨mb, k, none⟩ (.bool r)) from fun r => HBWA.out.setCell (zR mb) _);by_cases td : x.n.d < D
   ·have tq : decide (x.n.d < D) = true := zT td;have HMR := Bx.mk (HEND.out true (by rw [HMK.out, tq]; rfl));clear td;go_wp2_with fail
    go_roundw
    case rel => exact ⟨k + 1, by omega, by go_num, HMR, ⟨HENB.out true⟩⟩
    case measure => simp [intOf]; omega
   ·have tq : decide (x.n.d < D) = false := zF td;have HMR := Bx.mk (HEND.out (!isb) (by rw [HMK.out, tq]; rfl));clear td;go_wp2_with fail
    go_roundw
    case rel => exact ⟨k + 1, by omega, by go_num, HMR, ⟨HENB.out (!isb)⟩⟩
    case measure => simp [intOf]; omega
  ·obtain rfl : N = k := by omega
   have hM2 : MB wr mb MM := by
    have := hM.out;rw [Nat.sub_self, List.replicate_zero, List.append_nil, <- HML.out, List.take_length] at this;exact this
   have hrd := hM2.rd (c := N) (by have := HML.out; omega);rw [HML.out] at hrd;have hkeep := keep_any wr (.slice ad l.length c) _ l MM (HL.out.below HBW.out) hrd (by rw [HML.out, HN.out]) (by have := HN.out; omega) (fun i hi _ => HVV.out.pge (by rw [nds_len]; exact hi));rw [<- HN.out] at hkeep;clear hM hM2 hrd hbw2;go_wp2_with fail
   go_at_call 87;refine hkeep.mono ?_;rintro e w5 ⟨v5, l5, rfl, ho5, hn5, hb5⟩;rw [HMM.out] at hn5
   have hl5 : l5.length <= 5000 := by
    have h2 := congrArg List.length hn5;rw [nds_len, keepP_length] at h2;have h3 := rk_le (mapM (nds l) D ms) (nds l).length;rw [nds_len, <- HN.out] at h3;rw [nds_len, <- HN.out] at h2;omega
   have hpr := prune_any w5 v5 l5 ho5.tl hl5 (fun i hi => by rw [hn5]; exact HST.out.2.pge i (by rw [<- hn5, nds_len]; exact hi)) D;have HFR := Bx.mk (show R = (pruneP (nds l5) D, 0) by rw [HR.out, HST.out.1, hn5]);have HB5 := Bx.mk (HBW.out.trans (hb5.mono HBW.out.size));obtain ⟨a5, c5, rfl, -⟩ := ho5.own.rd.form;clear hkeep hb5 ho5 hn5;go_wp2_with fail
   go_at_call 84;refine hpr.mono ?_;rintro e w7 ⟨v7, l7, rfl, ho7, hn7, hb7⟩;obtain ⟨a7, c7, rfl, -⟩ := ho7.own.rd.form;have HO7 := Bx.mk (ho7.mono HB5.out.size);have HN7 := Bx.mk hn7;have HB7 := Bx.mk (HB5.out.trans (hb7.mono HB5.out.size));clear hpr ho7 hn7 hb7;go_wp2_with fail
   go_ret2;exact ⟨_, l7, by rw [HFR.out]; rfl, HO7.out, by rw [HFR.out, HN7.out], HB7.out⟩
end Go.Proofs.YtmagjdocondmhaaGreat.Tr
namespace Go.Proofs.YtmagjdocondmhaaGreat.Tr
open Go Go.RowKit Slc St Mp
attribute [local go_sem] Oper.semAt_some
theorem TabP.look2 {w : World} {l : List (B × B)} {bm : Nat} {f : B -> Option Sg} (h : TabP w l bm f) (p : B) (hp : p.length <= 1000000) :
  ∃ va n vc, (p ∈ srcL l -> RdIn w (fun b => b ≠ bm) encS (.slice va n vc) (subL l p)) /\ (∀ W, Below w.heap.size w W -> (Instr.lookup 86 (.map (some bm)) (.string (bstr p)) true).run Tryz.prog W = .ok (.tuple #[.slice va n vc, .bool (decide (p ∈ srcL l))]) W /\
   (Instr.lookup 86 (.map (some bm)) (.string (bstr p)) false).run Tryz.prog W = .ok (.slice va n vc) W) := by
 obtain ⟨va, n, vc, h1, -⟩ := h.look p hp;refine ⟨va, n, vc, fun hm => ?_, fun W hW => ?_⟩
 ·have h2 := h.has_ p;rw [zT hm] at h2;obtain ⟨s, hs⟩ := Option.isSome_iff_exists.1 h2;have h3 := h.rd p s hs;rw [hs] at h1;simp only [Option.getD_some] at h1
  rw [h1] at h3; exact h3
 ·obtain ⟨va', n', vc', h2, h3, h4⟩ := (h.below hW).look p hp;rw [h1] at h2;simp only [Value.slice.injEq] at h2
  obtain ⟨rfl, rfl, rfl⟩ := h2;exact ⟨h3, h4⟩
theorem KO.set3 {w : World} {p : Nat} {v : Value} {l : List Nt} (h : KO w p v l) (k : Nat) (hk : k < l.length) (y : Nt) (h1 : y.n.d = (l[k]).n.d) (h2 : y.n.p = (l[k]).n.p) (h3 : y.n.pol = (l[k]).n.pol) (hy : NtIn w (fun b => v.ownBlock ≠ some b /\ b ≠ p) y) :
  ∃ g cap, v = .slice (some ⟨g, 0, none⟩) l.length cap /\ p < g /\ g < w.heap.size /\ (∀ i, w.frozen? ⟨g, i, none⟩ = false) /\ w.cell? ⟨g, k * 4 + 3, none⟩ = some (l[k]).u.val /\ KO (w.setCell ⟨g, k * 4 + 3, none⟩ y.u.val) p v (l.set k y) /\ w.grownBy (w.setCell ⟨g, k * 4 + 3, none⟩ y.u.val) (some g) := by
 obtain ⟨g, cap, hv, hB, hg, hf, ho, hgr⟩ := h.own.set1 encN_ok k 3 hk (by omega) y.u.val y (by simp [encN, h1, h2, h3]);have hob : ∀ b, v.ownBlock = some b ↔ g = b := fun b => by rw [hv]; simp [Value.ownBlock]
 have hkeep : ∀ x, NtIn w (fun b => v.ownBlock ≠ some b /\ b ≠ p) x -> NtIn (w.setCell ⟨g, k * 4 + 3, none⟩ y.u.val) (fun b => v.ownBlock ≠ some b /\ b ≠ p) x := fun x hx => hx.keep hgr.size fun b hb hlt => hgr.block b hlt fun e => hb.1 ((hob b).2 (by simpa using e.symm))
 refine ⟨g, cap, hv, by omega, hg, hf, ?_, ⟨ho, fun x hx => ?_⟩, hgr⟩
 ·have := h.own;rw [hv] at this;exact Slc.Own.cell encN_ok this k hk 3 (by omega) _ rfl
 ·rcases List.mem_or_eq_of_mem_set hx with q | rfl
  ·exact hkeep x (h.nm x q)
  ·exact hkeep _ hy
theorem subL_few {ms : List (B × B)} (h1 : ms.length <= 100000) (h2 : ∀ m ∈ ms, m.1.length <= 1000000 /\ m.2.length <= 1000000) (x : B) : Few (subL ms x) := by
 refine ⟨?_, fun b hb => ?_⟩
 ·have h3 := setB_length ((ms.filter fun m => decide (m.1 = x) && okM m).map (·.2));have h4 := List.length_filter_le (fun m : B × B => decide (m.1 = x) && okM m) ms;rw [List.length_map] at h3;unfold subL;omega
 ·unfold subL at hb;rw [setB_mem, List.mem_map] at hb;obtain ⟨m, hm, rfl⟩ := hb;exact (h2 m (List.mem_filter.1 hm).1).2
def StV (vals : Nat -> Option Value) : Nat -> Value -> Prop := fun j x => match vals j with | some v => x = v | none => True
def StC (W : World) (g c m : Nat) (s : Value) (d : Nat -> Bool) (w : World) : Prop := (d m = false /\ Below W.heap.size W w) \/ (d m = true /\ ∃ wa, Below W.heap.size W wa /\ Below wa.heap.size (wa.setCell ⟨g, c, none⟩ s) w)
theorem StC.bel {W w w' : World} {g c m i : Nat} {s : Value} {d : Nat -> Bool} (h : StC W g c m s d w) (hi : (i == m) = false) (hb : Below w.heap.size w w') : StC W g c m s (mark d i) w' := by
 have h1 : m ≠ i := fun e => by subst e; simp at hi
 have e : mark d i m = d m := by unfold mark; rw [if_neg h1]
 rcases h with ⟨h2, h3⟩ | ⟨h2, wa, h3, h4⟩
 ·exact .inl ⟨by rw [e]; exact h2, h3.trans (hb.mono h3.size)⟩
 ·exact .inr ⟨by rw [e]; exact h2, wa, h3, h4.trans (hb.mono (by have := h4.size; simpa using this))⟩
theorem StC.big {W w w' : World} {g c m i : Nat} {s : Value} {d : Nat -> Bool} (h : StC W g c m s d w) (hi : (i == m) = true) (hd : d i = false) (hg : w' = w.setCell ⟨g, c, none⟩ s) : StC W g c m s (mark d i) w' := by
 have h1 : i = m := by simpa using hi
 subst h1;rcases h with ⟨h2, h3⟩ | ⟨h2, wa, h3, h4⟩
 ·exact .inr ⟨by unfold mark; rw [if_pos rfl], w, h3, by rw [hg]; exact ⟨rfl, rfl, rfl, by simp, fun k hk => rfl⟩⟩
 ·rw [hd] at h2; cases h2
theorem StC.block {W w : World} {g c m : Nat} {s : Value} {d : Nat -> Bool} (h : StC W g c m s d w) (j : Nat) (hj : j < W.heap.size) (hne : j ≠ g) : w.heap[j]? = W.heap[j]? := by
 rcases h with ⟨h2, h3⟩ | ⟨h2, wa, h3, h4⟩
 ·exact h3.block j hj
 ·rw [h4.block j (Nat.lt_of_lt_of_le hj h3.size), heap_setCell_other _ _ _ _ (show j ≠ g from hne)];exact h3.block j hj
def FL (t : List Nd) (D : Int) (ms : List (B × B)) (k : Nat) : List B := (t.take k).flatMap fun n => if !decide (n.d < D) && decide (n.pol ∈ srcL ms) then [n.pol] else []
theorem FL_succ (t : List Nd) (D : Int) (ms : List (B × B)) (k : Nat) (hk : k < t.length) : FL t D ms (k + 1) = FL t D ms k ++ if !decide (t[k]!.d < D) && decide (t[k]!.pol ∈ srcL ms) then [t[k]!.pol] else [] := by
 unfold FL;rw [zA hk, List.flatMap_append, getElem!_pos t k hk];simp
theorem FL_get (t : List Nd) (D : Int) (ms : List (B × B)) (q : B) (hq : q ∈ srcL ms) : ((exF (FL t D ms t.length)) q).getD false = foundP t D q := by
 unfold exF FL foundP;rw [List.take_length];by_cases h : q ∈ t.flatMap fun n => if !decide (n.d < D) && decide (n.pol ∈ srcL ms) then [n.pol] else []
 ·rw [if_pos h];rw [List.mem_flatMap] at h;obtain ⟨n, hn, hp⟩ := h
  symm
  show t.any _ = true
  rw [List.any_eq_true];refine ⟨n, hn, ?_⟩;split at hp
  ·rename_i q2
   rw [zS] at hp;rw [Bool.and_eq_true] at q2;rw [q2.1, zT hp.symm]; rfl
  ·cases hp
 ·rw [if_neg h]
  symm
  show t.any _ = false
  rw [List.any_eq_false];intro n hn hq2;rw [Bool.and_eq_true, decide_eq_true_eq] at hq2;refine h (List.mem_flatMap.2 ⟨n, hn, ?_⟩);rw [hq2.1, hq2.2, zT hq]; simp
def nwK (t : List Nd) (D : Int) (ms : List (B × B)) (k : Nat) : List Nd := (t.take k).map (nowN ms D) ++ t.drop k
theorem nwK_same {t : List Nd} {D : Int} {ms : List (B × B)} {k : Nat} (hk : k < t.length) (h : nowN ms D t[k]! = t[k]!) : nwK t D ms (k + 1) = nwK t D ms k := by
 unfold nwK;rw [zA hk, List.map_append, List.append_assoc];congr 1
 rw [getElem!_pos t k hk] at h;rw [List.map_singleton, h];exact (List.drop_eq_getElem_cons hk).symm
theorem nwK_set {t : List Nd} {D : Int} {ms : List (B × B)} {k : Nat} (hk : k < t.length) : nwK t D ms (k + 1) = (nwK t D ms k).set k (nowN ms D t[k]!) := by
 unfold nwK;have hl : ((t.take k).map (nowN ms D)).length = k := by rw [List.length_map, List.length_take]; omega
 rw [List.set_append_right _ _ (by omega), hl, Nat.sub_self, zA hk, List.map_append, List.append_assoc, List.drop_eq_getElem_cons hk, List.set_cons_zero, getElem!_pos t k hk];rfl
theorem nwK_at {t : List Nd} {D : Int} {ms : List (B × B)} {k : Nat} (hk : k < t.length) : (nwK t D ms k)[k]! = t[k]! := by
 unfold nwK;have hl : ((t.take k).map (nowN ms D)).length = k := by rw [List.length_map, List.length_take]; omega
 rw [getElem!_append_right' (by omega), hl, Nat.sub_self, List.drop_eq_getElem_cons hk, getElem!_pos t k hk]; rfl
theorem nwK_all (t : List Nd) (D : Int) (ms : List (B × B)) : nwK t D ms t.length = t.map (nowN ms D) := by
 unfold nwK; rw [List.take_length, List.drop_length, List.append_nil]
theorem mapyes_any (w : World) (v lv : Value) (l : List Nt) (ms : List (B × B)) (h : TL w v l) (hm : Rd w encP lv ms) (hn : l.length <= 100000) (hml : ms.length <= 100000) (hmx : ∀ m ∈ ms, m.1.length <= 1000000 /\ m.2.length <= 1000000) (D : Int) (hD : I64 D) :
  Calls Tryz.prog 39 #[v, .int .i64 D, lv, .bool true] w fun e w' => EnP w (mapP (nds l) D ms true) e w' := by
 obtain ⟨i0, hi0, hz0, hz1, hz2⟩ := info_parts info_node;have htab := fun (W : World) (hW : Below w.heap.size w W) => table_any W lv ms (hm.below hW) hml hmx
 obtain ⟨R, hR⟩ : ∃ R, R = mapP (nds l) D ms true := ⟨_, rfl⟩
 rw [<- hR];have HR := Bx.mk hR;unfold mapP at hR;obtain ⟨ad, c, rfl, -⟩ := h.rd.form;obtain ⟨pa, pc, rfl, -⟩ := hm.form;have hval := fun hd : 1 <= D => valid_any w _ l h hn D
 have HL := Bx.mk h;have HC := Bx.mk h.cells.2;have HTAB := Bx.mk htab;have HFEW := Bx.mk (subL_few hml hmx);have HMSX := Bx.mk hmx;obtain ⟨N, hN⟩ : ∃ N, N = l.length := ⟨_, rfl⟩
 have HN := Bx.mk hN;rw [<- hN] at hn hval |-;clear h hm hN hmx htab;unfold EnP I64 at *;by_cases h1 : D < 1
 ·have t0 : decide (D < 1) = true := zT h1;have HF := Bx.mk (show R = ([], 7) by rw [hR, t0]; rfl);clear hval h1 hR;go_enter Tryz.func39, Tryz.ntmps39;go_wp2_with fail
  go_ret2;exact ⟨_, [], by rw [HF.out]; rfl, TO.nil _ _, by rw [HF.out]; rfl, Below.refl _ _⟩
 have h1' : 1 <= D := by omega
 have t0 : decide (D < 1) = false := zF h1;have hval' := hval h1';rw [t0, Bool.false_or] at hR;obtain ⟨V, hV⟩ : ∃ V, V = validB (nds l) D := ⟨_, rfl⟩
 rw [<- hV] at hval' hR;have HV := Bx.mk hV;have HRR := Bx.mk hR;clear hval hV hR h1;go_enter Tryz.func39, Tryz.ntmps39;go_wp2_with fail
 go_at_call 80;refine hval'.mono ?_;rintro e w1 ⟨rfl, hb1⟩;clear hval'
 cases V with
 | false =>
  have HF := Bx.mk (show R = ([], 7) by rw [HRR.out]; rfl);go_wp2_with fail
  go_ret2
  exact ⟨_, [], by rw [HF.out]; rfl, TO.nil _ _, by rw [HF.out]; rfl, hb1⟩
 | true =>
 have HVV := Bx.mk ((valid_iff _ _).1 HV.out.symm);have hN2 : N <= 2048 := by have := HVV.out.len; rw [nds_len, <- HN.out] at this; exact this
 have htab1 := HTAB.out w1 hb1;have HB1 := Bx.mk hb1;clear hb1;go_wp2_with fail
 go_at_call 86;refine htab1.mono ?_;rintro e w2 ⟨bm, f, rfl, hbm, hT, hb2⟩;have HT := Bx.mk hT;have HB2 := Bx.mk (HB1.out.trans (hb2.mono HB1.out.size));have hmm := @run_makeMap Tryz.prog;obtain ⟨W3, hW3⟩ : ∃ W3, W3 = w2.alloc (.map #[] 0) := ⟨_, rfl⟩
 obtain ⟨fb, hfb⟩ : ∃ fb, fb = w2.heap.size := ⟨_, rfl⟩
 have HFB := Bx.mk hfb
 have HM0 := Bx.mk (show OwnF W3 kS rdB edB fb 0 (exF (FL (nds l) D ms 0)) by
  have e : exF (FL (nds l) D ms 0) = fun _ => none := by unfold FL; simp [exF_nil]
  rw [e, hW3, hfb]; exact OwnF.made w2 kS rdB edB)
 have HB3 := Bx.mk (show Below fb w2 W3 by rw [hW3, hfb]; exact (Below.refl _ _).alloc (zR _) _);have HS3 := Bx.mk (show W3.heap.size = fb + 1 by rw [hW3, hfb]; simp);have hcl := cloneN_any W3 (.slice ad l.length c) l (HL.out.below (HB2.out.trans (HB3.out.mono (by have := HB2.out.size; omega)))) (by have := HN.out; omega);rw [<- HN.out] at hcl;clear htab1 hT hb2;go_wp2_with fail
 rw [<- hW3, <- hfb];clear hW3 hmm hfb;go_at_call 88;refine hcl.mono ?_;rintro e w4 ⟨nv, rfl, hto, hb4⟩
 have HTO := Bx.mk (show KO w4 fb nv l from ⟨by have := hto.own; rw [HS3.out] at this; exact this, fun x hx => (((NtIn.of (HL.out.at_ x hx)).below (HB2.out.trans (HB3.out.mono (by have := HB2.out.size; have := HFB.out; omega)))).below hb4).mono fun k _ hk => by
  refine ⟨fun e => ?_, ?_⟩
  ·have := (hto.own.lt k e).1;have := HB2.out.size; have := HS3.out; have := HFB.out; omega
  ·have := HB2.out.size; have := HFB.out; omega⟩)
 have HM4 := Bx.mk (HM0.out.below hb4);have HB4 := Bx.mk (HB3.out.trans (hb4.mono (by have := HS3.out; omega)));obtain ⟨na, nc, hnv, -⟩ := hto.own.rd.form;rw [hnv, <- HN.out] at HTO |-;clear hcl hto hb4 hnv;go_wp2_with fail
 go_loopw [16, 79] (fun pv i wr => ∃ (k : Nat) (nl : List Nt), k <= N /\ i = .int .i64 k /\ pv = .int .i64 (lastS (nds l) D k) /\ Bx (KO wr fb (.slice na N nc) nl) /\ Bx (nds nl = nwK (nds l) D ms k) /\ Bx (∃ q, q <= k /\ OwnF wr kS rdB edB fb q (exF (FL (nds l) D ms k))) /\ Bx (Below fb w2 wr)) (fun _ i _ => N - (intOf i).toNat)
 case atStart => exact ⟨0, l, by omega, rfl, rfl, HTO, ⟨by simp [nwK]⟩, ⟨_, by omega, HM4.out⟩, HB4⟩
 case round =>
  clear HTO HM4 HB4 HM0 HB3;obtain ⟨k, nl, hk, rfl, rfl, hKO, hNL, hM, hBw⟩ := hrel;have hbw2 : Below w2.heap.size w2 wr := HFB.out ▸ hBw.out;have HBW := Bx.mk (HB2.out.trans (hbw2.mono HB2.out.size));have HTW := Bx.mk (HT.out.below hbw2);obtain ⟨LP, hLP⟩ : ∃ LP, LP = lastS (nds l) D k := ⟨_, rfl⟩
  have HLP := Bx.mk hLP;rw [<- hLP];by_cases hlt : k < N
  ·have hkl : k < l.length := by rw [<- HN.out]; exact hlt
   obtain ⟨b, o, rfl, hbl, c0, c1, c2, c3⟩ := HC.out wr HBW.out k hkl;have hXL := (HL.out.at_ l[k] (zM hkl)).2.2;have HX := Bx.mk (show (nds l)[k]! = (l[k]).n from nds_at l k hkl);obtain ⟨x, hx⟩ : ∃ x, x = l[k] := ⟨_, rfl⟩
   rw [<- hx] at c0 c1 c2 c3 hXL HX;simp only [Sl.val] at c3
   have HLS := Bx.mk (show lastS (nds l) D (k + 1) = if !decide (x.n.d < D) && spec x.n then x.n.p else LP by rw [lastS, HX.out, hLP]);have HKT := Bx.mk (show k < (nds l).length by rw [nds_len]; exact hkl);clear hx hbl hkl hLP HLP;obtain ⟨W1, hW1⟩ : ∃ W1, W1 = wr.alloc (.cells #[.int .i64 x.n.d, .int .i64 x.n.p, .string (bstr x.n.pol), .slice x.u.ad x.u.n x.u.c] 111) := ⟨_, rfl⟩
   obtain ⟨bn, hbn⟩ : ∃ bn, bn = wr.heap.size := ⟨_, rfl⟩
   have HBN := Bx.mk hbn;have hq1 : W1.heap[bn]? = some (.cells #[.int .i64 x.n.d, .int .i64 x.n.p, .string (bstr x.n.pol), .slice x.u.ad x.u.n x.u.c] 111 (0, 0)) := by rw [hW1, hbn]; exact heap_alloc_new _ _
   have HQ1 := Bx.mk hq1;have HBA := Bx.mk (show Below wr.heap.size wr W1 by rw [hW1]; exact (Below.refl _ _).alloc (zR _) _);have hsz := hbw2.size;have HBWA := Bx.mk (show Below fb w2 W1 from hBw.out.trans (HBA.out.mono (by have := HFB.out; omega)));have HKA := Bx.mk (hKO.out.keep HBA.out.size fun j hj _ => HBA.out.block j hj);have HMA := Bx.mk (show ∃ q, q <= k /\ OwnF W1 kS rdB edB fb q (exF (FL (nds l) D ms k)) by obtain ⟨q, h1, h2⟩ := hM.out; exact ⟨q, h1, h2.below HBA.out⟩);have HTA := Bx.mk (HTW.out.below HBA.out);have HFS := Bx.mk (FL_succ (nds l) D ms k HKT.out);rw [HX.out] at HFS;have HSZ := Bx.mk (show fb < wr.heap.size by obtain ⟨q, _, h2⟩ := hM.out; exact h2.lt);go_upto_region 18 with fail
   rw [<- hW1, <- hbn];have hKO2 := Bx.mk (show ∀ j, (Value.slice na N nc).ownBlock = some j -> j < bn from fun j hj => by rw [HBN.out]; exact (hKO.out.own.lt j hj).2);clear hW1 hbn c0 c1 c2 c3 hM hbw2 hKO;have m0 := cell_of_row _ _ 0 _ _ _ hq1;have m1 := cell_of_row _ _ 1 _ _ _ hq1;have m2 := cell_of_row _ _ 2 _ _ _ hq1;simp only [List.getElem?_toArray, List.getElem?_cons_zero, List.getElem?_cons_succ] at m0 m1 m2
   clear hq1 hsz;by_cases td : x.n.d < D
   ·have tq : decide (x.n.d < D) = true := zT td;have HN2 := Bx.mk (show nds nl = nwK (nds l) D ms (k + 1) by rw [hNL.out, nwK_same HKT.out (by rw [HX.out]; unfold nowN; rw [tq]; rfl)]);have HL2 := Bx.mk (show lastS (nds l) D (k + 1) = LP by rw [HLS.out, tq]; rfl)
    have HM2 := Bx.mk (show ∃ q, q <= k + 1 /\ OwnF W1 kS rdB edB fb q (exF (FL (nds l) D ms (k + 1))) by
     rw [HFS.out, tq];obtain ⟨q, h1, h2⟩ := HMA.out
     exact ⟨q, by omega, by simpa using h2⟩)
    clear td;go_wp2_with fail
    go_roundw
    case rel => exact ⟨k + 1, nl, by omega, by go_num, by rw [HL2.out], HKA, HN2, HM2, HBWA⟩
    case measure => simp [intOf]; omega
   ·have tq : decide (x.n.d < D) = false := zF td;rw [tq, Bool.not_false, Bool.true_and] at HLS;rw [tq, Bool.not_false, Bool.true_and] at HFS;have HNW := Bx.mk (show nowN ms D x.n = if decide (x.n.pol ∈ srcL ms) = true then ⟨x.n.d, x.n.p, x.n.pol, subL ms x.n.pol⟩ else x.n by unfold nowN; rw [tq]; rfl);obtain ⟨va, vn, vc, hvr, hlook⟩ := HT.out.look2 x.n.pol hXL;have hlook1 := (hlook W1 (HFB.out ▸ HBWA.out)).1;have HVR := Bx.mk hvr;obtain ⟨isb, hisb⟩ : ∃ b, b = decide (x.n.pol ∈ srcL ms) := ⟨_, rfl⟩
    rw [<- hisb] at hlook1 HNW HFS;have HISB := Bx.mk hisb;clear td hvr hlook hisb;go_upto_if 95 with fail
    go_cut [] (fun wx => ∃ nl' : List Nt, Bx (KO wx fb (.slice na N nc) nl') /\ Bx (nds nl' = nwK (nds l) D ms (k + 1)) /\ Bx (∃ q, q <= k + 1 /\ OwnF wx kS rdB edB fb q (exF (FL (nds l) D ms (k + 1)))) /\ Bx (Below fb w2 wx) /\ Bx (wx.heap[bn]? = some (.cells #[.int .i64 x.n.d, .int .i64 x.n.p, .string (bstr x.n.pol), .slice x.u.ad x.u.n x.u.c] 111 (0, 0))))
    case first =>
     cases isb with
     | false =>
      have HN2 := Bx.mk (show nds nl = nwK (nds l) D ms (k + 1) by rw [hNL.out, nwK_same HKT.out (by rw [HX.out, HNW.out]; rfl)])
      have HM2 := Bx.mk (show ∃ q, q <= k + 1 /\ OwnF W1 kS rdB edB fb q (exF (FL (nds l) D ms (k + 1))) by
       rw [HFS.out];obtain ⟨q, h1, h2⟩ := HMA.out
       exact ⟨q, by omega, by simpa using h2⟩)
      go_wp2_with fail
      go_meet
      exact ⟨nl, HKA, HN2, HM2, HBWA, HQ1⟩
     | true =>
      have hmem : x.n.pol ∈ srcL ms := (by have := HISB.out; exact of_decide_eq_true this.symm);have hr2 := HVR.out hmem
      have hnl : nl.length = N := by
       have h1 := congrArg List.length hNL.out;rw [nds_len] at h1
       have h2 : (nwK (nds l) D ms k).length = (nds l).length := by
        unfold nwK;rw [List.length_append, List.length_map, List.length_take, List.length_drop];have := HKT.out; omega
       rw [h1, h2, nds_len, HN.out]
      have hkn : k < nl.length := (by omega);have hnk : (nl[k]).n = x.n := (by rw [<- nds_at nl k hkn, hNL.out, nwK_at HKT.out, HX.out]);obtain ⟨y, hy⟩ : ∃ y : Nt, y = ⟨⟨x.n.d, x.n.p, x.n.pol, subL ms x.n.pol⟩, ⟨va, vn, vc⟩⟩ := ⟨_, rfl⟩
      have hbw2 : Below w2.heap.size w2 W1 := HFB.out ▸ HBWA.out
      have hyn : NtIn W1 (fun b => (Value.slice na N nc).ownBlock ≠ some b /\ b ≠ fb) y := by
       rw [hy];refine ⟨⟨hr2.1.below hbw2, fun j hj => ?_⟩, HFEW.out x.n.pol, hXL⟩;have h1 := hr2.1.lt j hj;have h2 := HFB.out;refine ⟨fun e => ?_, by omega⟩;have := (HKA.out.own.lt j e).1;omega
      have HY := Bx.mk hyn;have HYV := Bx.mk (show y.u.val = .slice va vn vc by rw [hy]; rfl);have HYN := Bx.mk (show y.n = nowN ms D x.n by rw [hy, HNW.out]; rfl);have HND := Bx.mk (show ∀ hk : k < nl.length, y.n.d = (nl[k]).n.d /\ y.n.p = (nl[k]).n.p /\ y.n.pol = (nl[k]).n.pol from fun _ => by rw [hy, hnk]; exact ⟨rfl, rfl, rfl⟩);have HKN := Bx.mk hkn;have hmE : ∀ e : Ext W1, e.out.cell? ⟨bn, 2, none⟩ = some (.string (bstr x.n.pol)) := fun e => (e.bel.cell (lt_of_some HQ1.out)).trans m2
      have hg0 : ∃ g, na = some ⟨g, 0, none⟩ := by
       obtain ⟨g, cap, hv, -⟩ := HKA.out.set3 k hkn y (HND.out hkn).1 (HND.out hkn).2.1 (HND.out hkn).2.2 hyn;simp only [Value.slice.injEq] at hv
       exact ⟨g, hv.1⟩
      obtain ⟨g, rfl⟩ := hg0;obtain ⟨q, hq, hop⟩ := HMA.out;have HQ := Bx.mk hq;have HOP := Bx.mk hop
      have HN2 := Bx.mk (show nds (nl.set k y) = nwK (nds l) D ms (k + 1) by
       rw [nwK_set HKT.out, <- hNL.out, HX.out, <- HYN.out]; simp [nds, List.map_set])
      clear hmem hr2 hnl hkn hnk hy hbw2 hyn hq hop m0 m1 m2;go_wp2_with fail
      obtain ⟨vals, hvals⟩ : ∃ vals : Nat -> Option Value, vals = fun j => [some (.slice (some ⟨g, 0, none⟩) N nc), some (.int .i64 k), some (.map (some fb)), some (.pointer (some ⟨bn, 2, none⟩)), some (.string (bstr x.n.pol)), some (.slice va vn vc), some (.pointer (some ⟨g, k * 4, none⟩)), some (.pointer (some ⟨g, k * 4 + 3, none⟩)), none].getD j none := ⟨_, rfl⟩
      refine wp_region_factsH 9 (fun _ => none) (· == 8) (fun j z w' => StV vals j (z j)) (StC W1 g (k * 4 + 3) 8 (.slice va vn vc)) (fun _ a b => b = a.setCell ⟨g, k * 4 + 3, none⟩ (.slice va vn vc)) ?_ (by kernel_rfl) (by kernel_rfl) (by rfl) ?_ ?_ ?_ ?_ ?_ ?_ ?_
      ·exact .inl ⟨rfl, rfl, rfl, rfl, zR _, fun _ _ => rfl⟩
      ·intro j oj z y w1 _ _ e _ hh
       show StV vals j (y j)
       rw [<- e]; exact hh
      ·exact fun i z w1 w2 hh _ => hh
      ·exact fun d i w1 w2 hh hb _ hB => hh.bel hb hB
      ·exact fun d i oi w1 w2 _ _ hh hb hd hg => hh.big hb hd hg
      ·exact fun b ob j z d w1 w2 _ _ _ _ _ _ _ _ _ hh _ => hh
      ·intro i o hi ho d z w7 hcl hdi hrd hCC hd;have hc : i = 0 \/ i = 1 \/ i = 2 \/ i = 3 \/ i = 4 \/ i = 5 \/ i = 6 \/ i = 7 \/ i = 8 := (by omega);have hgbn : bn ≠ g := fun e => by have := hKO2.out g rfl; omega
       have b5 := (hCC.block bn (lt_of_some HQ1.out) hgbn).trans HQ1.out;have m2 := cell_of_row _ _ 2 _ _ _ b5;simp only [List.getElem?_toArray, List.getElem?_cons_zero, List.getElem?_cons_succ] at m2
       have HCC := Bx.mk hCC;have HDI := Bx.mk hdi;clear hcl hrd hCC b5 hgbn;simp only [List.take_succ_cons, List.take_zero, putFrom, Act.put, List.setIfInBounds_toArray, List.set_cons_succ, List.set_cons_zero, Nat.zero_add, Nat.reduceAdd]
       rcases hc with rfl | rfl | rfl | rfl | rfl | rfl | rfl | rfl | rfl
       all_goals
        simp only [List.getElem?_cons_succ, List.getElem?_cons_zero, zO] at ho
        subst ho;simp [NeedsB, Region.binds, StV, hvals] at hd
       all_goals clear hi hdi
       case inr.inr.inr.inr.inr.inr.inr.inr =>
        have hbw : Below W1.heap.size W1 w7 := by
         rcases HCC.out with ⟨-, h⟩ | ⟨h, -⟩
         ·exact h
         ·rw [HDI.out] at h; cases h
        have hke := HKA.out.keep hbw.size fun j hj _ => hbw.block j hj
        obtain ⟨g', cap, hv, hgp, hgl, hfz, hcell, hks, hgs⟩ := hke.set3 k HKN.out y (HND.out HKN.out).1 (HND.out HKN.out).2.1 (HND.out HKN.out).2.2 (HY.out.below hbw);simp only [Value.slice.injEq, zO, Addr.mk.injEq, and_true, true_and] at hv
        obtain ⟨rfl, -⟩ := hv;have hfz3 := hfz (k * 4 + 3);clear hke hks hgs hfz hgp hgl hbw m2;obtain ⟨h7, h5⟩ := hd;go_wp2_with fail
        exact ⟨rfl, rfl, by simp [StV, hvals], rfl⟩
       all_goals
        go_wp2_with fail
        exact ⟨rfl, rfl, by simp [StV, hvals, upd], Below.refl _ _⟩
      ·intro d z w7 hdn hCC hf;have f2 := hf 2 (by omega) (fun c hc => by cases hc);have f4 := hf 4 (by omega) (fun c hc => by cases hc);simp [StV, hvals] at f2 f4
       obtain ⟨wa, hba, hb7⟩ : ∃ wa, Below W1.heap.size W1 wa /\ Below wa.heap.size (wa.setCell ⟨g, k * 4 + 3, none⟩ (.slice va vn vc)) w7 := by
        rcases hCC with ⟨h, -⟩ | ⟨-, h⟩
        ·rw [hdn 8 (by omega)] at h; cases h
        ·exact h
       clear hf hCC hdn hvals;have hke := HKA.out.keep hba.size fun j hj _ => hba.block j hj
       obtain ⟨g', cap, hv, hgp, hgl, hfz, hcell, hks, hgs⟩ := hke.set3 k HKN.out y (HND.out HKN.out).1 (HND.out HKN.out).2.1 (HND.out HKN.out).2.2 (HY.out.below hba);simp only [Value.slice.injEq, zO, Addr.mk.injEq, and_true, true_and] at hv
       obtain ⟨rfl, -⟩ := hv;rw [HYV.out] at hks hgs;have hss : (wa.setCell ⟨g, k * 4 + 3, none⟩ (.slice va vn vc)).heap.size = wa.heap.size := (by simp);have hb7' : Below (wa.setCell ⟨g, k * 4 + 3, none⟩ (.slice va vn vc)).heap.size (wa.setCell ⟨g, k * 4 + 3, none⟩ (.slice va vn vc)) w7 := (by rw [hss]; exact hb7);have hk7 := hks.keep hb7'.size fun j hj _ => hb7'.block j hj
       have ho7 := (((HOP.out.below hba).kept hgs (by simp only [ne_eq, zO]; omega))).below hb7';obtain ⟨w9, hrun, ho9, hg9⟩ := ho7.putS u_mapSB (by have := HQ.out; unfold maxLen; omega) (k := x.n.pol) (by unfold maxLen; omega) true (.bool true) (rdB_mk _);have hrun' : (Instr.mapUpdate 98 (.map (some fb)) (.string (bstr x.n.pol)) (.bool true)).run Tryz.prog w7 = .ok () w9 := hrun;have HK9 := Bx.mk (hk7.keep hg9.size fun j hj hne => hg9.block j hj (by simp only [ne_eq, zO]; omega))
       have HM9 := Bx.mk (show ∃ q, q <= k + 1 /\ OwnF w9 kS rdB edB fb q (exF (FL (nds l) D ms (k + 1))) from ⟨q + 1, by have := HQ.out; omega, by
        have e : FL (nds l) D ms (k + 1) = FL (nds l) D ms k ++ [x.n.pol] := by rw [HFS.out]; simp
        rw [e, exF_snoc]; exact ho9⟩)
       have hes := hba.size;have hws := HBWA.out.size;have hqb := lt_of_some HQ1.out;have hs7 := hb7.size;have hgbn : bn ≠ g := fun e => by have := hKO2.out g rfl; omega
       have HB9 := Bx.mk (show Below fb w2 w9 from (((HBWA.out.trans (hba.mono (by have := HFB.out; omega))).grown hgs (by have := HFB.out; omega) fun j hj => by simp only [zO] at hj; omega).trans (hb7'.mono (by have := HFB.out; omega))).grown hg9 (by have := HFB.out; omega) fun j hj => by simp only [zO] at hj; omega)
       have HQ9 := Bx.mk (show w9.heap[bn]? = some (.cells #[.int .i64 x.n.d, .int .i64 x.n.p, .string (bstr x.n.pol), .slice x.u.ad x.u.n x.u.c] 111 (0, 0)) by
        rw [hg9.block bn (by omega) (by simp only [ne_eq, zO]; have := HBN.out; have := HSZ.out; omega), hb7'.block bn (by omega), hgs.block bn (by omega) (by simp only [ne_eq, zO]; omega), hba.block bn hqb]
        exact HQ1.out)
       clear hke hks hgs hfz hrun ho9 hg9 hgp hgl hes hws hqb hs7 hgbn hss hb7' hb7 hba hk7 ho7 hcell hmE;simp only [List.take_succ_cons, List.take_zero, List.drop_succ_cons, List.drop_zero, putFrom, Nat.zero_add, Nat.reduceAdd, f2, f4]
       clear f2 f4;generalize z 0 = z0, z 1 = z1, z 3 = z3, z 5 = z5, z 6 = z6, z 7 = z7, z 8 = z8;simp only [Act.put, List.setIfInBounds_toArray, List.set_cons_succ, List.set_cons_zero]
       go_wp2_with fail
       go_meet;exact ⟨_, HK9, HN2, HM9, HB9, HQ9⟩
    case rest =>
    obtain ⟨nl', hK3, hN3, hM3, hB3, hQ3⟩ := hcut;have q3 := hQ3.out;have m0 := cell_of_row _ _ 0 _ _ _ q3;have m1 := cell_of_row _ _ 1 _ _ _ q3;have m2 := cell_of_row _ _ 2 _ _ _ q3;have m3 := cell_of_row _ _ 3 _ _ _ q3;simp only [List.getElem?_toArray, List.getElem?_cons_zero, List.getElem?_cons_succ] at m0 m1 m2 m3
    have hsp := special_any x wc;unfold nodV at hsp;simp only [Sl.val] at hsp
    obtain ⟨sp, hspe⟩ : ∃ s, s = spec x.n := ⟨_, rfl⟩
    rw [<- hspe] at hsp HLS;clear hspe q3;go_wp2_with fail
    go_at_call 85;refine hsp.mono ?_;rintro e w6 ⟨rfl, hb6⟩;have HK6 := Bx.mk (hK3.out.keep hb6.size fun j hj _ => hb6.block j hj);have HM6 := Bx.mk (show ∃ q, q <= k + 1 /\ OwnF w6 kS rdB edB fb q (exF (FL (nds l) D ms (k + 1))) by obtain ⟨q, h1, h2⟩ := hM3.out; exact ⟨q, h1, h2.below hb6⟩);have HB6 := Bx.mk (hB3.out.trans (hb6.mono (by have := hB3.out.size; have := HFB.out; omega)));have q6 := (hb6.block bn (lt_of_some hQ3.out)).trans hQ3.out;clear hsp m0 m1 m2 m3 hb6;have m1 := cell_of_row _ _ 1 _ _ _ q6;simp only [List.getElem?_toArray, List.getElem?_cons_zero, List.getElem?_cons_succ] at m1
    clear q6
    cases sp with
    | true =>
     have HL2 := Bx.mk (show lastS (nds l) D (k + 1) = x.n.p by rw [HLS.out]; rfl);go_wp2_with fail
     go_roundw
     case rel => exact ⟨k + 1, nl', by omega, by go_num, by rw [HL2.out], HK6, hN3, HM6, HB6⟩
     case measure => simp [intOf]; omega
    | false =>
     have HL2 := Bx.mk (show lastS (nds l) D (k + 1) = LP by rw [HLS.out]; rfl);go_wp2_with fail
     go_roundw
     case rel => exact ⟨k + 1, nl', by omega, by go_num, by rw [HL2.out], HK6, hN3, HM6, HB6⟩
     case measure => simp [intOf]; omega
  ·obtain rfl : N = k := by omega
   have HNA := Bx.mk (show nds nl = (nds l).map (nowN ms D) by rw [hNL.out, <- nwK_all, nds_len, <- HN.out]);have HLS := Bx.mk (show LP = lastS (nds l) D (nds l).length by rw [HLP.out, nds_len, <- HN.out])
   have HFD := Bx.mk (show ∃ q, OwnF wr kS rdB edB fb q (exF (FL (nds l) D ms (nds l).length)) by
    obtain ⟨q, -, ho⟩ := hM.out
    exact ⟨q, by rw [nds_len, <- HN.out]; exact ho⟩)
   have HTO := Bx.mk (hKO.out.to);obtain ⟨q, hq, ho⟩ := HTW.out.mp;have hsk := sortedT bm q f wr ho (by omega) (srcL ms) (setB_asc _) (fun p => by rw [HTW.out.has_, decide_eq_true_eq]);have hkk := keysT (some bm) wr;obtain ⟨W6, hW6⟩ : ∃ W6, W6 = wr.alloc (.cells #[.map (some bm)] 86) := ⟨_, rfl⟩
   obtain ⟨kb, hkb⟩ : ∃ kb, kb = wr.heap.size := ⟨_, rfl⟩
   have HKB := Bx.mk hkb;have HB6 := Bx.mk (show Below wr.heap.size wr W6 by rw [hW6]; exact (Below.refl _ _).alloc (zR _) _);have HS6 := Bx.mk (show W6.heap.size = kb + 1 by rw [hW6, hkb]; simp);rw [<- hW6, <- hkb] at hsk hkk;obtain ⟨S, hS⟩ : ∃ S, S = srcL ms := ⟨_, rfl⟩
   have HS := Bx.mk hS;rw [<- hS] at hsk;clear hM hbw2 hLP hKO hNL HLP ho hq hW6 hkb hS;go_wp2_with fail
   go_at_call 64;refine hkk.mono ?_;rintro e w6 ⟨rfl, rfl⟩;clear hkk;go_wp2_with fail
   go_at_call 63;refine hsk.mono ?_;rintro e w7 ⟨sv, rfl, ho7, hb7⟩;obtain ⟨sa, sc, rfl, -⟩ := ho7.rd.form;have HB7 := Bx.mk (show Below wr.heap.size wr w7 from HB6.out.trans (hb7.mono (by have := HKB.out; omega)))
   have HSL := Bx.mk (show S.length <= 100000 by
    rw [HS.out]; unfold srcL
    have h1 := setB_length ((ms.filter okM).map (·.1));have h2 := List.length_filter_le okM ms;rw [List.length_map] at h1
    omega)
   have HSX := Bx.mk (show ∀ p ∈ S, p.length <= 1000000 /\ p ∈ srcL ms from fun p hp => by
    rw [HS.out] at hp;refine ⟨?_, hp⟩;unfold srcL at hp;rw [setB_mem, List.mem_map] at hp;obtain ⟨m, hm, rfl⟩ := hp
    exact (HMSX.out m (List.mem_filter.1 hm).1).1)
   obtain ⟨SN, hSN⟩ : ∃ n, n = S.length := ⟨_, rfl⟩
   have HSN := Bx.mk hSN;have hsn : SN <= 100000 := by rw [hSN]; exact HSL.out
   rw [<- hSN] at ho7 |-;have HSC := Bx.mk (strs_cells ho7.rd).2;have HBW7 := Bx.mk (HBW.out.trans (HB7.out.mono HBW.out.size));have HT7 := Bx.mk (HTW.out.below HB7.out);have HFD7 := Bx.mk (show ∃ q, OwnF w7 kS rdB edB fb q (exF (FL (nds l) D ms (nds l).length)) by obtain ⟨q, h⟩ := HFD.out; exact ⟨q, h.below HB7.out⟩);have HTO7 := Bx.mk (HTO.out.below HB7.out);clear hsk ho7 hb7 hSN;go_wp2_with fail
   go_loopw [23, 113] (fun mv i wr => ∃ (k : Nat) (ml : List Nt), k <= SN /\ i = .int .i64 k /\ ml.length <= k /\ Bx (GT w7 w7.heap.size wr mv ml) /\ Bx (nds ml = ((S.take k).filter fun q => decide (LP >= 0) && !foundP (nds l) D q).map fun q => ⟨D, LP, q, subL ms q⟩)) (fun _ i _ => SN - (intOf i).toNat)
   case atStart => exact ⟨0, [], by omega, rfl, by simp, ⟨GT.nil _ _ (zR _)⟩, ⟨by simp [nds]⟩⟩
   case round =>
    obtain ⟨k, ml, hk, rfl, hml2, hG, hF⟩ := hrel;obtain ⟨av, cv, rfl, -⟩ := hG.out.form;by_cases hlt : k < SN
    ·have hkl : k < S.length := by rw [<- HSN.out]; exact hlt
     obtain ⟨bx, ox, rfl, -, cx⟩ := HSC.out wr hG.out.bel k hkl;obtain ⟨hpl, hpm⟩ := HSX.out S[k] (zM hkl)
     have HTK := Bx.mk (show ((S.take (k + 1)).filter fun q => decide (LP >= 0) && !foundP (nds l) D q) = ((S.take k).filter fun q => decide (LP >= 0) && !foundP (nds l) D q) ++ if decide (LP >= 0) && !foundP (nds l) D S[k] then [S[k]] else [] by
      rw [zA hkl, List.filter_append]
      cases h : decide (LP >= 0) && !foundP (nds l) D S[k] <;> simp [List.filter_cons, h])
     obtain ⟨p, hpp⟩ : ∃ p, p = S[k] := ⟨_, rfl⟩
     rw [<- hpp] at cx hpl hpm HTK;obtain ⟨qf, hqf⟩ := HFD7.out;have hlf := ((hqf.below hG.out.bel).lookS u_mapSB Value.bool false (Tryz.zeroValue4 _) rdB_mk rdB_inv (k := p) (by unfold maxLen; omega)).1;rw [FL_get _ _ _ p hpm] at hlf;obtain ⟨fd, hfd⟩ : ∃ b, b = foundP (nds l) D p := ⟨_, rfl⟩
     rw [<- hfd] at hlf HTK;have hlf' : (Instr.lookup 98 (.map (some fb)) (.string (bstr p)) false).run Tryz.prog wr = .ok (.bool fd) wr := hlf;obtain ⟨va, vn, vc, hvr, hlook⟩ := HT7.out.look2 p hpl;have hlk := (hlook wr hG.out.bel).2;have HVR := Bx.mk (hvr hpm);have HPM := Bx.mk hpl;clear hpp hkl hqf hlf hlook hvr hpm hpl hfd
     have hskip : (decide (LP >= 0) && !fd) = false -> nds ml = ((S.take (k + 1)).filter fun q => decide (LP >= 0) && !foundP (nds l) D q).map fun q => ⟨D, LP, q, subL ms q⟩ := fun e => by
      rw [HTK.out, e, hF.out]; simp
     have HSK := Bx.mk hskip;clear hskip;by_cases tp : 0 <= LP
     ·have tq : decide (LP >= 0) = true := zT tp;clear tp
      cases fd with
      | true =>
       have HF2 := Bx.mk (HSK.out (by rw [tq]; rfl));go_wp2_with fail
       go_roundw
       case rel => exact ⟨k + 1, ml, by omega, by go_num, by omega, hG, HF2⟩
       case measure => simp [intOf]; omega
      | false =>
       obtain ⟨y, hy⟩ : ∃ y : Nt, y = ⟨⟨D, LP, p, subL ms p⟩, ⟨va, vn, vc⟩⟩ := ⟨_, rfl⟩
       have HSRC := Bx.mk (show SrcV (wr.alloc (.cells #[.int .i64 D, .int .i64 LP, .string (bstr p), .slice va vn vc] 111)) 4 (.slice (some ⟨wr.heap.size, 0, none⟩) 1 1) 1 ([y].flatMap encN) by
        have hsrc := src_node wr y;rw [hy] at hsrc |-
        exact hsrc)
       have hba : Below wr.heap.size wr (wr.alloc (.cells #[.int .i64 D, .int .i64 LP, .string (bstr p), .slice va vn vc] 111)) := (Below.refl _ _).alloc (zR _) _;have HGA := Bx.mk (hG.out.below hba)
       have HYN := Bx.mk (show NtIn (wr.alloc (.cells #[.int .i64 D, .int .i64 LP, .string (bstr p), .slice va vn vc] 111)) (fun b => (Value.slice av ml.length cv).ownBlock ≠ some b) y by
        rw [hy];refine ⟨⟨(HVR.out.1.below hG.out.bel).below hba, fun j hj e => ?_⟩, HFEW.out p, HPM.out⟩;have h1 := HVR.out.1.lt j hj;have h2 := (hG.out.to.own.lt j e).1
        omega)
       have HYE := Bx.mk (show y.n = ⟨D, LP, p, subL ms p⟩ by rw [hy]);have hm1 : ml.length + 1 <= maxLen := (by unfold maxLen; omega);have hmb : (ml.length + 1) * 56 <= 140737488355328 := (by omega);have hbz := HGA.out.sz;clear hy hba;go_wp2_with (at_builtin; refine wpList_append_any rfl _ _ _ rfl w7.heap.size 111 i0 _ 4 56 und_nodes hi0 hz0 hz1 hz2 rfl (by decide) _ ml.length (ml.flatMap encN) rfl HGA.out.to.own _ 1 ([y].flatMap encN) rfl HSRC.out hm1 hmb hbz ?_)
       intro v9 w9 hapd;have HG9 := Bx.mk (HGA.out.apd (m := [y]) (fun z hz => by rw [zS] at hz; subst hz; exact HYN.out) rfl rfl rfl rfl hapd)
       have HF9 := Bx.mk (show nds (ml ++ [y]) = ((S.take (k + 1)).filter fun q => decide (LP >= 0) && !foundP (nds l) D q).map fun q => ⟨D, LP, q, subL ms q⟩ by
        rw [HTK.out, List.map_append, <- hF.out, if_pos (by rw [tq]; rfl)]; simp [nds, HYE.out])
       clear hapd hm1 hmb hbz;go_wp2_with fail
       go_roundw
       case rel => exact ⟨k + 1, ml ++ [y], by omega, by go_num, by simp; omega, HG9, HF9⟩
       case measure => simp [intOf]; omega
     ·have tq : decide (LP >= 0) = false := zF tp;have HF2 := Bx.mk (HSK.out (by rw [tq]; rfl));clear tp;go_wp2_with fail
      go_roundw
      case rel => exact ⟨k + 1, ml, by omega, by go_num, by omega, hG, HF2⟩
      case measure => simp [intOf]; omega
    ·obtain rfl : SN = k := by omega
     have HFF := Bx.mk (show nds ml = mapMore (nds l) D ms by rw [hF.out, HSN.out, List.take_length, HS.out, HLS.out]; rfl)
     have hnl : nl.length = N := by
      have h1 := congrArg List.length HNA.out;rw [nds_len, List.length_map, nds_len] at h1;rw [h1, HN.out]
     have htl := HTO7.out.below hG.out.bel;have hgr := grown_any wr (.slice na nl.length nc) (.slice av ml.length cv) nl ml (by rw [hnl]; exact htl.tl) hG.out.to.tl (by omega) (by omega);have HNL := Bx.mk hnl;have HBWF := Bx.mk (HBW7.out.trans (hG.out.bel.mono HBW7.out.size));rw [hnl] at hgr;clear hF hG htl hnl;go_wp2_with fail
     go_at_call 83;refine hgr.mono ?_;rintro e w8 (⟨hlen, rfl, hb8⟩ | ⟨hlen, v8, l8, rfl, ho8, hn8, hb8⟩)
     ·have HFR := Bx.mk (show R = ([], 2) by
       rw [HRR.out];simp only [Bool.not_true, Bool.false_eq_true, if_false]
       have h1 := congrArg List.length HFF.out;rw [nds_len] at h1;rw [HNL.out] at hlen
       rw [nds_len, <- HN.out, if_pos (by omega)])
      have HB8 := Bx.mk (HBWF.out.trans (hb8.mono HBWF.out.size));clear hgr hb8;go_wp2_with fail
      go_ret2;exact ⟨_, [], by rw [HFR.out]; rfl, TO.nil _ _, by rw [HFR.out]; rfl, HB8.out⟩
     ·rw [HFF.out, HNA.out] at hn8
      have hlm : (nds l).length + (mapMore (nds l) D ms).length <= 2048 := by
       rw [HNL.out] at hlen;rw [<- HFF.out, nds_len, nds_len, <- HN.out]; exact hlen
      obtain ⟨e1, e2, e3⟩ := map_stay HVV.out h1' ms hlm;rw [<- hn8] at e1 e2 e3
      have hl8 : l8.length <= 5000 := by
       have h1 := congrArg List.length hn8;have h2 := fold_length (lt := ltT) ((nds l).map (nowN ms D) ++ mapMore (nds l) D ms) [];rw [nds_len] at h1;unfold sortT srtL at h1;rw [h2] at h1;simp at h1
       rw [nds_len] at hlm;omega
      have hpr := prune_any w8 v8 l8 ho8.tl hl8 (fun i hi => e3.pge i (by rw [nds_len]; exact hi)) D;have HFR := Bx.mk (show R = (pruneP (nds l8) D, 0) by rw [HR.out]; exact e1);have HB8 := Bx.mk (HBWF.out.trans (hb8.mono HBWF.out.size));obtain ⟨a8, c8, rfl, -⟩ := ho8.own.rd.form;clear hgr hb8 ho8 hn8 hlm e1 e2 e3;go_wp2_with fail
      go_at_call 84;refine hpr.mono ?_;rintro e w9 ⟨v9, l9, rfl, ho9, hn9, hb9⟩;obtain ⟨a9, c9, rfl, -⟩ := ho9.own.rd.form;have HO9 := Bx.mk (ho9.mono HB8.out.size);have HN9 := Bx.mk hn9;have HB9 := Bx.mk (HB8.out.trans (hb9.mono HB8.out.size));clear hpr ho9 hn9 hb9;go_wp2_with fail
      go_ret2;exact ⟨_, l9, by rw [HFR.out]; rfl, HO9.out, by rw [HFR.out, HN9.out], HB9.out⟩
theorem pmap_any (w : World) (v lv : Value) (l : List Nt) (ms : List (B × B)) (h : TL w v l) (hm : Rd w encP lv ms) (hn : l.length <= 100000) (hml : ms.length <= 100000) (hmx : ∀ m ∈ ms, m.1.length <= 1000000 /\ m.2.length <= 1000000) (D : Int) (hD : I64 D) (ok : Bool) :
  Calls Tryz.prog 39 #[v, .int .i64 D, lv, .bool ok] w fun e w' => EnP w (mapP (nds l) D ms ok) e w' := by
 cases ok with
 | false => exact mapno_any w v lv l ms h hm hn hml hmx D hD
 | true => exact mapyes_any w v lv l ms h hm hn hml hmx D hD
end Go.Proofs.YtmagjdocondmhaaGreat.Tr
namespace Go.Proofs.YtmagjdocondmhaaGreat.Tr.Gr
open Go Go.RowKit Slc St Mp Tr Rg
attribute [local go_sem] Oper.semAt_some
def PrP (w : World) (B : Nat) (v : Value) (g : List Lv) (e : Ending) (w' : World) : Prop :=
 ∃ v' g', e = .returned v' /\ GO w' B v' g' /\ gxs g' = pruneG (gxs g) /\ Fr (GB v g) w w' /\ ∀ k, GB v' g' k -> GB v g k \/ w.heap.size <= k
theorem marksA_at (l : List Vx) (j : Nat) (hj : j < l.length) : (marksA l)[j]! = decide (0 < (l[j]!).par.length) := by
 unfold marksA;rw [getElem!_pos _ j (by simpa using hj), getElem!_pos l j hj]; simp
theorem marksA_len (l : List Vx) : (marksA l).length = l.length := by simp [marksA]
theorem gs_len {g g2 : List Lv} {n : Nat} (h : gxs g2 = fwdG (gxs g) n) : g2.length = g.length := by
 have := congrArg List.length h;rw [gxs_len, fwdG_len, gxs_len] at this; exact this
theorem gs_len' {g : List (List Vx)} {g2 : List Lv} {n : Nat} (h : gxs g2 = bwdG g n) : g2.length = g.length := by
 have := congrArg List.length h;rw [gxs_len, bwdG_len] at this; exact this
theorem pg_len {g : List Lv} (h : PG (gxs g)) : ∀ L ∈ g, L.vs.length <= 100000 := fun L hL => by
 have := h.len (vxs L.vs) (List.mem_map.2 ⟨L, hL, rfl⟩);simpa [vxs] using this
theorem pg_par {g : List Lv} (h : PG (gxs g)) {k : Nat} (h1 : k + 1 < g.length) : ∀ x ∈ (g[k + 1]).vs, ∀ p ∈ x.n.par, 0 <= p /\ p < (((g[k]'(by omega)).vs.length : Nat) : Int) := fun x hx p hp => by
 have := h.par k (by rw [gxs_len]; exact h1) x.n (by rw [gxs_at' g (k + 1) h1]; exact List.mem_map.2 ⟨x, hx, rfl⟩) p hp;rw [gxs_at' g k (by omega)] at this;simpa [vxs] using this
theorem mb_in {w : World} {S : Nat -> Prop} {b n : Nat} {m : List Bool} (h : MB w b m) (hn : n = m.length) (hS : S b) : RdIn w S encM (.slice (some ⟨b, 0, none⟩) n n) m := by
 subst hn;exact ⟨h.rd (zR _), fun k hk => by simp only [Value.ownBlock, zO] at hk; subst hk; exact hS⟩
def mkB (n : Nat) (f : Nat -> Bool) : List Bool := (List.range n).map f
theorem mkB_len (n : Nat) (f : Nat -> Bool) : (mkB n f).length = n := by simp [mkB]
theorem mkB_set {n p : Nat} {f f' : Nat -> Bool} (hf : ∀ r, f' r = (decide (r = p) || f r)) : (mkB n f).set p true = mkB n f' := by
 apply List.ext_getElem
 ·simp [mkB]
 ·intro j h1 h2;rw [List.getElem_set];simp only [mkB, List.getElem_map, List.getElem_range]
  rw [hf];by_cases e : p = j
  ·subst e; rw [if_pos rfl]; simp
  ·rw [if_neg e, zF (fun q => e q.symm), Bool.false_or]
theorem mkB_cong {n : Nat} {f f' : Nat -> Bool} (hf : ∀ r, f' r = f r) : mkB n f' = mkB n f := by unfold mkB; exact List.map_congr_left fun r _ => hf r
def fI (bl : List Vx) (i : Nat) (r : Nat) : Bool := (bl.take i).any fun v => decide ((r : Int) ∈ v.par)
def fN (bl : List Vx) (i : Nat) (ps : List Int) (n : Nat) (r : Nat) : Bool := fI bl i r || decide ((r : Int) ∈ ps.take n)
theorem fI_zero (bl : List Vx) (r : Nat) : fI bl 0 r = false := by simp [fI]
theorem fN_zero (bl : List Vx) (i : Nat) (ps : List Int) (r : Nat) : fN bl i ps 0 r = fI bl i r := by simp [fN]
theorem fN_succ (bl : List Vx) (i : Nat) (ps : List Int) (n : Nat) (hn : n < ps.length) (p : Nat) (hp : ps[n] = (p : Int)) (r : Nat) : fN bl i ps (n + 1) r = (decide (r = p) || fN bl i ps n r) := by
 unfold fN;rw [zA hn, hp];by_cases e : r = p
 ·subst e; simp
 ·have e' : ¬ (r : Int) = (p : Int) := by omega
  rw [zF e, Bool.false_or];congr 1
  simp [e']
theorem fN_all (bl : List Vx) (i : Nat) (hi : i < bl.length) (r : Nat) : fI bl (i + 1) r = fN bl i (bl[i]!).par (bl[i]!).par.length r := by
 unfold fN fI;rw [zA hi, List.any_append, List.take_length, getElem!_pos bl i hi];simp
theorem marksB_eq (n : Nat) (bl : List Vx) : marksB n bl = mkB n (fI bl bl.length) := by
 unfold marksB mkB fI;rw [List.take_length]
def NI (B : Nat) (g : List Lv) : Prop := ∀ L ∈ g, ∀ x ∈ L.vs, ∀ k, x.q.val.ownBlock = some k -> B <= k
theorem NI.mono {B B' : Nat} {g : List Lv} (h : NI B g) (hB : B' <= B) : NI B' g := fun L hL x hx k hk => Nat.le_trans hB (h L hL x hx k hk)
theorem NI.nil (B : Nat) : NI B [] := fun L hL => by cases hL
theorem NI.set {B : Nat} {g : List Lv} (h : NI B g) (i : Nat) {L' : Lv} (hL : ∀ x ∈ L'.vs, ∀ k, x.q.val.ownBlock = some k -> B <= k) : NI B (g.set i L') := fun L hm => by
 rcases List.mem_or_eq_of_mem_set hm with q | rfl
 ·exact h L q
 ·exact hL
def NJ (w : World) (g g' : List Lv) : Prop := ∀ B, B <= w.heap.size -> NI B g -> NI B g'
theorem NJ.refl (w : World) (g : List Lv) : NJ w g g := fun _ _ h => h
theorem NJ.trans {w w1 : World} {g g1 g2 : List Lv} (h : NJ w g g1) (hs : w.heap.size <= w1.heap.size) (h' : NJ w1 g1 g2) : NJ w g g2 := fun B hB q => h' B (Nat.le_trans hB hs) (h B hB q)
theorem FiltR.nj {w w' : World} {g g' : List Lv} {k : Nat} {m : List Bool} (h : FiltR w w' g g' k m) : NJ w g g' := by
 intro B hB hg L hL x hx b hb;obtain ⟨j, hj, rfl⟩ := List.getElem_of_mem hL;have hjg : j < g.length := by have := h.len; omega
 by_cases e1 : j = k
 ·subst e1;rw [h.mid hjg hj] at hx;exact hg _ (zM hjg) x (keepT_mem (zR _) hx) b hb
 ·by_cases e2 : j = k + 1
  ·subst e2;obtain ⟨hl, hf⟩ := h.nx hjg hj;obtain ⟨r, hr, rfl⟩ := List.getElem_of_mem hx;have := hf.own r (by omega);rw [getElem!_pos _ r hr] at this;exact Nat.le_trans hB (this.lt b hb).1
  ·rw [h.lo j hjg hj e1 e2] at hx;exact hg _ (zM hjg) x hx b hb
def PrQ (w : World) (B : Nat) (v : Value) (g : List Lv) (e : Ending) (w' : World) : Prop :=
 ∃ v' g', e = .returned v' /\ GO w' B v' g' /\ gxs g' = pruneG (gxs g) /\ Fr (GB v g) w w' /\ (∀ k, GB v' g' k -> GB v g k \/ w.heap.size <= k) /\ NJ w g g'
theorem prune_nj (w : World) (B : Nat) (v : Value) (g : List Lv) (h : GO w B v g) (hP : PG (gxs g)) (hn : g.length <= 100000) :
  Calls Tryz.prog 51 #[v] w fun e w' => PrQ w B v g e w' := by
 obtain ⟨ib, hib, hib0, hib1, hib2⟩ := info_parts info_boo;obtain ⟨ad, c, rfl, -⟩ := h.own.rd.form;have HP := Bx.mk hP;have HS0 := Bx.mk (GStep.refl h);obtain ⟨N, hN⟩ : ∃ N, N = g.length := ⟨_, rfl⟩
 have HN := Bx.mk hN;obtain ⟨K, hK⟩ : ∃ K, K = N - 1 := ⟨_, rfl⟩
 have HKN := Bx.mk hK;obtain ⟨v, hv⟩ : ∃ v, v = Value.slice ad g.length c := ⟨_, rfl⟩
 have HV := Bx.mk hv;rw [<- hv] at HS0 h |-;have hvN : v = .slice ad N c := by rw [hv, hN]
 rw [<- hN] at hn;have HVN := Bx.mk hvN;obtain ⟨Q, hQ⟩ : ∃ Q, Q = fun (e : Ending) (w' : World) => PrQ w B v g e w' := ⟨_, rfl⟩
 have HQ := Bx.mk hQ;rw [<- hQ];have hg0 := h;have HG0 := Bx.mk h;rw [hvN];clear hP h hN hK hv hvN hQ hg0;go_enter Tryz.func51, Tryz.ntmps51;go_wp2_with fail
 go_loopw [3] (fun i wr => ∃ (n : Nat) (g2 : List Lv), 1 <= n /\ n <= K + 1 /\ i = .int .i64 (n : Nat) /\ Bx (GStep w B v g wr g2) /\ Bx (gxs g2 = fwdG (gxs g) (n - 1)) /\ Bx (NJ w g g2)) (fun i _ => N - (intOf i).toNat)
 case atStart => exact ⟨1, g, by omega, by omega, rfl, HS0, ⟨rfl⟩, ⟨NJ.refl w g⟩⟩
 case round =>
  clear HS0;obtain ⟨n, g2, hn1, hnK, rfl, hS, hF, hJ⟩ := hrel;obtain ⟨wo, rfl⟩ : ∃ wo : World, wo = wr := ⟨_, rfl⟩
  by_cases hlt : n < N
  ·have HK2 := Bx.mk (show n < g2.length by rw [gs_len hF.out, <- HN.out]; exact hlt);have hpg2 : PG (gxs g2) := by rw [hF.out]; exact fwdG_pg HP.out (n - 1) (.inl (by rw [gxs_len, <- HN.out]; omega))
   have HPG2 := Bx.mk hpg2;have hgo := hS.out.go;rw [HVN.out] at hgo;obtain ⟨gb, rfl, l0, -⟩ := hgo.cellL n HK2.out;have hvl := hgo.gl.lv _ (zM HK2.out);have hll := pg_len hpg2 _ (zM HK2.out);obtain ⟨L, hL⟩ : ∃ L, L = g2[n]'HK2.out := ⟨_, rfl⟩
   rw [<- hL] at l0 hvl hll;have HL := Bx.mk hL;obtain ⟨la, lc, hls, -⟩ := hvl.rd.form;rw [hls] at l0 hvl;obtain ⟨LN, hLN⟩ : ∃ LN, LN = L.vs.length := ⟨_, rfl⟩
   have HLN := Bx.mk hLN;rw [<- hLN] at l0 hll;have HVL := Bx.mk hvl;have hmk := run_makeSlice (P := Tryz.prog) wo 75 4 ib (.bool false) Tryz.underlying75 hib hib0 .i64 .i64 (LN : Nat) (LN : Nat) (by omega) (by omega) (by rw [Int.toNat_natCast, hib1]; omega) (by rw [hib2]; omega) (by omega);simp only [Int.toNat_natCast, hib1, made_marks] at hmk
   obtain ⟨qm, hqm⟩ : ∃ q, q = wo.heap.size := ⟨_, rfl⟩
   obtain ⟨W1, hW1⟩ : ∃ W1, W1 = wo.alloc (.cells (Array.replicate LN (Value.bool false)) 4) := ⟨_, rfl⟩
   have hb1 : Below wo.heap.size wo W1 := by rw [hW1]; exact (Below.refl _ _).alloc (zR _) _
   have HB1 := Bx.mk hb1
   have HM1 := Bx.mk (show MB W1 qm ((marksA (vxs L.vs)).take 0 ++ List.replicate (LN - 0) false) by
    rw [hW1]; unfold MB
    rw [List.take_zero, List.nil_append, Nat.sub_zero, List.map_replicate, List.toArray_replicate]
    exact alloc_at hqm)
   have HQM := Bx.mk hqm;have HML := Bx.mk (show (marksA (vxs L.vs)).length = LN by rw [marksA_len, vxs_len, hLN]);have l1 := (hb1.cell (p := ⟨gb, n, none⟩) (World.block_lt_of_cell? wo _ l0)).trans l0;clear hgo hL hvl hls hLN hb1 hpg2;go_upto_region 5 with fail
   rw [<- hW1, <- hqm];clear hmk hW1 hqm l0;go_wp2_with fail
   clear l1;go_loopw [32] (fun i wz => ∃ j : Nat, j <= LN /\ i = .int .i64 j /\ Bx (MB wz qm ((marksA (vxs L.vs)).take j ++ List.replicate (LN - j) false)) /\ Bx (Below wo.heap.size wo wz)) (fun i _ => LN - (intOf i).toNat)
   case atStart => exact ⟨0, by omega, rfl, HM1, HB1⟩
   case round =>
    clear HM1 HB1;obtain ⟨j, hj, rfl, hM, hBw⟩ := hrel;by_cases hlt2 : j < LN
    ·have hjl : j < L.vs.length := by rw [<- HLN.out]; exact hlt2
     obtain ⟨b2, o2, rfl, -, c0, c1, c2⟩ := HVL.out.at3 wr hBw.out j hjl;have HXA := Bx.mk ((HVL.out.at_ _ (zM hjl)));have HXE := Bx.mk (vxs_at L.vs j hjl);obtain ⟨x, hx⟩ : ∃ x, x = L.vs[j] := ⟨_, rfl⟩
     rw [<- hx] at c0 c1 c2 HXA HXE;obtain ⟨pa, pc, hpq, -⟩ := RqIn.form HXA.out.2.1;obtain ⟨ua, uc, hup, -⟩ := HXA.out.1.1.form;obtain ⟨PN, hPN⟩ : ∃ PN, PN = x.n.par.length := ⟨_, rfl⟩
     have HPN := Bx.mk hPN;have hPNb : PN <= 100000 := (by rw [hPN]; exact HXA.out.2.2.2.2.1);rw [hup] at c1;rw [hpq, <- hPN] at c2;obtain ⟨bq, hbq⟩ : ∃ b, b = decide (0 < PN) := ⟨_, rfl⟩
     have t1 : decide ((PN : Int) > 0) = bq := (by rw [hbq, Bool.eq_iff_iff]; simp);have t2 : decide (0 < PN) = bq := hbq.symm;have hms := marks_step HML.out hlt2;rw [<- show bq = (marksA (vxs L.vs))[j]! by rw [marksA_at _ _ (by rw [vxs_len]; exact hjl), HXE.out, hbq, hPN]] at hms;have HMS := Bx.mk hms;obtain ⟨W2, hW2⟩ : ∃ W2, W2 = wr.alloc (.cells #[.string (bstr x.n.pol), .slice ua x.n.ex.length uc, .slice pa PN pc] 65) := ⟨_, rfl⟩
     have hb2 : Below wr.heap.size wr W2 := (by rw [hW2]; exact (Below.refl _ _).alloc (zR _) _);obtain ⟨q6, hq6⟩ : ∃ q, q = wr.heap.size := ⟨_, rfl⟩
     have hr6 : W2.heap[q6]? = some (.cells #[.string (bstr x.n.pol), .slice ua x.n.ex.length uc, .slice pa PN pc] 65 (0, 0)) := (by rw [hW2, hq6]; exact heap_alloc_new _ _);have hqlt := lt_of_some hM.out;have hM2 : MB W2 qm _ := (hb2.block qm hqlt).trans hM.out;have z1 := Go.Proofs.YtmagjdocondmhaaGreat.Rg.frozen_row (i := j) hM2;have mc := hM2.cell j (by rw [List.length_append, List.length_take, List.length_replicate, HML.out]; omega);have m6 := cell_of_row _ _ 2 _ _ _ hr6;simp only [List.getElem?_toArray, List.getElem?_cons_zero, List.getElem?_cons_succ] at m6
     obtain ⟨W3, hW3⟩ : ∃ W3, W3 = W2.setCell ⟨qm, j, none⟩ (.bool bq) := ⟨_, rfl⟩
     have HM3 := Bx.mk (show MB W3 qm ((marksA (vxs L.vs)).take (j + 1) ++ List.replicate (LN - (j + 1)) false) by
      have := hM2.set j bq;rw [HMS.out] at this
      rw [hW3]; exact this)
     have HB3 := Bx.mk (show Below wo.heap.size wo W3 by
      rw [hW3]
      exact (hBw.out.trans (hb2.mono hBw.out.size)).setCell (by show wo.heap.size <= qm; have := HQM.out; omega) _)
     have HW3 := Bx.mk hW3;clear hx hpq hup hPN hbq hr6 hM2 hb2 hms hqlt hjl hW3;go_upto_region 8 with fail
     rw [<- hW2, <- hq6];clear hW2 hq6 c0 c1 c2;go_wp2_with fail
     rw [<- HW3.out];go_roundw
     case rel => exact ⟨j + 1, by omega, by go_num, HM3, HB3⟩
     case measure => simp [intOf]; omega
    ·obtain rfl : j = LN := by omega
     have hMf : MB wr qm (marksA (vxs L.vs)) := by
      have := hM.out;rwa [Nat.sub_self, List.replicate_zero, List.append_nil, <- HML.out, List.take_length] at this
     have hSz := hS.out.below hBw.out;have HSZ := Bx.mk hSz;have hml : (marksA (vxs L.vs)).length = (g2[n]'HK2.out).vs.length := by rw [<- HL.out, marksA_len, vxs_len]
     have hcall := filter_r wr B v g2 hSz.go (by rw [gs_len hF.out, <- HN.out]; exact hn) (pg_len HPG2.out) n HK2.out (.slice (some ⟨qm, 0, none⟩) j j) (marksA (vxs L.vs)) (mb_in hMf HML.out.symm fun hk => by
      have := (hS.out.go.lt hk).2;have := HQM.out
      omega) hml (fun h1 x hx p hp => by
      rw [hml]
      exact pg_par HPG2.out h1 x hx p hp)
     rw [HVN.out] at hcall;clear hMf hSz hml;go_wp2_with fail
     go_at_call 96;refine hcall.mono ?_;rintro e w4 ⟨⟨u, rfl⟩, g3, hS3, hF3, hR3⟩;have HJ4 := Bx.mk (show NJ w g g3 from hJ.out.trans HSZ.out.fr.size hR3.nj);have HS4 := Bx.mk (show GStep w B v g w4 g3 from HSZ.out.trans (by rw [HVN.out]; exact hS3))
     have HF4 := Bx.mk (show gxs g3 = fwdG (gxs g) (n + 1 - 1) by
      rw [hF3, hF.out];obtain ⟨n', rfl⟩ : ∃ n', n = n' + 1 := ⟨n - 1, by omega⟩
      rw [Nat.add_sub_cancel, Nat.add_sub_cancel, fwdG, show fwdG (gxs g) n' = gxs g2 from hF.out.symm, gxs_at' g2 (n' + 1) HK2.out, <- HL.out])
     clear hcall hS3 hF3 hR3;go_wp2_with fail
     go_roundw
     case rel => exact ⟨n + 1, g3, by omega, by have := HKN.out; omega, by go_num, HS4, HF4, HJ4⟩
     case measure => simp [intOf]; omega
  ·have hnk : n - 1 = K := by have := HKN.out; omega
   obtain ⟨H, hH⟩ : ∃ H, H = fwdG (gxs g) K := ⟨_, rfl⟩
   have HH := Bx.mk hH;have hlH : H.length = N := by rw [hH, fwdG_len, gxs_len, HN.out]
   have HHL := Bx.mk hlH
   have HPH := Bx.mk (show PG H by
    rw [hH];refine fwdG_pg HP.out K ?_;rw [gxs_len, <- HN.out]
    have := HKN.out; omega)
   have HF0 := Bx.mk (show gxs g2 = bwdG H 0 by rw [hF.out, hnk, hH]; rfl);have tz : decide ((n : Int) < (N : Int)) = false := zF (by omega);have tz2 : decide (n < N) = false := zF (by omega);clear hH hlH hnk hF;go_wp2_with fail
   clear tz tz2;go_loopw [7] (fun i wr => ∃ (n : Nat) (z : Int) (g3 : List Lv), n <= K /\ i = .int .i64 z /\ z = (N : Int) - 2 - n /\ Bx (GStep w B v g wr g3) /\ Bx (gxs g3 = bwdG H n) /\ Bx (NJ w g g3)) (fun i _ => (intOf i + 1).toNat)
   case atStart => exact ⟨0, (N : Int) - 2, g2, by omega, rfl, by omega, hS, HF0, hJ⟩
   case round =>
    clear HF0 hS hJ;obtain ⟨n', z, g3, hn', rfl, hz, hS, hF, hJ⟩ := hrel;by_cases hz0 : 0 <= z
    ·obtain ⟨wo, rfl⟩ : ∃ wo : World, wo = wr := ⟨_, rfl⟩
     obtain ⟨k, rfl⟩ : ∃ k : Nat, z = (k : Int) := ⟨z.toNat, by omega⟩
     have hkN : k + 1 < N := (by omega);have hk0N : k < N := (by omega);have HKK := Bx.mk (show k = N - 2 - n' by omega);have HZ := Bx.mk hz;have HK3 := Bx.mk (show k + 1 < g3.length by rw [gs_len' hF.out, HHL.out]; exact hkN);have HK30 := Bx.mk (show k < g3.length by have := HK3.out; omega);have hpg3 : PG (gxs g3) := (by rw [hF.out]; exact bwdG_pg HPH.out n' (.inl (by rw [HHL.out]; omega)));have HPG3 := Bx.mk hpg3;have hgo := hS.out.go;rw [HVN.out] at hgo;obtain ⟨gb, rfl, l0, -⟩ := hgo.cellL k HK30.out;obtain ⟨gb', he', x0, -⟩ := hgo.cellL (k + 1) HK3.out;simp only [zO, Addr.mk.injEq, and_true] at he'
     subst he';have hvl := hgo.gl.lv _ (zM HK3.out);have hvl0 := hgo.gl.lv _ (zM HK30.out);have hll := pg_len hpg3 _ (zM HK3.out);have hll0 := pg_len hpg3 _ (zM HK30.out);have HPR := Bx.mk (pg_par hpg3 HK3.out);obtain ⟨X, hX⟩ : ∃ L, L = g3[k + 1]'HK3.out := ⟨_, rfl⟩
     obtain ⟨L, hL⟩ : ∃ L, L = g3[k]'HK30.out := ⟨_, rfl⟩
     rw [<- hX] at x0 hvl hll HPR;rw [<- hL] at l0 hvl0 hll0 HPR;have HX := Bx.mk hX;have HL := Bx.mk hL;obtain ⟨xa, xc, hxs, -⟩ := hvl.rd.form;obtain ⟨la, lc, hls, -⟩ := hvl0.rd.form;rw [hxs] at x0 hvl;rw [hls] at l0;obtain ⟨LN, hLN⟩ : ∃ LN, LN = L.vs.length := ⟨_, rfl⟩
     obtain ⟨XN, hXN⟩ : ∃ XN, XN = X.vs.length := ⟨_, rfl⟩
     have HLN := Bx.mk hLN;have HXN := Bx.mk hXN;rw [<- hLN] at l0 hll0 HPR;rw [<- hXN] at x0 hll;have HVL := Bx.mk hvl;have hmk := run_makeSlice (P := Tryz.prog) wo 75 4 ib (.bool false) Tryz.underlying75 hib hib0 .i64 .i64 (LN : Nat) (LN : Nat) (by omega) (by omega) (by rw [Int.toNat_natCast, hib1]; omega) (by rw [hib2]; omega) (by omega);simp only [Int.toNat_natCast, hib1, made_marks] at hmk
     obtain ⟨qm, hqm⟩ : ∃ q, q = wo.heap.size := ⟨_, rfl⟩
     obtain ⟨W1, hW1⟩ : ∃ W1, W1 = wo.alloc (.cells (Array.replicate LN (Value.bool false)) 4) := ⟨_, rfl⟩
     have hb1 : Below wo.heap.size wo W1 := (by rw [hW1]; exact (Below.refl _ _).alloc (zR _) _);have HB1 := Bx.mk hb1
     have HM1 := Bx.mk (show MB W1 qm (mkB LN (fI (vxs X.vs) 0)) by
      have e : mkB LN (fI (vxs X.vs) 0) = List.replicate LN false := by
       unfold mkB;apply List.ext_getElem
       ·simp
       ·intro i h1 h2;simp [fI_zero]
      rw [hW1, e]; unfold MB
      rw [List.map_replicate, List.toArray_replicate]
      exact alloc_at hqm)
     have HQM := Bx.mk hqm;have x1 := (hb1.cell (p := ⟨gb, k + 1, none⟩) (World.block_lt_of_cell? wo _ x0)).trans x0;have hn'K : n' + 1 <= K := (by have := HKN.out; omega);clear hgo hL hX hvl hvl0 hls hxs hLN hXN hb1 hpg3 x0 hz;go_upto_region 15 with fail
     rw [<- hW1, <- hqm];clear hmk hW1 hqm l0;go_wp2_with fail
     clear x1;go_loopw [70] (fun i wz => ∃ j : Nat, j <= XN /\ i = .int .i64 j /\ Bx (MB wz qm (mkB LN (fI (vxs X.vs) j))) /\ Bx (Below wo.heap.size wo wz)) (fun i _ => XN - (intOf i).toNat)
     case atStart => exact ⟨0, by omega, rfl, HM1, HB1⟩
     case round =>
      clear HM1 HB1;obtain ⟨j, hj, rfl, hM, hBw⟩ := hrel;by_cases hlt2 : j < XN
      ·have hjl : j < X.vs.length := by rw [<- HXN.out]; exact hlt2
       obtain ⟨b2, o2, rfl, -, c0, c1, c2⟩ := HVL.out.at3 wr hBw.out j hjl;have HXA := Bx.mk ((HVL.out.at_ _ (zM hjl)));have HXE := Bx.mk (vxs_at X.vs j hjl);have hpr := HPR.out _ (zM hjl);obtain ⟨x, hx⟩ : ∃ x, x = X.vs[j] := ⟨_, rfl⟩
       rw [<- hx] at c0 c1 c2 HXA HXE hpr;have HPX := Bx.mk hpr;obtain ⟨pa, pc, hpq, -⟩ := RqIn.form HXA.out.2.1;obtain ⟨ua, uc, hup, -⟩ := HXA.out.1.1.form;have HPC := Bx.mk (Ri.cells (hpq ▸ HXA.out.2.1));obtain ⟨PN, hPN⟩ : ∃ PN, PN = x.n.par.length := ⟨_, rfl⟩
       have HPN := Bx.mk hPN;have hPNb : PN <= 100000 := (by rw [hPN]; exact HXA.out.2.2.2.2.1);rw [hup] at c1;rw [hpq, <- hPN] at c2;obtain ⟨W2, hW2⟩ : ∃ W2, W2 = wr.alloc (.cells #[.string (bstr x.n.pol), .slice ua x.n.ex.length uc, .slice pa PN pc] 65) := ⟨_, rfl⟩
       have hb2 : Below wr.heap.size wr W2 := (by rw [hW2]; exact (Below.refl _ _).alloc (zR _) _);obtain ⟨q10, hq10⟩ : ∃ q, q = wr.heap.size := ⟨_, rfl⟩
       have hr10 : W2.heap[q10]? = some (.cells #[.string (bstr x.n.pol), .slice ua x.n.ex.length uc, .slice pa PN pc] 65 (0, 0)) := by rw [hW2, hq10]; exact heap_alloc_new _ _
       have HM2 := Bx.mk (show MB W2 qm (mkB LN (fN (vxs X.vs) j x.n.par 0)) by
        rw [mkB_cong (fun r => fN_zero _ _ _ r)]
        exact (hb2.block qm (lt_of_some hM.out)).trans hM.out)
       have HB2 := Bx.mk (hBw.out.trans (hb2.mono hBw.out.size));have m10 := cell_of_row _ _ 2 _ _ _ hr10;simp only [List.getElem?_toArray, List.getElem?_cons_zero, List.getElem?_cons_succ] at m10
       clear hx hpq hup hPN hr10 hb2 hjl hpr;go_upto_region 18 with fail
       rw [<- hW2, <- hq10];clear hW2 hq10 c0 c1 c2;go_wp2_with fail
       clear m10;go_loopw [77] (fun i wy => ∃ n : Nat, n <= PN /\ i = .int .i64 n /\ Bx (MB wy qm (mkB LN (fN (vxs X.vs) j x.n.par n))) /\ Bx (Below wo.heap.size wo wy)) (fun i _ => PN - (intOf i).toNat)
       case atStart => exact ⟨0, by omega, rfl, HM2, HB2⟩
       case round =>
        clear HM2 HB2;obtain ⟨n, hn2, rfl, hM3, hB3⟩ := hrel;by_cases hlt3 : n < PN
        ·have hnl : n < x.n.par.length := by rw [<- HPN.out]; exact hlt3
         obtain ⟨b4, o4, rfl, -, d0⟩ := HPC.out wr hB3.out n hnl;have hpi := HPX.out _ (zM hnl);obtain ⟨p, hp⟩ : ∃ p : Nat, x.n.par[n] = (p : Int) := ⟨(x.n.par[n]).toNat, by omega⟩
         have HFS := Bx.mk (fun r => fN_succ (vxs X.vs) j x.n.par n hnl p hp r);rw [hp] at d0 hpi;have hpl : p < LN := (by omega);have z1 := Go.Proofs.YtmagjdocondmhaaGreat.Rg.frozen_row (i := p) hM3.out;have mc := hM3.out.cell p (by rw [mkB_len]; exact hpl);obtain ⟨W5, hW5⟩ : ∃ W5, W5 = wr.setCell ⟨qm, p, none⟩ (.bool true) := ⟨_, rfl⟩
         have HM5 := Bx.mk (show MB W5 qm (mkB LN (fN (vxs X.vs) j x.n.par (n + 1))) by
          have := hM3.out.set p true;rw [mkB_set HFS.out] at this
          rw [hW5]; exact this)
         have HB5 := Bx.mk (show Below wo.heap.size wo W5 by
          rw [hW5]
          exact hB3.out.setCell (by show wo.heap.size <= qm; have := HQM.out; omega) _)
         have HW5 := Bx.mk hW5;clear hp hpi hnl hW5;go_wp2_with fail
         rw [<- HW5.out];go_roundw
         case rel => exact ⟨n + 1, by omega, by go_num, HM5, HB5⟩
         case measure => simp [intOf]; omega
        ·obtain rfl : n = PN := by omega
         have HME := Bx.mk (show MB wr qm (mkB LN (fI (vxs X.vs) (j + 1))) by
          have := hM3.out;rw [HPN.out, <- HXE.out] at this
          rwa [mkB_cong (fun r => fN_all (vxs X.vs) j (by rw [vxs_len, <- HXN.out]; exact hlt2) r)])
         go_wp2_with fail
         go_roundw
         case rel => exact ⟨j + 1, by omega, by go_num, HME, hB3⟩
         case measure => simp [intOf]; omega
      ·obtain rfl : j = XN := by omega
       have hMf : MB wr qm (marksB LN (vxs X.vs)) := by
        rw [marksB_eq, vxs_len, <- HXN.out]; exact hM.out
       have hSz := hS.out.below hBw.out;have HSZ := Bx.mk hSz;have hmll : (marksB LN (vxs X.vs)).length = LN := (by rw [marksB_eq, mkB_len]);have hml : (marksB LN (vxs X.vs)).length = (g3[k]'HK30.out).vs.length := by rw [hmll, <- HL.out]; exact HLN.out
       have hcall := filter_r wr B v g3 hSz.go (by rw [gs_len' hF.out, HHL.out]; exact hn) (pg_len HPG3.out) k HK30.out (.slice (some ⟨qm, 0, none⟩) LN LN) (marksB LN (vxs X.vs)) (mb_in hMf hmll.symm fun hk => by
        have := (hS.out.go.lt hk).2;have := HQM.out
        omega) hml (fun h1 x hx p hp => by
        rw [hml]
        exact pg_par HPG3.out h1 x hx p hp)
       rw [HVN.out] at hcall;clear hMf hSz hml hmll;go_wp2_with fail
       go_at_call 96;refine hcall.mono ?_;rintro e w4 ⟨⟨u, rfl⟩, g4, hS4, hF4, hR4⟩;have HJ4 := Bx.mk (show NJ w g g4 from hJ.out.trans HSZ.out.fr.size hR4.nj);have HS4 := Bx.mk (show GStep w B v g w4 g4 from HSZ.out.trans (by rw [HVN.out]; exact hS4))
       have HF4 := Bx.mk (show gxs g4 = bwdG H (n' + 1) by
        rw [hF4, bwdG, <- hF.out, HHL.out, <- HKK.out, gxs_at' g3 k HK30.out, gxs_at' g3 (k + 1) HK3.out, <- HL.out, <- HX.out, vxs_len, <- HLN.out])
       clear hcall hS4 hF4 hR4;go_wp2_with fail
       go_roundw
       case rel => exact ⟨n' + 1, (k : Int) - 1, g4, hn'K, by first | rfl | go_num, by have := HZ.out; omega, HS4, HF4, HJ4⟩
       case measure => first | (simp [intOf]; done) | (simp [intOf]; omega)
    ·have hnk : n' = K := by have := HKN.out; omega
     have hgo := hS.out.go;have hln3 : g3.length = N := by rw [gs_len' hF.out, HHL.out]
     have hpg3 : PG (gxs g3) := by
      rw [hF.out];refine bwdG_pg HPH.out n' ?_;rw [HHL.out];have := HKN.out; omega
     have hcall := someL_any wr v g3 hgo.gl.q (by rw [hln3]; exact hn) (pg_len hpg3);rw [HVN.out] at hcall;obtain ⟨EM, hEM⟩ : ∃ E, E = g3.any fun L => decide (L.vs.length = 0) := ⟨_, rfl⟩
     rw [<- hEM] at hcall
     have HPRN := Bx.mk (show pruneG (gxs g) = if EM then [] else gxs g3 by
      unfold pruneG;simp only
      rw [gxs_len, <- HN.out, <- HKN.out, <- HH.out, hEM, <- hnk, <- hF.out]
      have e : ((gxs g3).any fun l => decide (l.length = 0)) = g3.any fun L => decide (L.vs.length = 0) := by
       rw [List.any_map];congr 1
       funext L
       simp [vxs]
      rw [e])
     clear hnk hgo hln3 hpg3 hEM hz;go_wp2_with fail
     go_at_call 97;refine hcall.mono ?_;rintro e w5 ⟨rfl, hb5⟩;have HS5 := Bx.mk (hS.out.below hb5);clear hcall hb5
     cases EM with
     | true =>
      go_wp2_with fail
      rw [HQ.out]
      exact ⟨.slice none 0 0, [], rfl, GO.nil _ _, by rw [HPRN.out]; rfl, HS5.out.fr, (fun q hq => by
       rcases hq with hq | ⟨L, hL, -⟩
       ·cases hq
       ·cases hL), fun B' _ _ => NI.nil _⟩
     | false =>
      go_wp2_with fail
      rw [HQ.out];exact ⟨v, g3, by rw [HVN.out]; rfl, HS5.out.go, by rw [HPRN.out]; rfl, HS5.out.fr, HS5.out.nb, hJ.out⟩
theorem prune_any (w : World) (B : Nat) (v : Value) (g : List Lv) (h : GO w B v g) (hP : PG (gxs g)) (hn : g.length <= 100000) :
  Calls Tryz.prog 51 #[v] w fun e w' => PrP w B v g e w' :=
 (prune_nj w B v g h hP hn).mono fun e w' hh => by
  obtain ⟨v', g', a1, a2, a3, a4, a5, -⟩ := hh;exact ⟨v', g', a1, a2, a3, a4, a5⟩
end Go.Proofs.YtmagjdocondmhaaGreat.Tr.Gr
