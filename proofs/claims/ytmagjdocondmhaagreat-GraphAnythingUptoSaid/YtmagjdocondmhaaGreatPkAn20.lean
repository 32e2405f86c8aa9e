/- packed -/
import Derived.Test.YtmagjdocondmhaaGreatPkAn19
import Derived.Test.YtmagjdocondmhaaGreatChecked
import Derived.OpenShut
import Derived.ProofKit
import Derived.ChangeSlices
import Derived.Laws.IdiomStrings
import Derived.Deep.QuietTactic
import Derived.IntWalk
set_option linter.unusedVariables false
set_option linter.unusedSimpArgs false
set_option maxRecDepth 100000
set_option maxHeartbeats 64000000
namespace Go.Proofs.YtmagjdocondmhaaGreat.Tr.Gr
open Go Go.RowKit Slc St Mp Tr Rg
attribute [local go_sem] Oper.semAt_some
theorem rgroot_any (w : World) : Calls Tryz.prog 21 #[] w fun e w' => ∃ v' g', e = .returned v' /\ GO w' w.heap.size v' g' /\ gxs g' = rootG /\ Below w.heap.size w w' /\ NQ w.heap.size g' := by
 have hal := alone_any w;go_enter Tryz.func21, Tryz.ntmps21;go_wp2_with fail
 go_at_call 44;refine hal.mono ?_;rintro e W1 ⟨v1, rfl, ho1, hb1⟩;obtain ⟨a1, c1, rfl, -⟩ := ho1.rd.form;have HO1 := Bx.mk ho1;have HB1 := Bx.mk hb1;clear hal ho1 hb1;go_wp2_with fail
 go_ret;have ho1 : Slc.Own W1 w.heap.size 9 1 encS (.slice a1 1 c1) [anyP] := HO1.out;have hb1 := HB1.out;obtain ⟨W2, hW2⟩ : ∃ W2, W2 = W1.alloc (.cells #[.string ⟨#[50, 46, 53, 46, 50, 57, 46, 51, 50, 46, 48]⟩, .slice a1 1 c1, .slice none 0 0] 65) := ⟨_, rfl⟩
 have ho2 : Slc.Own W2 w.heap.size 65 3 encV (.slice (some ⟨W1.heap.size, 0, none⟩) 1 1) [⟨⟨anyP, [anyP], []⟩, ⟨a1, 1, c1⟩, ⟨none, 0, 0⟩⟩] := by
  rw [hW2]; exact own_alloc encV_ok W1 [⟨⟨anyP, [anyP], []⟩, ⟨a1, 1, c1⟩, ⟨none, 0, 0⟩⟩] _ rfl hb1.size (by unfold maxLen; simp)
 have hs2 : W2.heap.size = W1.heap.size + 1 := by rw [hW2]; simp
 have hb12 : Below W1.heap.size W1 W2 := by rw [hW2]; exact (Below.refl _ _).alloc (zR _) _
 have hb2 : Below w.heap.size w W2 := hb1.trans (hb12.mono hb1.size);have ho12 : Slc.Own W2 w.heap.size 9 1 encS (.slice a1 1 c1) [anyP] := ho1.below hb12;obtain ⟨W3, hW3⟩ : ∃ W3, W3 = W2.alloc (.cells #[.slice (some ⟨W1.heap.size, 0, none⟩) 1 1] 63) := ⟨_, rfl⟩
 have hba : Below W2.heap.size W2 W3 := by rw [hW3]; exact (Below.refl _ _).alloc (zR _) _
 have ho3 : Slc.Own W3 w.heap.size 63 1 encL (.slice (some ⟨W2.heap.size, 0, none⟩) 1 1) [⟨[⟨⟨anyP, [anyP], []⟩, ⟨a1, 1, c1⟩, ⟨none, 0, 0⟩⟩], ⟨some ⟨W1.heap.size, 0, none⟩, 1, 1⟩⟩] := by
  rw [hW3]; exact own_alloc encL_ok W2 [⟨[⟨⟨anyP, [anyP], []⟩, ⟨a1, 1, c1⟩, ⟨none, 0, 0⟩⟩], ⟨some ⟨W1.heap.size, 0, none⟩, 1, 1⟩⟩] _ rfl hb2.size (by unfold maxLen; simp)
 have hfin : GO W3 w.heap.size (.slice (some ⟨W2.heap.size, 0, none⟩) 1 1) [⟨[⟨⟨anyP, [anyP], []⟩, ⟨a1, 1, c1⟩, ⟨none, 0, 0⟩⟩], ⟨some ⟨W1.heap.size, 0, none⟩, 1, 1⟩⟩] := by
  refine ⟨ho3, fun L hL => ?_, fun i j hi hj hij => ?_, fun L hL k hk => ?_, fun L hL x hx => ?_⟩
  ·rw [zS] at hL; subst hL; exact ho2.below hba
  ·simp only [List.length_singleton] at hi hj; omega
  ·rw [zS] at hL; subst hL
   have hk' : some W1.heap.size = some k := hk;simp only [zO] at hk'
   intro hn;have hn' : some W2.heap.size = some k := hn;simp only [zO] at hn'
   omega
  ·rw [zS] at hL; subst hL
   rw [zS] at hx; subst hx
   refine ⟨⟨(ho12.below hba).rd, fun k hk hn => ?_⟩, .inl ⟨rfl, _, _, rfl⟩, ⟨by simp, fun b hb => ?_⟩, by show 11 <= 1000000; omega, by simp, fun p hp => by cases hp⟩
   ·have hk1 := (ho1.lt k hk).2;rcases hn with hn | ⟨L, hL, hn⟩
    ·have : some W2.heap.size = some k := hn;simp only [zO] at this; omega
    ·rw [zS] at hL; subst hL
     have : some W1.heap.size = some k := hn;simp only [zO] at this; omega
   ·simp only [zS] at hb
    subst hb
    show 11 <= 1000000
    omega
 have hnq : NQ w.heap.size [(⟨[⟨⟨anyP, [anyP], []⟩, ⟨a1, 1, c1⟩, ⟨none, 0, 0⟩⟩], ⟨some ⟨W1.heap.size, 0, none⟩, 1, 1⟩⟩ : Lv)] := fun L hL x hx k hk => by
  rw [zS] at hL; subst hL
  rw [zS] at hx; subst hx
  rcases hk with e | e
  ·exact (HO1.out.lt k e).1
  ·simp [Sl.val, Value.ownBlock] at e
 have hbf : Below w.heap.size w W3 := hb2.trans (hba.mono hb2.size);rw [hW3, hs2, hW2] at hfin;rw [hW3, hW2] at hbf;exact ⟨_, _, by first | rfl | simp, hfin, rfl, hbf, hnq⟩
end Go.Proofs.YtmagjdocondmhaaGreat.Tr.Gr
namespace Go.Proofs.YtmagjdocondmhaaGreat.Tr
open Go Go.RowKit Slc St Mp
attribute [local go_sem] Oper.semAt_some
section
variable {α : Type} {t : TypeId} {z : Nat} {enc : α -> List Value} {W0 : World} {v : Value} {zs : List Int} {w : World} {g : Nat} {hv : Value} {out : List α} {wr w' : World}
end
end Go.Proofs.YtmagjdocondmhaaGreat.Tr
namespace Go.Proofs.YtmagjdocondmhaaGreat.Tr.Gr
open Go Go.RowKit Slc St Mp Tr Rg
attribute [local go_sem] Oper.semAt_some
section
variable {w : World} {v : Value} {zs : List Int} {g : Nat} {wr w' : World} {tv tv' : Value} {l l' : List Lv}
end
end Go.Proofs.YtmagjdocondmhaaGreat.Tr.Gr
namespace Go.Proofs.YtmagjdocondmhaaGreat.Tr.Gr
open Go Go.RowKit Slc St Mp Tr Rg
attribute [local go_sem] Oper.semAt_some
section
variable {α : Type} {enc : α -> List Value} {z : Nat} {w : World} {l : List α} {P : Program} {T : TypeId}
end
end Go.Proofs.YtmagjdocondmhaaGreat.Tr.Gr
namespace Go.Proofs.YtmagjdocondmhaaGreat.Tr.Gr
open Go Go.RowKit Slc St Mp Tr Rg
structure LB (G : List (List Vx)) (n b : Nat) : Prop where
 len : G.length <= n
 lev : ∀ l ∈ G, l.length <= b
theorem LB.at_ {G : List (List Vx)} {n b : Nat} (h : LB G n b) (k : Nat) : (G[k]!).length <= b := by
 by_cases hk : k < G.length
 ·rw [getElem!_pos G k hk]; exact h.lev _ (zM hk)
 ·rw [getElem!_neg G k hk]; exact Nat.zero_le _
theorem LB.nil (n b : Nat) : LB [] n b := ⟨Nat.zero_le _, fun l hl => by cases hl⟩
theorem LB.mono {G : List (List Vx)} {n b n' b' : Nat} (h : LB G n b) (hn : n <= n') (hb : b <= b') : LB G n' b' := ⟨Nat.le_trans h.len hn, fun l hl => Nat.le_trans (h.lev l hl) hb⟩
theorem LB.lv {l : List Lv} {n b : Nat} (h : LB (gxs l) n b) : l.length <= n /\ ∀ L ∈ l, L.vs.length <= b := ⟨by have := h.len; rwa [gxs_len] at this, fun L hL => by
 have := h.lev (vxs L.vs) (List.mem_map.2 ⟨L, hL, rfl⟩)
 rwa [vxs_len] at this⟩
theorem LB.prune {g : List (List Vx)} {n b : Nat} (hl : g.length <= n) (h : ∀ (k : Nat), (g[k]!).length <= b) : LB (pruneG g) n b := by
 rcases pruneG_sub g with e | ⟨e1, e2⟩
 ·rw [e]; exact LB.nil _ _
 ·refine ⟨by omega, fun l hm => ?_⟩;obtain ⟨k, hk, rfl⟩ := List.getElem_of_mem hm;have hs := e2 k;rw [getElem!_pos _ k hk] at hs;exact Nat.le_trans hs.1 (h k)
theorem LB.map {G : List (List Vx)} {n b : Nat} (h : LB G n b) (ms : List (B × B)) (hm : ms.length <= 10) (ok : Bool) : LB (gmapP G ms ok).1 n (b + 10) := by
 unfold gmapP;split
 ·split
  ·exact LB.nil _ _
  ·refine LB.prune (by rw [zL]; exact h.len) fun k => ?_
   by_cases hk : k = G.length - 1
   ·subst hk;rw [getElem!_pos _ _ (by rw [zL]; omega), List.getElem_set_self];have hL := h.at_ (G.length - 1);unfold gmapL;split
    ·have h1 := mapL_len ms (fndP G[G.length - 1]! anyP) (fndP G[G.length - 2]! anyP) (srcL ms) G[G.length - 1]!;have h2 := srcL_len ms;omega
    ·exact Nat.le_trans (List.length_filter_le _ _) (by omega)
   ·have e : (G.set (G.length - 1) (gmapL G ms ok))[k]! = G[k]! := by
     by_cases hk2 : k < G.length
     ·rw [getElem!_pos _ k (by rw [zL]; exact hk2), getElem!_pos G k hk2, List.getElem_set_ne (by omega)]
     ·rw [getElem!_neg _ k (by rw [zL]; exact hk2), getElem!_neg G k hk2]
    rw [e];have := h.at_ k;omega
 ·exact LB.nil _ _
theorem LB.enter {G : List (List Vx)} {n b c : Nat} (h : LB G n b) (hj : ∀ (k : Nat), (allJ G[k]! (G[k]!).length).length <= c) (ps : List B) (hp : ps.length <= 10) (cnt : Bool) : LB (genterP G ps cnt).1 (n + 1) (b + c + 10) := by
 unfold genterP;split
 ·split
  ·exact LB.nil _ _
  ·refine LB.prune (by rw [List.length_append, List.length_singleton]; have := h.len; omega) fun k => ?_
   by_cases hk : k < G.length
   ·rw [getElem!_pos _ k (by rw [List.length_append]; omega), List.getElem_append_left hk];have := h.lev _ (zM hk);omega
   ·by_cases hk2 : k = G.length
    ·subst hk2;rw [getElem!_pos _ _ (by rw [List.length_append]; simp), List.getElem_append_right (zR _)];simp only [Nat.sub_self, List.getElem_cons_zero]
     have h1 := keyL_len G[G.length - 1]! ps cnt;have h2 := hj (G.length - 1);unfold levP;rw [List.length_map];omega
    ·rw [getElem!_neg _ k (by rw [List.length_append, List.length_singleton]; omega)];exact Nat.zero_le _
 ·exact LB.nil _ _
attribute [local go_sem] Oper.semAt_some
theorem asc_at {l : List Int} (h : l.Pairwise (· < ·)) (h0 : ∀ p ∈ l, 0 <= p) : ∀ i (hi : i < l.length), (i : Int) <= l[i]
 | 0, hi => h0 _ (zM hi)
 | i + 1, hi => by
  have h1 := asc_at h h0 i (by omega);have h2 := List.pairwise_iff_getElem.1 h i (i + 1) (by omega) hi (by omega);omega
theorem asc_len {l : List Int} {n : Nat} (h : l.Pairwise (· < ·)) (h0 : ∀ p ∈ l, 0 <= p /\ p < (n : Int)) : l.length <= n := by
 rcases Nat.eq_zero_or_pos l.length with e | e
 ·omega
 ·have h1 := asc_at h (fun p hp => (h0 p hp).1) (l.length - 1) (by omega);have h2 := (h0 _ (zM (show l.length - 1 < l.length by omega))).2;omega
theorem valid_pb {g : List (List Vx)} (h : gvalidB g = true) (hl : ∀ l ∈ g, l.length <= 40000) : PB 40000 g := fun l hm v hv => by
 obtain ⟨k, hk, rfl⟩ := List.getElem_of_mem hm
 cases k with
 | zero =>
  obtain ⟨u, hu, hp, -⟩ := gvalid_top h hk;rw [getElem!_pos g 0 hk] at hu;rw [hu, zS] at hv
  rw [hv, hp]; simp
 | succ k =>
  have hv' : v ∈ g[k + 1]! := by rw [getElem!_pos g (k + 1) hk]; exact hv
  have h1 := gvalid_asc h k hk v hv';have h2 := (gvalid_pg h fun l hl' => by have := hl l hl'; omega).par k hk v hv';have h3 := asc_len h1 h2;have h4 := hl _ (zM (show k < g.length by omega));rw [getElem!_pos g k (by omega)] at h3;omega
theorem grestr_bad (w : World) (v pv : Value) (g : List Lv) (ps : List B) (h : GQ w v g) (hp : Rd w encS pv ps) (hn : g.length <= 90000) (hln : ∀ L ∈ g, L.vs.length <= 40000) (hb : gvalidB (gxs g) = false) :
  Calls Tryz.prog 28 #[v, pv] w fun e w' => GrP w (gresP (gxs g) ps) e w' := by
 have hval := gvalid_q w v g h (by omega) (fun L hL => by have := hln L hL; omega);rw [hb] at hval;have HR := Bx.mk (show gresP (gxs g) ps = ([], 7) by unfold gresP; rw [hb]; rfl);rw [HR.out];obtain ⟨ad, c, rfl, -⟩ := h.rd.form;obtain ⟨pa, pc, rfl, -⟩ := hp.form;obtain ⟨N, hN⟩ : ∃ N, N = g.length := ⟨_, rfl⟩
 obtain ⟨PN, hPN⟩ : ∃ N, N = ps.length := ⟨_, rfl⟩
 rw [<- hN] at hval |-;rw [<- hPN];clear h hp hln hN hPN hb hn;unfold GrP;go_enter Tryz.func28, Tryz.ntmps28;go_wp2_with fail
 go_at_call 15;refine hval.mono ?_;rintro e w1 ⟨rfl, hb1⟩;clear hval;go_wp2_with fail
 go_ret2;exact ⟨_, [], rfl, GO.nil _ _, rfl, hb1⟩
theorem rgrestr_bad (w : World) (v pv : Value) (g : List Lv) (ps : List B) (h : GQ w v g) (hp : Rd w encS pv ps) (hn : g.length <= 90000) (hln : ∀ L ∈ g, L.vs.length <= 40000) (hb : gvalidB (gxs g) = false) :
  Calls Tryz.prog 29 #[v, pv] w fun e w' => GrN w (gresP (gxs g) ps) e w' := by
 have hval := rgvalid_q w v g h (by omega) (fun L hL => by have := hln L hL; omega);rw [hb] at hval;have HR := Bx.mk (show gresP (gxs g) ps = ([], 7) by unfold gresP; rw [hb]; rfl);rw [HR.out];obtain ⟨ad, c, rfl, -⟩ := h.rd.form;obtain ⟨pa, pc, rfl, -⟩ := hp.form;obtain ⟨N, hN⟩ : ∃ N, N = g.length := ⟨_, rfl⟩
 obtain ⟨PN, hPN⟩ : ∃ N, N = ps.length := ⟨_, rfl⟩
 rw [<- hN] at hval |-;rw [<- hPN];clear h hp hln hN hPN hb hn;unfold GrN;go_enter Tryz.func29, Tryz.ntmps29;go_wp2_with fail
 go_at_call 16;refine hval.mono ?_;rintro e w1 ⟨rfl, hb1⟩;clear hval;go_wp2_with fail
 go_ret2;exact ⟨_, [], rfl, GO.nil _ _, rfl, hb1, NQ.nil _⟩
theorem gxs_ll {g : List Lv} (h : ∀ L ∈ g, L.vs.length <= 40000) : ∀ l ∈ gxs g, l.length <= 40000 := fun l hl => by
 obtain ⟨L, hL, rfl⟩ := List.mem_map.1 hl;rw [vxs_len]; exact h L hL
theorem grestr2_any (w : World) (v pv : Value) (g : List Lv) (ps : List B) (h : GQ w v g) (hp : Rd w encS pv ps) (hn : g.length <= 90000) (hln : ∀ L ∈ g, L.vs.length <= 40000) (hpl : ps.length <= 40000) (hpx : ∀ p ∈ ps, p.length <= 1000000) :
  Calls Tryz.prog 28 #[v, pv] w fun e w' => GrP w (gresP (gxs g) ps) e w' := by
 cases hb : gvalidB (gxs g) with
 | true => exact grestr_any w v pv g ps h hp hn hln (valid_pb hb (gxs_ll hln)) hpl hpx
 | false => exact grestr_bad w v pv g ps h hp hn hln hb
theorem rgrestr2_any (w : World) (v pv : Value) (g : List Lv) (ps : List B) (h : GQ w v g) (hp : Rd w encS pv ps) (hn : g.length <= 90000) (hln : ∀ L ∈ g, L.vs.length <= 40000) (hpl : ps.length <= 40000) (hpx : ∀ p ∈ ps, p.length <= 1000000) :
  Calls Tryz.prog 29 #[v, pv] w fun e w' => GrN w (gresP (gxs g) ps) e w' := by
 cases hb : gvalidB (gxs g) with
 | true => exact rgrestr_any w v pv g ps h hp hn hln (valid_pb hb (gxs_ll hln)) hpl hpx
 | false => exact rgrestr_bad w v pv g ps h hp hn hln hb
theorem LB.restr {G : List (List Vx)} {n b : Nat} (h : LB G n b) (ps : List B) (hm : ps.length <= 10) : LB (gresP G ps).1 n (b + 10) := by
 have hk9 : (setB ps).length <= 10 := Nat.le_trans (setB_length ps) hm;unfold gresP;split
 ·have hlen : (gresG G ps).length = G.length := by
   unfold gresG;split
   ·rfl
   ·split
    ·exact wanG_len _ _ _
    ·rw [zL]; exact wanG_len _ _ _
  refine LB.prune (by rw [hlen]; exact h.len) fun k => ?_
  unfold gresG;split
  ·have := h.at_ k; omega
  ·rename_i hg
   have hG : 0 < G.length := by
    rcases Nat.eq_zero_or_pos G.length with e | e
    ·exact absurd (.inl e) hg
    ·exact e
   have hw : ∀ j : Nat, ((wanG ps G (G.length - 1))[j]!).length <= b := fun j => Nat.le_trans (wanG_ll ps G j (G.length - 1) (.inl (by omega))) (h.at_ j)
   split
   ·have := hw k; omega
   ·rw [set_at2 (by rw [wanG_len]; omega)];split
    ·refine Nat.le_trans (resL_len _ _ _ _) ?_;have h1 := hw (G.length - 1);have h2 := delL_len (wanG ps G (G.length - 1))[G.length - 1]! (fndP (wanG ps G (G.length - 1))[G.length - 1]! anyP).toNat;omega
    ·have := hw k; omega
 ·exact LB.nil _ _
theorem gpol2_any (w : World) (v : Value) (g : List Lv) (h : GQ w v g) (hn : g.length <= 40) (hln : ∀ L ∈ g, L.vs.length <= 2300) :
  Calls Tryz.prog 31 #[v] w fun e w' => ∃ v', e = .returned v' /\ Slc.Own w' w.heap.size 9 1 encS v' (gpolP (gxs g)) /\ Below w.heap.size w w' := by
 have hval := gvalid_q w v g h (by omega) (fun L hL => by have := hln L hL; omega);obtain ⟨ad, c, rfl, -⟩ := h.rd.form;have HQ := Bx.mk h;have HLN := Bx.mk hln;obtain ⟨N, hN⟩ : ∃ N, N = g.length := ⟨_, rfl⟩
 have HN := Bx.mk hN;obtain ⟨R, hR⟩ : ∃ R, R = gpolP (gxs g) := ⟨_, rfl⟩
 rw [<- hR];unfold gpolP at hR;obtain ⟨V, hV⟩ : ∃ V, V = gvalidB (gxs g) := ⟨_, rfl⟩
 rw [<- hV] at hval hR;have HV := Bx.mk hV;have HRR := Bx.mk hR;rw [<- hN] at hn hval |-;clear h hln hN hV hR;go_enter Tryz.func31, Tryz.ntmps31;go_wp2_with fail
 go_at_call 15;refine hval.mono ?_;rintro e w1 ⟨rfl, hb1⟩;clear hval
 cases V with
 | false =>
  have HF := Bx.mk (show R = [] by rw [HRR.out]; rfl);go_wp2_with fail
  go_ret
  exact ⟨_, rfl, by rw [HF.out]; exact Slc.Own.nil _ _, hb1⟩
 | true =>
  have HGL := Bx.mk (HQ.out.gl HV.out.symm (fun L hL => by have := HLN.out L hL; omega));have HRF := Bx.mk (show R = setB (polL (gxs g) N) by rw [HRR.out, if_pos rfl, gxs_len, HN.out]);have HB1 := Bx.mk hb1;have hmm := @run_makeMap Tryz.prog;obtain ⟨W3, hW3⟩ : ∃ W3, W3 = w1.alloc (.map #[] 0) := ⟨_, rfl⟩
  obtain ⟨fm, hfm⟩ : ∃ be, be = w1.heap.size := ⟨_, rfl⟩
  have HFM := Bx.mk (show w.heap.size <= fm by rw [hfm]; exact hb1.size);have HM3 := Bx.mk (show ∃ q, q <= 1 * 2300 /\ OwnF W3 kS rdB edB fm q (exF (polL (gxs g) 1)) by rw [polL_one, exF_nil]; exact ⟨0, by omega, by rw [hW3, hfm]; exact OwnF.made w1 kS rdB edB⟩);have HBA := Bx.mk (show Below w.heap.size w W3 by rw [hW3]; exact hb1.alloc hb1.size _);clear hb1;go_upto_region 4 with fail
  rw [<- hW3, <- hfm];clear hW3 hfm hmm;go_wp2_with fail
  go_loopw [4] (fun i wr => ∃ k : Nat, 1 <= k /\ (k <= N \/ k = 1) /\ i = .int .i64 k /\ Bx (∃ q, q <= k * 2300 /\ OwnF wr kS rdB edB fm q (exF (polL (gxs g) k))) /\ Bx (Below w.heap.size w wr)) (fun i _ => N - (intOf i).toNat)
  case atStart => exact ⟨1, by omega, .inr rfl, rfl, HM3, HBA⟩
  case round =>
   clear HM3 HBA;obtain ⟨k, hk1, hk, rfl, hO, hB⟩ := hrel;by_cases hlt : k < N
   ·have hkl : k < g.length := by rw [<- HN.out]; exact hlt
    have hkl1 : k - 1 < g.length := (by omega);have hgb := HGL.out.below hB.out;obtain ⟨b, o, rfl, -, c0⟩ := HQ.out.at1 wr hB.out k hkl;obtain ⟨b', o', hbe, -, c1⟩ := HQ.out.at1 wr hB.out (k - 1) hkl1;simp only [zO, Addr.mk.injEq, and_true] at hbe
    obtain ⟨rfl, rfl⟩ := hbe;have HVL := Bx.mk (hgb.lv _ (zM hkl));have HVA := Bx.mk (hgb.lv _ (zM hkl1));have hll := HLN.out _ (zM hkl);have hla := HLN.out _ (zM hkl1);have HXL := Bx.mk (gxs_at g k hkl);have HXA := Bx.mk (gxs_at g (k - 1) hkl1);obtain ⟨L, hL⟩ : ∃ L, L = g[k]'hkl := ⟨_, rfl⟩
    obtain ⟨A, hA⟩ : ∃ A, A = g[k - 1]'hkl1 := ⟨_, rfl⟩
    rw [<- hL] at c0 HVL hll HXL;have HLG := Bx.mk (show L ∈ g by rw [hL]; exact zM hkl);rw [<- hA] at c1 HVA hla HXA;obtain ⟨lad, lc, hls, -⟩ := HVL.out.rd.form;obtain ⟨aad, ac, has, -⟩ := HVA.out.rd.form;have HLS := Bx.mk hls;rw [hls] at c0 HVL;rw [has] at c1 HVA;have hfd := find_any wr (.slice aad A.vs.length ac) A.vs HVA.out (by omega) anyP;rw [anyP_str] at hfd;obtain ⟨ST, hST⟩ : ∃ ST, ST = fndP (vxs A.vs) anyP := ⟨_, rfl⟩
    have HST := Bx.mk (show fndP (gxs g)[k - 1]! anyP = ST by rw [HXA.out, hST]);rw [<- hST] at hfd;obtain ⟨M, hM⟩ : ∃ M, M = L.vs.length := ⟨_, rfl⟩
    obtain ⟨AN, hAN⟩ : ∃ M, M = A.vs.length := ⟨_, rfl⟩
    have HM := Bx.mk hM;rw [<- hM] at c0 hll;rw [<- hAN] at c1 hla hfd;clear hL hA hls has hST hM hAN hgb hkl hkl1 HVA;go_wp2_with fail
    go_at_call 50;refine hfd.mono ?_;rintro e w3 ⟨rfl, hb3⟩;have HB3 := Bx.mk hb3;have c0' := (hb3.cell (p := ⟨b, o + k, none⟩) (World.block_lt_of_cell? wr _ c0)).trans c0;have HVL3 := Bx.mk (HVL.out.below hb3);have HBW3 := Bx.mk (hB.out.trans (hb3.mono hB.out.size))
    have HO3 := Bx.mk (show ∃ q, q <= k * 2300 + 0 /\ OwnF w3 kS rdB edB fm q (exF (polM (gxs g) k 0)) by
     rw [polM_zero];obtain ⟨q, h1, h2⟩ := hO.out
     exact ⟨q, by omega, h2.below hb3⟩)
    clear hfd c0 c1 hb3 HVL hO hB;go_wp2_with fail
    clear c0';go_loopw [30] (fun i wr => ∃ j : Nat, j <= M /\ i = .int .i64 j /\ Bx (∃ q, q <= k * 2300 + j /\ OwnF wr kS rdB edB fm q (exF (polM (gxs g) k j))) /\ Bx (Below w3.heap.size w3 wr \/ True) /\ Bx (Below w.heap.size w wr)) (fun i _ => M - (intOf i).toNat)
    case atStart => exact ⟨0, by omega, rfl, HO3, ⟨.inr trivial⟩, HBW3⟩
    case round =>
     clear HO3;obtain ⟨j, hj, rfl, hO, -, hB⟩ := hrel;by_cases hltj : j < M
     ·have hjl : j < L.vs.length := by rw [<- HM.out]; exact hltj
      obtain ⟨bv, ov, rfl, -, c0, c1, c2⟩ := VL.at3 (HGL.out.lv _ HLG.out |> fun q => by rw [HLS.out] at q; exact q) wr hB.out j hjl;have HXA2 := Bx.mk (((HGL.out.lv _ HLG.out).at_ _ (zM hjl)));have HXN := Bx.mk (vxs_at L.vs j hjl);obtain ⟨x, hx⟩ : ∃ x, x = L.vs[j]'hjl := ⟨_, rfl⟩
      rw [<- hx] at c0 c1 c2 HXA2 HXN;simp only [Sl.val] at c1 c2
      have HPS := Bx.mk (polM_succ (gxs g) k j (by rw [HXL.out, vxs_len, <- HM.out]; exact hltj));obtain ⟨R1, hR1⟩ : ∃ R1, R1 = polV (gxs g) k x.n := ⟨_, rfl⟩
      have HPS2 := Bx.mk (show polM (gxs g) k (j + 1) = polM (gxs g) k j ++ if R1 then [x.n.pol] else [] by rw [HPS.out, HXL.out, HXN.out, hR1]);have HRV := Bx.mk (show R1 = ((decide (0 <= ST) && decide (ST ∈ x.n.par)) && (!specV x.n || decide (k = N - 1))) by rw [hR1]; unfold polV; rw [HST.out, gxs_len, HN.out]);have HPL := Bx.mk HXA2.out.2.2.2.1;have HPAL := Bx.mk HXA2.out.2.2.2.2.1;clear hx hjl hR1 HPS;obtain ⟨W4, hW4⟩ : ∃ W4, W4 = wr.alloc (.cells #[.string (bstr x.n.pol), .slice x.u.ad x.u.n x.u.c, .slice x.q.ad x.q.n x.q.c] 65) := ⟨_, rfl⟩
      obtain ⟨q7, hq7⟩ : ∃ q, q = wr.heap.size := ⟨_, rfl⟩
      have HR4 := Bx.mk (show W4.heap[q7]? = some (.cells #[.string (bstr x.n.pol), .slice x.u.ad x.u.n x.u.c, .slice x.q.ad x.q.n x.q.c] 65 (0, 0)) by rw [hW4, hq7]; exact heap_alloc_new _ _);have hba : Below wr.heap.size wr W4 := (by rw [hW4]; exact (Below.refl _ _).alloc (zR _) _);have HB4 := Bx.mk (hB.out.trans (hba.mono hB.out.size));have HO4 := Bx.mk (show ∃ q, q <= k * 2300 + j /\ OwnF W4 kS rdB edB fm q (exF (polM (gxs g) k j)) by obtain ⟨q, h1, h2⟩ := hO.out; exact ⟨q, h1, h2.below hba⟩);have hci := containsI_any W4 x.q.val x.n.par ST (Ri.below HXA2.out.2.1 HB4.out) (by have := HPAL.out; omega);simp only [Sl.val] at hci
      have HSP := Bx.mk (gspec_any x W4);clear hO hB hba;go_upto_region 11 with fail
      rw [<- hW4, <- hq7];clear hW4 hq7 c0 c1 c2;go_cut [53] (fun cc wx => cc = .bool R1 /\ Below W4.heap.size W4 wx)
      case first =>
       have hr4 := HR4.out;have m0 := cell_of_row _ _ 0 _ _ _ hr4;have m1 := cell_of_row _ _ 1 _ _ _ hr4;have m2 := cell_of_row _ _ 2 _ _ _ hr4;simp only [List.getElem?_toArray, List.getElem?_cons_zero, List.getElem?_cons_succ] at m0 m1 m2
       have hsp := HSP.out;unfold verV at hsp;simp only [Sl.val] at hsp
       have hRw := HRV.out;obtain ⟨tc, htc⟩ : ∃ t, t = decide (ST ∈ x.n.par) := ⟨_, rfl⟩
       obtain ⟨ts, hts⟩ : ∃ t, t = specV x.n := ⟨_, rfl⟩
       rw [<- htc] at hci hRw;rw [<- hts] at hsp hRw;clear hr4 htc hts HRV;by_cases hst : 0 <= ST
       ·have t35 : decide (ST >= 0) = true := zT hst;rw [zT hst, Bool.true_and] at hRw;have HH := Bx.mk hRw;clear hRw;go_wp2_with fail
        go_at_call 78;refine hci.mono ?_;rintro e w5 ⟨rfl, rfl⟩;clear hci
        cases tc with
        | false =>
         go_wp2_with fail
         go_meet
         exact ⟨by rw [HH.out]; rfl, Below.refl _ _⟩
        | true =>
         go_wp2_with fail
         go_at_call 41;refine hsp.mono ?_;rintro e w6 ⟨rfl, hb6⟩;clear hsp m0 m1 m2
         cases ts with
         | false =>
          go_wp2_with fail
          go_meet
          exact ⟨by rw [HH.out]; rfl, hb6⟩
         | true =>
          by_cases hkn : k = N - 1
          ·have tk : ((k : Int) == (N : Int) - 1) = true := by simp; omega
           have HH3 := Bx.mk (show R1 = true by rw [HH.out, zT hkn]; rfl);clear hkn;go_wp2_with fail
           go_meet;exact ⟨by rw [HH3.out], hb6⟩
          ·have tk : ((k : Int) == (N : Int) - 1) = false := by simp; omega
           have HH3 := Bx.mk (show R1 = false by rw [HH.out, zF hkn]; rfl);go_wp2_with fail
           go_meet;exact ⟨by rw [HH3.out], hb6⟩
       ·have t35 : decide (ST >= 0) = false := zF hst;have HH := Bx.mk (show R1 = false by rw [hRw, zF hst]; rfl);clear hRw hci hsp;go_wp2_with fail
        go_meet;exact ⟨by rw [HH.out], Below.refl _ _⟩
      case rest =>
      obtain ⟨rfl, hbx⟩ := hcut;have HBX := Bx.mk (HB4.out.trans (hbx.mono HB4.out.size));obtain ⟨q, hq, hop⟩ := HO4.out;have hr5 := (hbx.block q7 (lt_of_some HR4.out)).trans HR4.out;have m0 := cell_of_row _ _ 0 _ _ _ hr5;simp only [List.getElem?_toArray, List.getElem?_cons_zero, List.getElem?_cons_succ] at m0
      cases R1 with
      | true =>
       have hopx := hop.below hbx;obtain ⟨w6, hrun, ho6, hg6⟩ := hopx.putS u_mapSB (by unfold maxLen; omega) (k := x.n.pol) (by have := HPL.out; unfold maxLen; omega) true (.bool true) (rdB_mk _)
       have HO6 := Bx.mk (show ∃ q, q <= k * 2300 + (j + 1) /\ OwnF w6 kS rdB edB fm q (exF (polM (gxs g) k (j + 1))) by
        rw [HPS2.out, if_pos rfl, exF_snoc]; exact ⟨_, by omega, ho6⟩)
       have HB6 := Bx.mk (HBX.out.grown hg6 HBX.out.size fun i hi => by simp only [zO] at hi; have := HFM.out; omega);have hrun' : (Instr.mapUpdate 98 (.map (some fm)) (.string (bstr x.n.pol)) (.bool true)).run Tryz.prog wc = .ok () w6 := hrun;clear hr5 hop hq hbx hopx ho6 hg6 hrun;go_wp2_with fail
       go_roundw
       case rel => exact ⟨j + 1, by omega, by go_num, HO6, ⟨.inr trivial⟩, HB6⟩
       case measure => simp [intOf]; omega
      | false =>
       have HO6 := Bx.mk (show ∃ q, q <= k * 2300 + (j + 1) /\ OwnF wc kS rdB edB fm q (exF (polM (gxs g) k (j + 1))) by
        rw [HPS2.out, if_neg (by simp), List.append_nil]; exact ⟨q, by omega, hop.below hbx⟩)
       clear hr5 hop hq hbx;go_wp2_with fail
       go_roundw
       case rel => exact ⟨j + 1, by omega, by go_num, HO6, ⟨.inr trivial⟩, HBX⟩
       case measure => simp [intOf]; omega
     ·obtain rfl : j = M := by omega
      have HO4 := Bx.mk (show ∃ q, q <= (k + 1) * 2300 /\ OwnF wr kS rdB edB fm q (exF (polL (gxs g) (k + 1))) by
       obtain ⟨q, h1, h2⟩ := hO.out;rw [HM.out, <- vxs_len, <- HXL.out, polM_all _ _ (by omega)] at h2
       exact ⟨q, by omega, h2⟩)
      go_wp2_with fail
      go_roundw
      case rel => exact ⟨k + 1, by omega, .inl (by omega), by go_num, HO4, hB⟩
      case measure => simp [intOf]; omega
   ·obtain ⟨q, hq, hop⟩ := hO.out
    have hPN : polL (gxs g) k = polL (gxs g) N := by
     rcases hk with e | e
     ·rw [show k = N by omega]
     ·subst e;rcases Nat.lt_or_ge 0 N with e1 | e1
      ·rw [show N = 1 by omega]
      ·rw [show N = 0 by omega, polL_one, polL_zero]
    have hsk := sortedTB fm q _ wr hop (by omega) (setB (polL (gxs g) N)) (setB_asc _) (fun p => by
     rw [setB_mem, hPN]; unfold exF
     by_cases e : p ∈ polL (gxs g) N <;> simp [e])
    have hkk := keysTB (some fm) wr;obtain ⟨W6, hW6⟩ : ∃ W6, W6 = wr.alloc (.cells #[.map (some fm)] 98) := ⟨_, rfl⟩
    obtain ⟨kb, hkb⟩ : ∃ kb, kb = wr.heap.size := ⟨_, rfl⟩
    have HKB := Bx.mk hkb;have HB6 := Bx.mk (show Below wr.heap.size wr W6 by rw [hW6]; exact (Below.refl _ _).alloc (zR _) _);have HS6 := Bx.mk (show W6.heap.size = kb + 1 by rw [hW6, hkb]; simp);have HBW := Bx.mk hB.out;rw [<- hW6, <- hkb] at hsk hkk;have hdl : decide ((k : Int) < (N : Int)) = false := zF (by omega);clear hO hop hq hPN hW6 hkb hB;go_wp2_with fail
    go_at_call 79;refine hkk.mono ?_;rintro e w6 ⟨rfl, rfl⟩;clear hkk;go_wp2_with fail
    go_at_call 63;refine hsk.mono ?_;rintro e w7 ⟨sv, rfl, ho7, hb7⟩;obtain ⟨sa, sc, rfl, -⟩ := ho7.rd.form;have hle : w.heap.size <= kb + 1 := (by have := HBW.out.size; have := HKB.out; omega);have HO7 := Bx.mk (show Slc.Own w7 w.heap.size 9 1 encS (.slice sa (setB (polL (gxs g) N)).length sc) R by rw [HRF.out]; exact ho7.mono hle);have HB7 := Bx.mk (show Below w.heap.size w w7 from HBW.out.trans ((HB6.out.mono HBW.out.size).trans (hb7.mono hle)));clear hsk ho7 hb7;go_wp2_with fail
    go_ret;exact ⟨_, rfl, HO7.out, HB7.out⟩
theorem rbelow_at (w : World) (v : Value) (g : List Lv) (h : GQ w v g) (hn : g.length <= 100000) (i k : Nat) (hi0 : 0 < i) (hi : i < g.length) {A L : Lv} {x : Vt} (hA : A = g[i - 1]'(by omega)) (hL : L = g[i]) (hk : k < L.vs.length) (hx : x = L.vs[k]) (hp : ∀ q ∈ x.n.par, 0 <= q /\ q < ((A.vs.length : Nat) : Int)) :
  Calls Tryz.prog 76 #[v, .int .i64 i, .int .i64 k] w fun e w' => e = .returned (.bool (belV (vxs A.vs) x.n)) /\ Below w.heap.size w w' := by
 obtain ⟨j, rfl⟩ : ∃ j, i = j + 1 := ⟨i - 1, by omega⟩
 subst hA hL hx;exact rbelow_any w v g h hn j k hi hk hp
theorem rgpol2_any (w : World) (v : Value) (g : List Lv) (h : GQ w v g) (hn : g.length <= 40) (hln : ∀ L ∈ g, L.vs.length <= 2300) :
  Calls Tryz.prog 32 #[v] w fun e w' => ∃ v', e = .returned v' /\ Slc.Own w' w.heap.size 9 1 encS v' (gpolP (gxs g)) /\ Below w.heap.size w w' := by
 obtain ⟨i0, hi0, hz0, hz1, hz2⟩ := info_parts info_str;have hval := rgvalid_q w v g h (by omega) (fun L hL => by have := hln L hL; omega);obtain ⟨ad, c, rfl, -⟩ := h.rd.form;have HQ := Bx.mk h;have HLN := Bx.mk hln;obtain ⟨N, hN⟩ : ∃ N, N = g.length := ⟨_, rfl⟩
 have HN := Bx.mk hN;obtain ⟨R, hR⟩ : ∃ R, R = gpolP (gxs g) := ⟨_, rfl⟩
 rw [<- hR];unfold gpolP at hR;obtain ⟨V, hV⟩ : ∃ V, V = gvalidB (gxs g) := ⟨_, rfl⟩
 rw [<- hV] at hval hR;have HV := Bx.mk hV;have HRR := Bx.mk hR;rw [<- hN] at hn hval HQ |-;clear h hln hN hV hR;go_enter Tryz.func32, Tryz.ntmps32;go_wp2_with fail
 go_at_call 16;refine hval.mono ?_;rintro e w1 ⟨rfl, hb1⟩;clear hval;have HB1 := Bx.mk hb1;clear hb1
 cases V with
 | false =>
  have HF := Bx.mk (show R = [] by rw [HRR.out]; rfl);go_wp2_with fail
  go_ret
  exact ⟨_, rfl, by rw [HF.out]; exact Slc.Own.nil _ _, HB1.out⟩
 | true =>
  have HRF := Bx.mk (show R = setB (polL (gxs g) N) by rw [HRR.out, if_pos rfl, gxs_len, HN.out]);have wN : 0 < N -> IntKind.i64.wrap ((N : Int) - 1) = ((N - 1 : Nat) : Int) := fun h => by rw [IntWalk.i64_in _ (by omega)]; omega
  have HWN := Bx.mk wN;clear wN;go_wp2_with fail
  go_loopw [3, 4] (fun ov i wr => ∃ (k : Nat) (out : List B), 1 <= k /\ (k <= N \/ k = 1) /\ i = .int .i64 k /\ out.length <= k * 2300 /\ Bx (out = polL (gxs g) k) /\ Bx (Slc.Own wr w.heap.size 9 1 encS ov out) /\ Bx (Below w.heap.size w wr)) (fun _ i _ => N - (intOf i).toNat)
  case atStart => exact ⟨1, [], by omega, .inr rfl, rfl, by simp, ⟨(polL_one _).symm⟩, ⟨Slc.Own.nil _ _⟩, HB1⟩
  case round =>
   clear HB1;obtain ⟨k, out, hk1, hk, rfl, hol, hF, hO, hB⟩ := hrel;by_cases hlt : k < N
   ·have hkl : k < g.length := by rw [<- HN.out]; exact hlt
    have hkl1 : k - 1 < g.length := (by omega);obtain ⟨b, o, rfl, -, -⟩ := HQ.out.at1 w (Below.refl _ _) k hkl;have HC := Bx.mk (fun (W : World) (hW : Below w.heap.size w W) => HQ.out.at1' W hW k hkl);have HVL := Bx.mk (HQ.out.lv _ (zM hkl));have hll := HLN.out _ (zM hkl);have HXL := Bx.mk (gxs_at g k hkl);have HXA := Bx.mk (gxs_at g (k - 1) hkl1);obtain ⟨L, hL⟩ : ∃ L, L = g[k]'hkl := ⟨_, rfl⟩
    obtain ⟨A, hA⟩ : ∃ A, A = g[k - 1]'hkl1 := ⟨_, rfl⟩
    simp only [<- hL] at HC HVL hll HXL
    rw [<- hA] at HXA;obtain ⟨la, lc, hls, -⟩ := HVL.out.rd.form;rw [hls] at HC HVL;obtain ⟨M, hM⟩ : ∃ M, M = L.vs.length := ⟨_, rfl⟩
    have HM := Bx.mk hM;have HL := Bx.mk hL;have HA := Bx.mk hA;rw [<- hM] at HC HVL hll;have HPM := Bx.mk (show out = polM (gxs g) k 0 by rw [polM_zero]; exact hF.out);have hol2 : out.length <= k * 2300 + 0 := (by omega);have wn := HWN.out (by omega);clear hls hM hF hol hL hA;go_wp2_with fail
    go_loopw [3, 5] (fun ov i wr => ∃ (j : Nat) (out : List B), j <= M /\ i = .int .i64 j /\ out.length <= k * 2300 + j /\ Bx (out = polM (gxs g) k j) /\ Bx (Slc.Own wr w.heap.size 9 1 encS ov out) /\ Bx (Below w.heap.size w wr)) (fun _ i _ => M - (intOf i).toNat)
    case atStart => exact ⟨0, out, by omega, rfl, hol2, HPM, hO, hB⟩
    case round =>
     clear HPM hol2 hO hB;obtain ⟨j, out, hj, rfl, hol, hF, hO, hB⟩ := hrel;have c0 := HC.out wr hB.out;by_cases hltj : j < M
     ·have hjl : j < L.vs.length := by rw [<- HM.out]; exact hltj
      obtain ⟨lb, lo, rfl, -, -⟩ := HVL.out.at3 w (Below.refl _ _) j hjl;have x0 := (HVL.out.at3' wr hB.out j hjl).1;have HXN := Bx.mk (vxs_at L.vs j hjl);obtain ⟨x, hx⟩ : ∃ x, x = L.vs[j]'hjl := ⟨_, rfl⟩
      rw [<- hx] at x0 HXN;have hmem : x.n ∈ (gxs g)[k]! := (by rw [HXL.out, hx]; exact List.mem_map.2 ⟨_, zM hjl, rfl⟩);have HPS := Bx.mk (polM_succ (gxs g) k j (by rw [HXL.out, vxs_len, <- HM.out]; exact hltj))
      have hpb : polV (gxs g) k x.n = ((!specV x.n && belV (vxs A.vs) x.n) || (specV x.n && decide (k = N - 1))) := by
       obtain ⟨q, hq⟩ : ∃ q, k = q + 1 := ⟨k - 1, by omega⟩
       have hXA := HXA.out;rw [<- hXA, HN.out, <- gxs_len g];subst hq;exact pol_bel HV.out.symm q (by rw [gxs_len]; exact hkl) hmem
      have hpar : ∀ q ∈ x.n.par, 0 <= q /\ q < ((A.vs.length : Nat) : Int) := by
       have hf := (gvalid_at HV.out.symm (k - 1) (by rw [gxs_len]; omega)).2 x.n (by rw [show k - 1 + 1 = k by omega]; exact hmem);have := (gfit_par hf).2.2;rw [HXA.out, vxs_len] at this;exact this
      have hbl := rbelow_at wr _ g (HQ.out.below hB.out) (by have := HN.out; omega) k j (by omega) hkl HA.out HL.out hjl hx hpar;obtain ⟨BV, hBV⟩ : ∃ s, s = belV (vxs A.vs) x.n := ⟨_, rfl⟩
      obtain ⟨SP, hSP⟩ : ∃ s, s = specV x.n := ⟨_, rfl⟩
      have l3 := same_any x.n.pol;rw [show decide (x.n.pol = anyP) = SP from hSP.symm] at l3;rw [<- hBV] at hbl hpb;rw [<- hSP] at hpb
      have HS := Bx.mk (show polM (gxs g) k (j + 1) = polM (gxs g) k j ++ if ((!SP && BV) || (SP && decide (k = N - 1))) then [x.n.pol] else [] by
       rw [HPS.out, HXL.out, HXN.out, hpb])
      obtain ⟨P, hP⟩ : ∃ P, P = x.n.pol := ⟨_, rfl⟩
      rw [<- hP] at x0 l3 HS;clear HPS hx hmem hpb hpar hBV hSP hP hjl;obtain ⟨oa, oc, rfl, -⟩ := hO.out.rd.form;obtain ⟨ON, hON⟩ : ∃ n, n = out.length := ⟨_, rfl⟩
      have HON := Bx.mk hON;rw [<- hON] at hol |-;clear hON;obtain ⟨T, hT⟩ : ∃ T, T = ((!SP && BV) || (SP && decide (k = N - 1))) := ⟨_, rfl⟩
      rw [<- hT] at HS;have HT := Bx.mk hT;clear hT;go_upto_region 11 with fail
      clear c0 x0;go_cut [53] (fun cc wx => cc = .bool T /\ Below wr.heap.size wr wx)
      case first =>
       cases SP with
       | false =>
        go_wp2_with fail
        go_at_call 76;refine hbl.mono ?_;rintro e w2 ⟨rfl, hb2⟩;have HB2 := Bx.mk hb2;clear hbl hb2
        cases BV with
        | true =>
         have HTT := Bx.mk (show T = true by rw [HT.out]; rfl);go_wp2_with fail
         go_meet
         exact ⟨by rw [HTT.out], HB2.out⟩
        | false =>
         have HTT := Bx.mk (show T = false by rw [HT.out]; rfl);go_wp2_with fail
         go_meet
         exact ⟨by rw [HTT.out], HB2.out⟩
       | true =>
        clear hbl;by_cases hkn : k = N - 1
        ·have HTT := Bx.mk (show T = true by rw [HT.out, zT hkn]; simp);have te : ((k : Int) == ((N - 1 : Nat) : Int)) = true := (by simp; omega);clear hkn;go_wp2_with fail
         go_meet;exact ⟨by rw [HTT.out], Below.refl _ _⟩
        ·have HTT := Bx.mk (show T = false by rw [HT.out, zF hkn]; simp);have te : ((k : Int) == ((N - 1 : Nat) : Int)) = false := (by simp; omega);clear hkn;go_wp2_with fail
         go_meet;exact ⟨by rw [HTT.out], Below.refl _ _⟩
      case rest =>
      obtain ⟨rfl, hbc⟩ := hcut;obtain ⟨w5, hw5⟩ : ∃ w5, w5 = wc := ⟨_, rfl⟩
      rw [<- hw5] at hbc |-;have HO5 := Bx.mk (hO.out.below hbc);have HB5 := Bx.mk (hB.out.trans (hbc.mono hB.out.size));clear hbl hbc hw5 l3 hO hB
      cases T with
      | false =>
       have HO6 := Bx.mk (show Slc.Own w5 w.heap.size 9 1 encS (.slice oa ON oc) out by rw [HON.out]; exact HO5.out);have HL2 := Bx.mk (show out.length <= k * 2300 + (j + 1) by rw [<- HON.out]; omega);have HF2 := Bx.mk (show out = polM (gxs g) k (j + 1) by rw [HS.out, <- hF.out]; simp);go_wp2_with fail
       go_roundw
       case rel => exact ⟨j + 1, out, by omega, by go_num, HL2.out, HF2, HO6, HB5⟩
       case measure => simp [intOf]; omega
      | true =>
       have HF2 := Bx.mk (show out ++ [P] = polM (gxs g) k (j + 1) by rw [HS.out, <- hF.out, if_pos rfl]);have hw2 : Below w5.heap.size w5 (w5.alloc (.cells #[.string (bstr P)] 9)) := (Below.refl _ _).alloc (zR _) _;have HO2 := Bx.mk (HO5.out.below hw2);have HB2 := Bx.mk (HB5.out.trans (hw2.mono HB5.out.size));have HSRC := Bx.mk (show SrcV (w5.alloc (.cells #[.string (bstr P)] 9)) 1 (.slice (some ⟨w5.heap.size, 0, none⟩) 1 1) 1 ([P].flatMap encS) from src_new encS_ok (heap_alloc_new _ _));have hm1 : ON + 1 <= maxLen := (by unfold maxLen; omega);have hm2 : (ON + 1) * 16 <= 140737488355328 := (by omega);have hbz : w.heap.size <= (w5.alloc (.cells #[.string (bstr P)] 9)).heap.size := HB2.out.size
       have HOA := Bx.mk (show World.ownsRow (w5.alloc (.cells #[.string (bstr P)] 9)) w.heap.size 9 1 (.slice oa ON oc) ON (out.flatMap encS) by
        have := HO2.out;unfold Slc.Own at this
        rw [<- HON.out] at this; exact this)
       clear hw2;go_wp2_with (at_builtin; refine wpList_append_any rfl _ _ _ rfl w.heap.size 9 i0 _ 1 16 und_strs hi0 hz0 hz1 hz2 rfl (by decide) _ ON (out.flatMap encS) rfl HOA.out _ 1 ([P].flatMap encS) rfl HSRC.out hm1 hm2 hbz ?_)
       intro v9 w9 hapd
       have HO9 := Bx.mk (show Slc.Own w9 w.heap.size 9 1 encS v9 (out ++ [P]) from by
        have h2 := HO2.out;rw [<- HON.out] at h2
        exact h2.apd (m := [P]) rfl rfl HON.out rfl hapd)
       have HB9 := Bx.mk (HB2.out.grown hapd.grown HB2.out.size fun j hj => (HO2.out.lt j (by rw [<- HON.out]; exact hj)).1);have HL9 := Bx.mk (show (out ++ [P]).length <= k * 2300 + (j + 1) by rw [List.length_append, <- HON.out]; simp; omega);clear hapd hm1 hm2 hbz;go_wp2_with fail
       go_roundw
       case rel => exact ⟨j + 1, _, by omega, by go_num, HL9.out, HF2, HO9, HB9⟩
       case measure => simp [intOf]; omega
     ·obtain rfl : j = M := by omega
      have HP2 := Bx.mk (show out = polL (gxs g) (k + 1) by
       rw [hF.out, <- polM_all (gxs g) k (by omega), HXL.out, vxs_len, <- HM.out])
      have hol2 : out.length <= (k + 1) * 2300 := (by omega);clear hF hol;go_wp2_with fail
      go_roundw
      case rel => exact ⟨k + 1, out, by omega, by omega, by go_num, hol2, HP2, hO, hB⟩
      case measure => simp [intOf]; omega
   ·have hrd := hO.out.rd;have hset := rset_any wr _ out hrd (by have := hn; omega)
    have HE := Bx.mk (show R = setB out by
     rw [HRF.out, hF.out];rcases hk with e | e
     ·rw [show N = k by omega]
     ·subst e;have : N = 0 \/ N = 1 := (by omega);rcases this with q | q
      ·rw [q, polL_zero, polL_one]
      ·rw [q])
    clear hrd;go_wp2_with fail
    go_at_call 54;refine hset.mono ?_;rintro e w5 ⟨v5, rfl, ho5, hb5⟩;go_wp2_with fail
    go_ret;exact ⟨_, rfl, by rw [HE.out]; exact ho5.mono hB.out.size, hB.out.trans (hb5.mono hB.out.size)⟩
end Go.Proofs.YtmagjdocondmhaaGreat.Tr.Gr
