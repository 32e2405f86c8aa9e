/- packed -/
import Derived.Test.YtmagjdocondmhaaGreatPkAn06
import Derived.Deep.CutBlock
import Derived.Deep.DeepCutAuto
set_option linter.unusedVariables false
set_option linter.unusedSimpArgs false
set_option maxRecDepth 100000
set_option maxHeartbeats 64000000
namespace Go.Proofs.YtmagjdocondmhaaGreat.Tr.Gr
open Go Go.RowKit Slc St Mp Tr Rg
attribute [local go_sem] Oper.semAt_some
theorem kb_far {n p : Nat} {A B : World} {r : Option Nat} (h : A.grownBy B r) (hn : n <= A.heap.size) (hr : ∀ k, r = some k -> n <= k) : KB n p A B :=
 ⟨h.os, h.tape, h.output, h.size, fun k hk _ => h.block k (by omega) (fun e => by have := hr k e.symm; omega)⟩
theorem kb_below {n p m : Nat} {A B : World} (h : KB n p A B) (h1 : m <= n) (h2 : m <= p) : Below m A B := ⟨h.os, h.tape, h.output, h.size, fun k hk => h.block k (by omega) (by omega)⟩
theorem str_at {w : World} {ad : Option Addr} {n c : Nat} {l : List B} (h : Rd w encS (.slice ad n c) l) (k : Nat) (hk : k < l.length) : ∃ b o, ad = some ⟨b, o, none⟩ /\ b < w.heap.size /\ ∀ W : World, W.heap[b]? = w.heap[b]? -> W.cell? ⟨b, o + k, none⟩ = some (.string (bstr l[k])) := by
 obtain ⟨b, o, c', hv, _, hlt, hc⟩ := h.cells encS_ok (by omega);simp only [Value.slice.injEq] at hv
 refine ⟨b, o, hv.1, hlt, fun W hW => ?_⟩
 have q := hc W (fun k' hk' => by
  rw [hv.1] at hk';simp only [Value.ownBlock, zO] at hk'
  rw [<- hk']; exact hW) k hk 0 _ (by omega) rfl
 rw [Nat.mul_one, Nat.add_zero] at q;exact q
def lvV (h : B -> List Int) (p : B) : Vx := ⟨p, [p], h p⟩
structure LvO (w wr : World) (B7 : Nat) (S : Nat -> Prop) (v : Value) (L : List Vt) : Prop where
 own : Slc.Own wr B7 65 3 encV v L
 u : ∀ x ∈ L, RdIn wr (fun k => B7 <= k /\ v.ownBlock ≠ some k) encS x.u.val x.n.ex
 q : ∀ x ∈ L, RdIn w S encI x.q.val x.n.par
structure LvP (w w' : World) (S : Nat -> Prop) (v : Value) (L : List Vt) : Prop where
 own : Slc.Own w' w.heap.size 65 3 encV v L
 u : ∀ x ∈ L, RdIn w' (fun k => w.heap.size <= k /\ v.ownBlock ≠ some k) encS x.u.val x.n.ex
 q : ∀ x ∈ L, RdIn w' S encI x.q.val x.n.par
theorem level_any (w : World) (b q : Nat) (f : B -> Option Sg) (h : B -> List Int) (S : Nat -> Prop) (ks : List B) (hm : OwnF w kS rdS edS b q f) (hq : q <= 1000000) (hrd : ∀ p s, f p = some s -> RdIn w S encI s.val (h p)) (ha : Asc ks) (hmem : ∀ k, k ∈ ks ↔ (f k).isSome = true) (hkl : ks.length <= 1000000) (hpl : ∀ p ∈ ks, p.length <= 1000000) :
  Calls Tryz.prog 53 #[.map (some b)] w fun e w' => ∃ v L, e = .returned (.agg #[v]) /\ LvP w w' S v L /\ vxs L = ks.map (lvV h) /\ Below w.heap.size w w' := by
 obtain ⟨iv, hiv, hiv0, hiv1, hiv2⟩ := info_parts info_ver;obtain ⟨il, hil, hil0, hil1, hil2⟩ := info_parts info_lev;have HRD := Bx.mk hrd;have HBL := Bx.mk hm.lt;have HMEM := Bx.mk hmem;have HPL := Bx.mk hpl;obtain ⟨c2, hc2⟩ : ∃ c, c = w.heap.size := ⟨_, rfl⟩
 have HC2 := Bx.mk hc2;obtain ⟨W0, hW0⟩ : ∃ W0, W0 = w.alloc (.cells #[.slice none 0 0] 63) := ⟨_, rfl⟩
 have hs0 : W0.heap.size = w.heap.size + 1 := by rw [hW0]; simp
 obtain ⟨c3, hc3⟩ : ∃ c, c = w.heap.size + 1 := ⟨_, rfl⟩
 have HC3 := Bx.mk (show c3 = c2 + 1 by rw [hc3, hc2]);obtain ⟨W1, hW1⟩ : ∃ W1, W1 = W0.alloc (.cells #[.slice none 0 0] 63) := ⟨_, rfl⟩
 have hb1 : Below w.heap.size w W1 := by
  rw [hW1];have h0 : Below w.heap.size w W0 := by rw [hW0]; exact (Below.refl _ _).alloc (zR _) _
  exact h0.alloc (by rw [hs0]; omega) _
 have HB1 := Bx.mk hb1
 have HR2 := Bx.mk (show W1.heap[c2]? = some (.cells #[.slice none 0 0] 63 (0, 0)) by
  rw [hW1];refine alloc_keep ?_
  rw [hW0, hc2]; exact heap_alloc_new _ _)
 have HR3 := Bx.mk (show W1.heap[c3]? = some (.cells #[.slice none 0 0] 63 (0, 0)) by rw [hW1, hc3, <- hs0]; exact heap_alloc_new _ _);have HS1 := Bx.mk (show W1.heap.size = c3 + 1 by rw [hW1, hc3]; simp [hs0]);have hm1 := hm.below hb1;have hsk := sortedTI b q f W1 hm1 hq ks ha hmem;have hkk := keysTI (some b) W1;obtain ⟨W6, hW6⟩ : ∃ W6, W6 = W1.alloc (.cells #[.map (some b)] 77) := ⟨_, rfl⟩
 obtain ⟨kb, hkb⟩ : ∃ kb, kb = W1.heap.size := ⟨_, rfl⟩
 have HKB := Bx.mk hkb;have HB6 := Bx.mk (show Below W1.heap.size W1 W6 by rw [hW6]; exact (Below.refl _ _).alloc (zR _) _);have HS6 := Bx.mk (show W6.heap.size = kb + 1 by rw [hW6, hkb]; simp);rw [<- hW6, <- hkb] at hsk hkk;have HM1 := Bx.mk hm1;clear hm hm1 hrd hmem hpl hb1 hW6 hkb hs0;go_enter Tryz.func53, Tryz.ntmps53;go_upto_region 2 with fail
 rw [<- hW0, <- hW1, <- hc3, <- hc2];clear hW0 hW1 hc2 hc3;go_wp2_with fail
 go_at_call 102;refine hkk.mono ?_;rintro e w6 ⟨rfl, rfl⟩;clear hkk;go_wp2_with fail
 go_at_call 63;refine hsk.mono ?_;rintro e w7 ⟨sv, rfl, ho7, hb7⟩;obtain ⟨sa, sc, rfl, -⟩ := ho7.rd.form;have HB7 := Bx.mk (show Below W1.heap.size W1 w7 from HB6.out.trans (hb7.mono (by have := HKB.out; omega)));have hs7 := HB7.out.size;have H7 := Bx.mk (show c3 + 1 <= w7.heap.size by have := HS1.out; omega);have HBW7 := Bx.mk (show Below w.heap.size w w7 from HB1.out.trans (HB7.out.mono HB1.out.size));have HM7 := Bx.mk (HM1.out.below HB7.out);have HKR := Bx.mk ho7.rd;have HKO := Bx.mk (show ∀ j, (Value.slice sa ks.length sc).ownBlock = some j -> c3 < j from fun j hj => by have := (ho7.lt j hj).1; have := HKB.out; have := HS1.out; omega);have H27 := Bx.mk ((HB7.out.block c2 (by have := HC3.out; have := HS1.out; omega)).trans HR2.out);have H37 := Bx.mk ((HB7.out.block c3 (by have := HS1.out; omega)).trans HR3.out);obtain ⟨B7, hB7⟩ : ∃ B7, B7 = w7.heap.size := ⟨_, rfl⟩
 have HZ7 := Bx.mk hB7;obtain ⟨N, hN⟩ : ∃ N, N = ks.length := ⟨_, rfl⟩
 have HN := Bx.mk hN;rw [<- hN] at hkl |-;clear hsk ho7 hb7 HR2 HR3 hs7 hB7 hN ha;go_wp2_with fail
 go_loopw [10] (fun i wr => ∃ (k : Nat) (v : Value) (L : List Vt), k <= N /\ i = .int .i64 k /\ Bx (KB B7 c3 w7 wr) /\ Bx (wr.heap[c3]? = some (.cells #[v] 63 (0, 0))) /\ Bx (LvO w wr B7 S v L) /\ Bx (vxs L = (ks.take k).map (lvV h))) (fun i _ => N - (intOf i).toNat)
 case atStart => exact ⟨0, _, [], by omega, rfl, ⟨KB.refl _ _ _⟩, H37, ⟨⟨Slc.Own.nil _ _, (fun x hx => by cases hx), (fun x hx => by cases hx)⟩⟩, ⟨by simp [vxs]⟩⟩
 case round =>
  clear H37;obtain ⟨k, v, L, hk, rfl, hK, hR, hL, hV⟩ := hrel;have HC3N := Bx.mk (show c3 < B7 by have := H7.out; have := HZ7.out; omega);by_cases hlt : k < N
  ·have hkl2 : k < ks.length := by rw [<- HN.out]; exact hlt
   obtain ⟨bs, os, rfl, hbl, hcs⟩ := str_at HKR.out k hkl2;have c0 := hcs wr (hK.out.block bs (by have := HZ7.out; omega) (by have := HKO.out bs rfl; omega));have HTK := Bx.mk (show (ks.take (k + 1)).map (lvV h) = (ks.take k).map (lvV h) ++ [lvV h ks[k]] by rw [zA hkl2, List.map_append]; rfl);have HPK := Bx.mk (HPL.out ks[k] (zM hkl2));have HFK := Bx.mk ((HMEM.out ks[k]).1 (zM hkl2));obtain ⟨p, hp⟩ : ∃ p, p = ks[k] := ⟨_, rfl⟩
   rw [<- hp] at c0 HTK HPK HFK;obtain ⟨s0, hs0⟩ := Option.isSome_iff_exists.1 HFK.out;have HRS := Bx.mk (HRD.out p s0 hs0);have HLEN := Bx.mk (show L.length = k by have := congrArg List.length hV.out; simp only [vxs, List.length_map, List.length_take] at this; omega);obtain ⟨va, vc, rfl, -⟩ := hL.out.own.rd.form;have HW := Bx.mk (show B7 <= wr.heap.size by have := hK.out.size; have := HZ7.out; omega);have HVL := Bx.mk (show ∀ j, (Value.slice va L.length vc).ownBlock = some j -> B7 <= j /\ j < wr.heap.size from fun j hj => hL.out.own.lt j hj);have HBWR := Bx.mk (show Below w.heap.size w wr from HBW7.out.trans (kb_below hK.out (by have := HBW7.out.size; have := HZ7.out; omega) (by have := HC3.out; have := HC2.out; omega)));have hb3 : b ≠ c3 := by have := HBL.out; have := HC3.out; have := HC2.out; omega
   have HLOOK := Bx.mk (show ∀ W : World, wr.grownBy W (Value.slice va L.length vc).ownBlock -> (Instr.lookup 77 (.map (some b)) (.string (bstr p)) false).run Tryz.prog W = .ok s0.val W from fun W hW => by
    have h1 := HM7.out.block (w' := wr) (hK.out.block b (by have := HM7.out.lt; have := HZ7.out; omega) hb3);have h2 := h1.kept hW (fun e => by have := (HVL.out b e.symm).1; have := HM7.out.lt; have := HZ7.out; omega);have := (h2.lookS u_mapSI Sg.val nilS (Tryz.zeroValue22 _) rdS_mk rdS_inv (k := p) (by have := HPK.out; unfold maxLen; omega)).1;rw [hs0] at this
    exact this)
   have HR3 := Bx.mk hR.out;clear hbl hcs hp hkl2 HFK hb3 hs0;have hsf : ∃ ya yn yc, s0.val = .slice ya yn yc := ⟨_, _, _, rfl⟩
   obtain ⟨ya, yn, yc, hsf⟩ := hsf;have HSF := Bx.mk hsf;have hrow3 := hR.out;have m3 := cell_of_row _ _ 0 _ _ _ hrow3;simp only [List.getElem?_toArray, List.getElem?_cons_zero, List.getElem?_cons_succ] at m3
   have hba : ∀ {A : World} (o : Obj), Below A.heap.size A (A.alloc o) := fun {A} o => (Below.refl _ _).alloc (zR _) _
   have hgn : wr.grownBy (wr.alloc (.cells #[.string (bstr p)] 9)) (Value.slice va L.length vc).ownBlock := by
    have := hba (A := wr) (.cells #[.string (bstr p)] 9);exact ⟨this.os, this.tape, this.output, this.size, fun j hj _ => this.block j hj⟩
   have hlook := HLOOK.out _ hgn;rw [hsf] at hlook;have HOWN := Bx.mk (show Slc.Own ((wr.alloc (.cells #[.string (bstr p)] 9)).alloc (.cells #[.string (bstr p), .slice (some ⟨wr.heap.size, 0, none⟩) 1 1, .slice ya yn yc] 65)) B7 65 3 encV (.slice va L.length vc) L from (hL.out.own.below (hba _)).below (hba _));have hwz : (wr.alloc (.cells #[.string (bstr p)] 9)).heap.size = wr.heap.size + 1 := by simp
   obtain ⟨y, hy⟩ : ∃ y : Vt, y = ⟨lvV h p, ⟨some ⟨wr.heap.size, 0, none⟩, 1, 1⟩, ⟨s0.ad.map fun q => ⟨q.1, q.2, none⟩, s0.n, s0.c⟩⟩ := ⟨_, rfl⟩
   have hyq : y.q.val = s0.val := by
    rw [hy]
    cases h : s0.ad <;> simp [Sl.val, Sg.val, h]
   have HSRC := Bx.mk (show SrcV ((wr.alloc (.cells #[.string (bstr p)] 9)).alloc (.cells #[.string (bstr p), .slice (some ⟨wr.heap.size, 0, none⟩) 1 1, .slice ya yn yc] 65)) 3 (.slice (some ⟨wr.heap.size + 1, 0, none⟩) 1 1) 1 ([y].flatMap encV) from by
    have h1 := src_ver (wr.alloc (.cells #[.string (bstr p)] 9)) y;rw [hwz, hyq, hsf, show y.n.pol = p by rw [hy]; rfl, show y.u.val = .slice (some ⟨wr.heap.size, 0, none⟩) 1 1 by rw [hy]; rfl] at h1
    exact h1)
   have HU := Bx.mk (show Slc.Own ((wr.alloc (.cells #[.string (bstr p)] 9)).alloc (.cells #[.string (bstr p), .slice (some ⟨wr.heap.size, 0, none⟩) 1 1, .slice ya yn yc] 65)) wr.heap.size 9 1 encS (.slice (some ⟨wr.heap.size, 0, none⟩) 1 1) [p] from
    Slc.Own.below (t := 9) (own_alloc encS_ok wr [p] _ rfl (zR _) (by unfold maxLen; simp)) (hba _))
   have HBA := Bx.mk (show Below wr.heap.size wr ((wr.alloc (.cells #[.string (bstr p)] 9)).alloc (.cells #[.string (bstr p), .slice (some ⟨wr.heap.size, 0, none⟩) 1 1, .slice ya yn yc] 65)) from (hba _).alloc (by simp) _);have HZA := Bx.mk (show ((wr.alloc (.cells #[.string (bstr p)] 9)).alloc (.cells #[.string (bstr p), .slice (some ⟨wr.heap.size, 0, none⟩) 1 1, .slice ya yn yc] 65)).heap.size = wr.heap.size + 2 by simp);have hap1 : L.length + 1 <= maxLen := by have := HLEN.out; unfold maxLen; omega
   have hap2 : (L.length + 1) * 64 <= 140737488355328 := by have := HLEN.out; omega
   have hap3 : B7 <= ((wr.alloc (.cells #[.string (bstr p)] 9)).alloc (.cells #[.string (bstr p), .slice (some ⟨wr.heap.size, 0, none⟩) 1 1, .slice ya yn yc] 65)).heap.size := by have := HW.out; simp; omega
   have HYQ := Bx.mk hyq;have HY := Bx.mk hy;clear hsf hrow3 hba hgn hwz hy hyq hR;go_wp2_with (at_builtin; refine wpList_append_any rfl _ _ _ rfl B7 65 iv _ 3 64 und_vers hiv hiv0 hiv1 hiv2 rfl (by decide) _ L.length (L.flatMap encV) rfl HOWN.out _ 1 ([y].flatMap encV) rfl HSRC.out hap1 hap2 hap3 ?_)
   intro v9 w9 hapd;have hown := Slc.Own.apd (m := [y]) HOWN.out rfl rfl rfl rfl hapd;have hgr := hapd.grown;have hblk := hapd.blk;obtain ⟨W3, hW3⟩ : ∃ W3, W3 = ((wr.alloc (.cells #[.string (bstr p)] 9)).alloc (.cells #[.string (bstr p), .slice (some ⟨wr.heap.size, 0, none⟩) 1 1, .slice ya yn yc] 65)) := ⟨_, rfl⟩
   rw [<- hW3] at HU HBA HZA hgr hblk;obtain ⟨a9, c9, rfl, -⟩ := hown.rd.form;have hvw : ∀ j, (Value.slice va L.length vc).ownBlock = some j -> B7 <= j /\ j < wr.heap.size := HVL.out
   have hb9 : ∀ j, j < wr.heap.size + 2 -> (Value.slice va L.length vc).ownBlock ≠ some j -> w9.heap[j]? = W3.heap[j]? := fun j hj hn => hgr.block j (by rw [HZA.out]; exact hj) (fun e => hn e.symm)
   have HR9 := Bx.mk (show w9.heap[c3]? = some (.cells #[.slice va L.length vc] 63 (0, 0)) by
    have h3 := lt_of_some HR3.out
    rw [hb9 c3 (by omega) (fun e => by have := (hvw c3 e).1; have := HC3N.out; omega), HBA.out.block c3 h3]; exact HR3.out)
   have hln : (L ++ [y]).length = L.length + 1 := by simp
   rw [hln] at hown hblk |-;clear hln;obtain ⟨V9, hV9⟩ : ∃ V9, V9 = Value.slice a9 (L.length + 1) c9 := ⟨_, rfl⟩
   rw [<- hV9] at hblk hown;obtain ⟨W10, hW10⟩ : ∃ W10, W10 = w9.setCell ⟨c3, 0, none⟩ V9 := ⟨_, rfl⟩
   have hR10 : W10.heap[c3]? = some (.cells #[V9] 63 (0, 0)) := by rw [hW10]; exact row_set HR9.out _
   have hO10 : ∀ j, j ≠ c3 -> W10.heap[j]? = w9.heap[j]? := fun j hj => by rw [hW10]; exact heap_setCell_other _ _ _ _ hj
   have hz10 : W10.heap.size = w9.heap.size := by rw [hW10]; simp
   have hz9 := hgr.size
   have HK10 := Bx.mk (show KB B7 c3 w7 W10 by
    refine hK.out.trans ((KB.of_below (HBA.out.mono HW.out)).trans ((kb_far hgr (by rw [HZA.out]; have := HW.out; omega) fun j hj => (hvw j hj).1).trans ?_))
    rw [hW10]; exact KB.set _ _ _ (by have := HW.out; rw [HZA.out] at hz9; omega))
   have HR10 := Bx.mk hR10;have hb93 : B7 <= c3 -> False := fun e => by have := HC3N.out; omega
   have HL10 := Bx.mk (show LvO w W10 B7 S V9 (L ++ [y]) from by
    refine ⟨hown.keep fun j hj _ => hO10 j (by have := (hown.lt j hj).1; have := HC3N.out; omega), fun x hx => ?_, fun x hx => ?_⟩
    ·rcases List.mem_append.1 hx with hx | hx
     ·have h1 := hL.out.u x hx
      have h2 : RdIn W10 (fun j => B7 <= j /\ (Value.slice va L.length vc).ownBlock ≠ some j) encS x.u.val x.n.ex := h1.keep (by rw [hz10]; have := HBA.out.size; omega) fun j hS hj => by
       rw [hO10 j (by have := hS.1; have := HC3N.out; omega), hb9 j (by omega) hS.2, HBA.out.block j hj]
      refine ⟨h2.1, fun j hj => ⟨(h2.2 j hj).1, fun e => ?_⟩⟩;rcases hblk with q | q
      ·rw [q] at e; exact (h2.2 j hj).2 e
      ·rw [q] at e;simp only [zO] at e
       have := h1.1.lt j hj;rw [HZA.out] at e;omega
     ·rw [zS] at hx;subst hx
      have hu : RdIn W10 (fun j => B7 <= j /\ V9.ownBlock ≠ some j) encS (.slice (some ⟨wr.heap.size, 0, none⟩) 1 1) [p] := by
       have h1 : RdIn W3 (fun j => j = wr.heap.size) encS (.slice (some ⟨wr.heap.size, 0, none⟩) 1 1) [p] := ⟨HU.out.rd, fun j hj => by simp only [Value.ownBlock, zO] at hj; exact hj.symm⟩;refine (h1.keep (w' := W10) (by rw [hz10]; exact hz9) fun j hS _ => ?_).mono fun j _ hS => ⟨by have := HW.out; omega, fun e => ?_⟩
       ·rw [hO10 j (by have := HW.out; have := HC3N.out; omega), hb9 j (by omega) (fun e => by have := (hvw j e).2; omega)]
       ·rcases hblk with q | q
        ·rw [q] at e; have := (hvw j e).2; omega
        ·rw [q] at e;simp only [zO] at e
         rw [HZA.out] at e;omega
      have e1 : x.u.val = .slice (some ⟨wr.heap.size, 0, none⟩) 1 1 := (by rw [HY.out]; rfl);have e2 : x.n.ex = [p] := (by rw [HY.out]; rfl);rw [e1, e2]; exact hu
    ·rcases List.mem_append.1 hx with hx | hx
     ·exact hL.out.q x hx
     ·rw [zS] at hx;subst hx;rw [HYQ.out, show x.n.par = h p by rw [HY.out]; rfl]
      exact HRS.out)
   have HV10 := Bx.mk (show vxs (L ++ [y]) = (ks.take (k + 1)).map (lvV h) by
    rw [HTK.out, <- hV.out, HY.out]; simp [vxs])
   have m9 := cell_of_row _ _ 0 _ _ _ HR9.out;have hf9 := frozen_row (i := 0) HR9.out;simp only [List.getElem?_toArray, List.getElem?_cons_zero, List.getElem?_cons_succ] at m9
   have hc9l := lt_of_some HR9.out;rw [<- hV9];rw [hV9] at hW10;have HW10 := Bx.mk hW10;have HVV := Bx.mk hV9;clear hV9 hW10 hown hgr hblk hvw hb9 hR10 hO10 hz10 hz9 hb93 hapd m3 hlook hap1 hap2 hap3;rw [HVV.out];go_wp2_with fail
   rw [<- HW10.out];go_roundw
   case rel => exact ⟨k + 1, V9, _, by omega, by go_num, HK10, HR10, HL10, HV10⟩
   case measure => simp [intOf]; omega
  ·obtain rfl : N = k := by omega
   have hr3 := hR.out;have m3 := cell_of_row _ _ 0 _ _ _ hr3;have hr2 := (hK.out.block c2 (by have := HC3.out; have := HC3N.out; omega) (by have := HC3.out; omega)).trans H27.out;have m2 := cell_of_row _ _ 0 _ _ _ hr2;simp only [List.getElem?_toArray, List.getElem?_cons_zero, List.getElem?_cons_succ] at m3 m2
   have hf2 := frozen_row (i := 0) hr2;obtain ⟨va, vc, hvf, -⟩ := hL.out.own.rd.form;rw [hvf] at m3;have hc2l := lt_of_some hr2;have HKK := Bx.mk hK.out;have HF2 := Bx.mk (show KB B7 c3 wr (wr.setCell ⟨c2, 0, none⟩ (.slice va L.length vc)) -> True from fun _ => trivial);obtain ⟨W9, hW9⟩ : ∃ W9, W9 = wr.setCell ⟨c2, 0, none⟩ (.slice va L.length vc) := ⟨_, rfl⟩
   have HO9 := Bx.mk (show ∀ j, j ≠ c2 -> W9.heap[j]? = wr.heap[j]? from fun j hj => by rw [hW9]; exact heap_setCell_other _ _ _ _ hj);have HZ9 := Bx.mk (show W9.heap.size = wr.heap.size by rw [hW9]; simp);have HE9 := Bx.mk (show W9.os = wr.os /\ W9.tape = wr.tape /\ W9.output = wr.output by rw [hW9]; exact ⟨rfl, rfl, rfl⟩);have HR9 := Bx.mk (show W9.heap[c2]? = some (.cells #[.slice va L.length vc] 63 (0, 0)) by rw [hW9]; exact row_set hr2 _);clear hr2 hr3 hK;go_wp2_with fail
   rw [<- hW9];refine bodyPost_ret (v := .agg #[.slice va L.length vc]) ?_ rfl ⟨_, L, rfl, ?_, ?_, ?_⟩
   ·exact results_cell_row rfl _ _ c2 63 _ (0, 0) _ rfl HR9.out Tryz.underlying63 rfl (by kernel_rfl)
   ·have hLo := hL.out;rw [hvf] at hLo;have hle : w.heap.size <= B7 := (by have := HBW7.out.size; have := HZ7.out; omega);have h2lt : c2 < B7 := (by have := HC3.out; have := HC3N.out; omega);have hbb : ∀ j, j < w.heap.size -> W9.heap[j]? = w.heap[j]? := fun j hj => (HO9.out j (by have := HC2.out; omega)).trans ((HKK.out.block j (by omega) (by have := HC3.out; have := HC2.out; omega)).trans ((HBW7.out.block j hj)))
    have hsz : w.heap.size <= W9.heap.size := (by rw [HZ9.out]; have := HKK.out.size; have := HZ7.out; omega);refine ⟨(hLo.own.keep fun j hj _ => HO9.out j (by have := (hLo.own.lt j hj).1; omega)).mono hle, fun x hx => ?_, fun x hx => ?_⟩
    ·exact ((hLo.u x hx).keep (by rw [HZ9.out]; exact zR _) fun j hS _ => HO9.out j (by have := hS.1; omega)).mono fun j _ hS => ⟨by have := hS.1; omega, hS.2⟩
    ·exact (hLo.q x hx).keep hsz fun j _ hj => hbb j hj
   ·rw [hV.out, HN.out, List.take_length]
   ·refine ⟨HE9.out.1.trans (HKK.out.os.trans HBW7.out.os), HE9.out.2.1.trans (HKK.out.tape.trans HBW7.out.tape), HE9.out.2.2.trans (HKK.out.output.trans HBW7.out.output), ?_, fun j hj => ?_⟩
    ·rw [HZ9.out]; have := HKK.out.size; have := HBW7.out.size; omega
    ·have := HBW7.out.size;have := HZ7.out;have := HC2.out;have := HC3.out;exact (HO9.out j (by omega)).trans ((HKK.out.block j (by omega) (by omega)).trans (HBW7.out.block j hj))
end Go.Proofs.YtmagjdocondmhaaGreat.Tr.Gr
namespace Go.Proofs.YtmagjdocondmhaaGreat.Tr.Gr
open Go Go.RowKit Slc St Mp Tr
attribute [local go_sem] Oper.semAt_some
def topB (l : List Vx) : Bool := decide (l.length = 1) && (specV l[0]! && (onlyB (l[0]!).ex && decide ((l[0]!).par.length = 0)))
def ordB (l : List Vx) (i : Nat) : Bool := decide (i = 0) || decide ((l[i - 1]!).pol < (l[i]!).pol)
def lvlB (ab l : List Vx) : Bool := (List.range l.length).all (fun i => gfitB l[i]! ab && ordB l i) && (decide (l.length ≠ 0) && (List.range ab.length).all (fun (j : Nat) => l.any fun v => decide ((j : Int) ∈ v.par)))
def gvalidB (g : List (List Vx)) : Bool := decide (g.length = 0) || (topB g[0]! && (List.range (g.length - 1)).all fun k => lvlB g[k]! g[k + 1]!)
theorem gxs_at (g : List Lv) (i : Nat) (h : i < g.length) : (gxs g)[i]! = vxs (g[i]).vs := by
 rw [getElem!_pos (gxs g) i (by simpa [gxs] using h)]; simp [gxs]
def parJ (l : List Vx) (i : Nat) : Int -> Option Bool := fun j => if (l.take i).any (fun v => decide (j ∈ v.par)) then some true else none
theorem parJ_zero (l : List Vx) : parJ l 0 = fun _ => none := by funext j; simp [parJ]
def parP (f : Int -> Option Bool) (ps : List Int) (k : Nat) : Int -> Option Bool := fun j => if j ∈ ps.take k then some true else f j
theorem parP_zero (f : Int -> Option Bool) (ps : List Int) : parP f ps 0 = f := by funext j; simp [parP]
theorem parP_succ (f : Int -> Option Bool) (ps : List Int) (k : Nat) (hk : k < ps.length) : parP f ps (k + 1) = fun j => if j = ps[k] then some true else parP f ps k j := by
 funext j
 unfold parP;rw [zA hk];by_cases e : j = ps[k]
 ·rw [if_pos e, if_pos (by rw [List.mem_append]; right; simp [e])]
 ·rw [if_neg e];by_cases e2 : j ∈ ps.take k
  ·rw [if_pos e2, if_pos (List.mem_append.2 (.inl e2))]
  ·rw [if_neg e2, if_neg (by rw [List.mem_append]; simp [e, e2])]
theorem parP_all (l : List Vx) (i : Nat) (hi : i < l.length) : parP (parJ l i) (l[i]!).par (l[i]!).par.length = parJ l (i + 1) := by
 funext j
 unfold parP parJ;rw [List.take_length, zA hi, List.any_append, getElem!_pos l i hi];by_cases e : j ∈ (l[i]).par
 ·simp [e]
 ·simp [e]
def keysJ (A : Nat) (f : Int -> Option Bool) : List Int := ((List.range A).filter fun (i : Nat) => (f (i : Int)).isSome).map fun (i : Nat) => (i : Int)
theorem keysJ_mem {A : Nat} {f : Int -> Option Bool} (h : ∀ j, (f j).isSome = true -> 0 <= j /\ j < (A : Int)) (j : Int) : j ∈ keysJ A f ↔ (f j).isSome = true := by
 unfold keysJ;rw [List.mem_map];constructor
 ·rintro ⟨i, hi, rfl⟩;exact (List.mem_filter.1 hi).2
 ·intro hj;obtain ⟨h0, h1⟩ := h j hj;refine ⟨j.toNat, List.mem_filter.2 ⟨List.mem_range.2 (by omega), ?_⟩, by omega⟩;have : ((j.toNat : Nat) : Int) = j := by omega
  rw [this]; exact hj
theorem keysJ_nodup (A : Nat) (f : Int -> Option Bool) : (keysJ A f).Nodup := by
 unfold keysJ;refine (List.nodup_range.filter _).map _ ?_ ;intro a b h e;exact h (Int.ofNat.inj e)
theorem keysJ_len (A : Nat) (f : Int -> Option Bool) : (keysJ A f).length <= A /\ (((keysJ A f).length = A) ↔ ∀ j, j < A -> (f (j : Nat)).isSome = true) := by
 unfold keysJ;rw [List.length_map];have h1 := List.length_filter_le (fun (i : Nat) => (f (i : Int)).isSome) (List.range A);rw [List.length_range] at h1;refine ⟨h1, ?_⟩;have h2 := @List.length_filter_eq_length_iff Nat (fun (i : Nat) => (f (i : Int)).isSome) (List.range A);rw [List.length_range] at h2;rw [h2];simp
theorem parJ_some (l : List Vx) (i : Nat) (j : Int) : (parJ l i j).isSome = (l.take i).any fun v => decide (j ∈ v.par) := by
 unfold parJ
 cases (l.take i).any fun v => decide (j ∈ v.par) <;> simp
theorem fit_in {v : Vx} {ab : List Vx} (h : gfitB v ab = true) : ∀ p ∈ v.par, 0 <= p /\ p < (ab.length : Int) := by
 unfold gfitB at h;rw [Bool.and_eq_true, Bool.not_eq_true'] at h;have hb := h.1;unfold badV at hb;simp only [Bool.or_eq_false_iff, Bool.not_eq_false', decide_eq_false_iff_not] at hb
 exact par_in hb.2.1 hb.2.2.1 hb.2.2.2
theorem lvl_keys {ab l : List Vx} (h : ∀ i, i < l.length -> (gfitB l[i]! ab && ordB l i) = true) : ∀ j, (parJ l l.length j).isSome = true -> 0 <= j /\ j < (ab.length : Int) := by
 intro j hj;rw [parJ_some, List.take_length, List.any_eq_true] at hj;obtain ⟨v, hv, hm⟩ := hj;obtain ⟨i, hi, rfl⟩ := List.getElem_of_mem hv;have := h i hi;rw [Bool.and_eq_true, getElem!_pos l i hi] at this;exact fit_in this.1 j (of_decide_eq_true hm)
theorem lvl_good {ab l : List Vx} (h : ∀ i, i < l.length -> (gfitB l[i]! ab && ordB l i) = true) (hl : 0 < l.length) : lvlB ab l = decide ((keysJ ab.length (parJ l l.length)).length = ab.length) := by
 unfold lvlB
 have h1 : ((List.range l.length).all fun i => gfitB l[i]! ab && ordB l i) = true := by
  rw [List.all_eq_true]; intro i hi; exact h i (List.mem_range.1 hi)
 rw [h1, zT (show l.length ≠ 0 by omega), Bool.true_and, Bool.true_and];rw [Bool.eq_iff_iff, List.all_eq_true, decide_eq_true_eq, (keysJ_len _ _).2];simp only [List.mem_range, parJ_some, List.take_length]
theorem lvl_bad {ab l : List Vx} {i : Nat} (hi : i < l.length) (h : (gfitB l[i]! ab && ordB l i) = false) : lvlB ab l = false := by
 unfold lvlB;rw [Bool.and_eq_false_iff]; left
 rw [List.all_eq_false];exact ⟨i, List.mem_range.2 hi, by rw [h]; simp⟩
theorem lvl_nil {ab : List Vx} {l : List Vx} (h : l.length = 0) : lvlB ab l = false := by
 unfold lvlB;rw [h]; simp
theorem i64_small {p : Int} {n : Nat} (h : 0 <= p /\ p < (n : Int)) (hn : n <= 100000) : I64 p := by unfold I64; omega
theorem gvalid_q (w : World) (v : Value) (g : List Lv) (h : GQ w v g) (hn : g.length <= 100000) (hln : ∀ L ∈ g, L.vs.length <= 100000) :
  Calls Tryz.prog 15 #[v] w fun e w' => e = .returned (.bool (gvalidB (gxs g))) /\ Below w.heap.size w w' := by
 obtain ⟨R, hR⟩ : ∃ R, R = gvalidB (gxs g) := ⟨_, rfl⟩
 rw [<- hR];obtain ⟨ad, c, rfl, -⟩ := h.rd.form;have HG := Bx.mk h;have HLN := Bx.mk hln;have HGX := Bx.mk (fun k hk => gxs_at g k hk);have HR := Bx.mk hR;have hfrom := fun hp : 1 <= g.length => h.rd.rest encL_ok und_levs (fun W => (show (sizeOf (Tryz.prog.elem 23)).run Tryz.prog W = .ok 1 W by kernel_rfl)) 1 hp
 obtain ⟨N, hN⟩ : ∃ N, N = g.length := ⟨_, rfl⟩
 have HN := Bx.mk hN;rw [<- hN] at hn |-;clear h hln hR hN;by_cases hz : N = 0
 ·have HF := Bx.mk (show R = true by rw [HR.out]; unfold gvalidB; rw [gxs_len, <- HN.out, zT hz]; rfl);subst hz
  clear hfrom
  go_enter Tryz.func15, Tryz.ntmps15;go_wp2_with fail
  go_ret;exact ⟨by rw [HF.out]; rfl, Below.refl _ _⟩
 have hNp : 0 < N := by omega
 have t0 : ((N : Int) == 0) = false := by simp; omega
 have HRR := Bx.mk (show R = (topB (gxs g)[0]! && (List.range (N - 1)).all fun k => lvlB (gxs g)[k]! (gxs g)[k + 1]!) by
  rw [HR.out]; unfold gvalidB; rw [gxs_len, <- HN.out, zF hz]; rfl)
 have hfr := hfrom (by rw [<- HN.out]; exact hNp);have HFR := Bx.mk hfr;clear hfrom hfr;have hg0 : 0 < g.length := by rw [<- HN.out]; exact hNp
 obtain ⟨b, o, rfl, hbl, t00⟩ := HG.out.at1 w (Below.refl _ _) 0 hg0
 have HGC := Bx.mk (show ∀ W, Below w.heap.size w W -> ∀ k (hk : k < g.length), W.cell? ⟨b, o + k, none⟩ = some (g[k]).s.val from fun W hW k hk => by
  obtain ⟨b', o', e, -, h⟩ := HG.out.at1 W hW k hk;simp only [zO, Addr.mk.injEq, and_true] at e
  obtain ⟨rfl, rfl⟩ := e
  exact h)
 have HL0 := Bx.mk (HG.out.lv g[0] (zM hg0));have HLL0 := Bx.mk (HLN.out g[0] (zM hg0));have HX0 := Bx.mk (HGX.out 0 hg0);obtain ⟨L0, hL0⟩ : ∃ L, L = g[0] := ⟨_, rfl⟩
 rw [<- hL0] at t00 HL0 HLL0 HX0;obtain ⟨a0, c0, hs0, -⟩ := HL0.out.rd.form;rw [hs0] at t00;rw [HX0.out] at HRR;obtain ⟨M0, hM0⟩ : ∃ M, M = L0.vs.length := ⟨_, rfl⟩
 have HM0 := Bx.mk hM0;rw [<- hM0] at t00;have HV0 := Bx.mk (show VQ w (.slice a0 L0.vs.length c0) L0.vs from hs0 ▸ HL0.out);have hM0b : M0 <= 100000 := by rw [hM0]; exact HLL0.out
 simp only [Nat.add_zero] at t00
 clear hL0 hg0 hs0 hM0 hbl hz;have hNi : (0 : Int) < (N : Int) := by omega
 by_cases hone : M0 = 1
 rotate_left
 ·have HF := Bx.mk (show R = false by rw [HRR.out]; unfold topB; rw [vxs_len, <- HM0.out, zF hone]; rfl);have t1 : ((M0 : Int) != 1) = true := by simp; omega
  have t2 : ((M0 : Int) == 1) = false := by simp; omega
  clear hone;go_enter Tryz.func15, Tryz.ntmps15;go_wp2_with fail
  go_ret;exact ⟨by rw [HF.out]; rfl, Below.refl _ _⟩
 have t1 : ((M0 : Int) != 1) = false := by simp; omega
 have t2 : ((M0 : Int) == 1) = true := by simp; omega
 have h01 : 0 < L0.vs.length := by rw [<- HM0.out]; omega
 obtain ⟨b0, o0, rfl, -, x0, x1, x2⟩ := HV0.out.at3 w (Below.refl _ _) 0 h01;have HBLT := World.block_lt_of_cell? w _ x0
 have HX := Bx.mk (show ∀ W, Below w.heap.size w W -> W.cell? ⟨b0, o0 + 0 * 3, none⟩ = w.cell? ⟨b0, o0 + 0 * 3, none⟩ /\ W.cell? ⟨b0, o0 + 0 * 3 + 1, none⟩ = w.cell? ⟨b0, o0 + 0 * 3 + 1, none⟩ /\ W.cell? ⟨b0, o0 + 0 * 3 + 2, none⟩ = w.cell? ⟨b0, o0 + 0 * 3 + 2, none⟩ from
  fun W hW => ⟨hW.cell (p := ⟨b0, o0 + 0 * 3, none⟩) HBLT, hW.cell (p := ⟨b0, o0 + 0 * 3 + 1, none⟩) HBLT, hW.cell (p := ⟨b0, o0 + 0 * 3 + 2, none⟩) HBLT⟩)
 clear HBLT;have HA0 := Bx.mk (HV0.out.at_ L0.vs[0] (zM h01));have HE0 := Bx.mk (vxs_at L0.vs 0 h01);obtain ⟨y, hy⟩ : ∃ y, y = L0.vs[0] := ⟨_, rfl⟩
 rw [<- hy] at x0 x1 x2 HA0 HE0
 have HTOP := Bx.mk (show topB (vxs L0.vs) = (specV y.n && (onlyB y.n.ex && decide (y.n.par.length = 0))) by
  unfold topB; rw [vxs_len, <- HM0.out, zT hone, Bool.true_and, HE0.out])
 obtain ⟨pa, pc, hpq, -⟩ := RqIn.form HA0.out.2.1;obtain ⟨ua, uc, hup, -⟩ := HA0.out.1.form;have hsy := gspec_any y w;have hon := fun W (hW : Below w.heap.size w W) => gonly_q W _ y.n.ex (HA0.out.1.below hW)
 unfold verV at hsy;rw [hup] at x1 hsy hon;rw [hpq] at x2 hsy;obtain ⟨PN, hPN⟩ : ∃ PN, PN = y.n.par.length := ⟨_, rfl⟩
 have HPN := Bx.mk hPN;have hPNb : PN <= 100000 := by rw [hPN]; exact HA0.out.2.2.2.2
 rw [<- hPN] at x2 hsy HTOP;obtain ⟨SY, hSY⟩ : ∃ s, s = specV y.n := ⟨_, rfl⟩
 obtain ⟨OY, hOY⟩ : ∃ s, s = onlyB y.n.ex := ⟨_, rfl⟩
 rw [<- hSY] at hsy HTOP;rw [<- hOY] at hon HTOP;have HON := Bx.mk hon;clear hy hpq hup hSY hOY hon hPN h01;simp only [Nat.zero_mul, Nat.add_zero] at x0 x1 x2 HX
 rw [x0, x1, x2] at HX;generalize bstr y.n.pol = YS at *;have hM1 : (0 : Int) < (M0 : Int) := by omega
 go_enter Tryz.func15, Tryz.ntmps15;go_wp2_with fail
 go_at_call 41;refine hsy.mono ?_;rintro e w1 ⟨rfl, hb1⟩;clear hsy x0 x1 x2 t00;have HB1 := Bx.mk hb1;clear hb1;obtain ⟨x0, x1, x2⟩ := HX.out w1 HB1.out
 cases SY with
 | false =>
  have HF := Bx.mk (show R = false by rw [HRR.out, HTOP.out]; rfl);go_wp2_with fail
  go_ret
  exact ⟨by rw [HF.out]; rfl, HB1.out⟩
 | true =>
 have hon := HON.out w1 HB1.out;go_wp2_with fail
 go_at_call 42;refine hon.mono ?_;rintro e w1' ⟨rfl, rfl⟩;clear hon
 cases OY with
 | false =>
  have HF := Bx.mk (show R = false by rw [HRR.out, HTOP.out]; rfl);go_wp2_with fail
  go_ret
  exact ⟨by rw [HF.out]; rfl, HB1.out⟩
 | true =>
 by_cases hpz : PN = 0
 rotate_left
 ·have HF := Bx.mk (show R = false by rw [HRR.out, HTOP.out, zF hpz]; rfl);have t3 : decide ((PN : Int) > 0) = true := zT (by omega);have t4 : decide (0 < PN) = true := zT (by omega);go_wp2_with fail
  go_ret;exact ⟨by rw [HF.out]; rfl, HB1.out⟩
 have t3 : decide ((PN : Int) > 0) = false := zF (by omega);have HRA := Bx.mk (show R = (List.range (N - 1)).all fun k => lvlB (gxs g)[k]! (gxs g)[k + 1]! by rw [HRR.out, HTOP.out, zT hpz]; rfl);obtain ⟨u, hsl0, hru⟩ := HFR.out;obtain ⟨K, hK⟩ : ∃ K, K = N - 1 := ⟨_, rfl⟩
 have hKl : (g.drop 1).length = K := by rw [List.length_drop, <- HN.out, hK]
 obtain ⟨au, cu, hu, -⟩ := hru.form;rw [hKl] at hu;subst hu
 have hsl : ∀ W, (Instr.slice 23 (.slice (some ⟨b, o, none⟩) N c) (some (.int .i64 1)) none none).run Tryz.prog W = .ok (.slice au K cu) W := fun W => by
  have := hsl0 W;rw [<- HN.out] at this;exact this
 have HUC := Bx.mk (show ∀ W, Below w.heap.size w W -> ∀ k (hk : k < K) (h1 : k + 1 < g.length), ∃ b' o', au = some ⟨b', o', none⟩ /\ W.cell? ⟨b', o' + k, none⟩ = some (g[k + 1]).s.val from fun W hW k hk h1 => by
  have h2 := (ls_cells (n := K) (c := cu) (l := g.drop 1) hru).2 W (fun k hk _ => hW.block k hk) k (by rw [hKl]; exact hk);obtain ⟨b', o', e, -, h⟩ := h2;refine ⟨b', o', e, ?_⟩;rw [h, List.getElem_drop]
  simp only [Nat.add_comm])
 have HKN := Bx.mk hK;have hKb : K <= 100000 := by omega
 have hmm := @run_makeMap Tryz.prog;obtain ⟨mb, hmb⟩ : ∃ mb, mb = w1.heap.size := ⟨_, rfl⟩
 have HM0' := Bx.mk (show OwnF (w1.alloc (.map #[] 0)) kI rdB edB mb 0 (fun _ => none) by rw [hmb]; exact OwnF.made w1 kI rdB edB);have HB2 := Bx.mk (show Below w.heap.size w (w1.alloc (.map #[] 0)) from HB1.out.trans (((Below.refl _ _).alloc (zR _) _).mono HB1.out.size));have HMB := Bx.mk (show w.heap.size <= mb by rw [hmb]; exact HB1.out.size);rw [<- HKN.out] at HRA;clear hsl0 hru hKl hK HFR HRR HTOP HON HPN HA0 HV0 HL0 HX HM0 HE0 HLL0 HX0 hM0b hone;go_wp2_with fail
 rw [<- hmb];clear hmb hmm x0 x1 x2;go_loopw [49] (fun i wr => ∃ k : Nat, k <= K /\ i = .int .i64 k /\ Bx (∀ j, j < k -> lvlB (gxs g)[j]! (gxs g)[j + 1]! = true) /\ Bx (∃ n f, OwnF wr kI rdB edB mb n f) /\ Bx (Below w.heap.size w wr)) (fun i _ => K - (intOf i).toNat)
 case atStart => exact ⟨0, by omega, rfl, ⟨fun j hj => by omega⟩, ⟨_, _, HM0'.out⟩, HB2⟩
 case round =>
  clear HM0' HB2;obtain ⟨k, hk, rfl, hF, hMP, hBw⟩ := hrel;by_cases hlt : k < K
  ·have hk1 : k + 1 < g.length := by have := HN.out; have := HKN.out; omega
   have hk0 : k < g.length := by omega
   have hkN : k < N := by have := HN.out; omega
   obtain ⟨b', o', rfl, l0⟩ := HUC.out wr hBw.out k hlt hk1;have a0 := HGC.out wr hBw.out k hk0;have HVL := Bx.mk (HG.out.lv _ (zM hk1));have HVA := Bx.mk (HG.out.lv _ (zM hk0));have HXL := Bx.mk (HGX.out _ hk1);have HXA := Bx.mk (HGX.out _ hk0);have hll := HLN.out _ (zM hk1);have hla := HLN.out _ (zM hk0);obtain ⟨L, hL⟩ : ∃ L, L = g[k + 1] := ⟨_, rfl⟩
   obtain ⟨A, hA⟩ : ∃ A, A = g[k] := ⟨_, rfl⟩
   rw [<- hL] at l0 HVL HXL hll;rw [<- hA] at a0 HVA HXA hla;clear hL hA hk1 hk0;obtain ⟨la, lc, hls, -⟩ := HVL.out.rd.form;obtain ⟨aa, ac, has, -⟩ := HVA.out.rd.form;rw [hls] at l0 HVL;rw [has] at a0 HVA;obtain ⟨M, hM⟩ : ∃ M, M = L.vs.length := ⟨_, rfl⟩
   have HM := Bx.mk hM;obtain ⟨AN, hAN⟩ : ∃ AN, AN = A.vs.length := ⟨_, rfl⟩
   have HAN := Bx.mk hAN;rw [<- hM] at l0 hll;rw [<- hAN] at a0 hla
   have HLB := Bx.mk (show lvlB (vxs A.vs) (vxs L.vs) = false -> R = false from fun h => by
    rw [HRA.out, List.all_eq_false]
    exact ⟨k, List.mem_range.2 hlt, by rw [HXA.out, HXL.out, h]; simp⟩)
   have HLG := Bx.mk (show lvlB (vxs A.vs) (vxs L.vs) = true -> ∀ j, j < k + 1 -> lvlB (gxs g)[j]! (gxs g)[j + 1]! = true from fun h j hj => by
    by_cases e : j = k
    ·subst e; rw [HXA.out, HXL.out]; exact h
    ·exact hF.out j (by omega))
   obtain ⟨W1, hW1⟩ : ∃ W1, W1 = wr.alloc (.cells #[.slice la M lc] 63) := ⟨_, rfl⟩
   have hb1 : Below wr.heap.size wr W1 := by rw [hW1]; exact (Below.refl _ _).alloc (zR _) _
   obtain ⟨q6, hq6⟩ : ∃ q, q = wr.heap.size := ⟨_, rfl⟩
   have hr6 : W1.heap[q6]? = some (.cells #[.slice la M lc] 63 (0, 0)) := by rw [hW1, hq6]; exact heap_alloc_new _ _
   have ha1 := (hb1.cell (p := ⟨b, o + k, none⟩) (World.block_lt_of_cell? wr _ a0)).trans a0;obtain ⟨nn, ff, hown⟩ := hMP.out;have hmlt : mb < wr.heap.size := hown.lt;obtain ⟨W2, hcl, hown2, hg2⟩ := (hown.below hb1).clearM u_mapIB;have hr6' : W2.heap[q6]? = some (.cells #[.slice la M lc] 63 (0, 0)) := (hg2.block q6 (lt_of_some hr6) (by simp only [ne_eq, zO]; omega)).trans hr6;have HOW2 := Bx.mk hown2;have hbw2 : Below w.heap.size w W2 := (hBw.out.trans (hb1.mono hBw.out.size)).grown hg2 (Nat.le_trans hBw.out.size hb1.size) (fun k hk => by simp only [zO] at hk; have := HMB.out; omega);have HBW2 := Bx.mk hbw2;have HR6 := Bx.mk hr6';have HQ6 := Bx.mk (show mb < q6 by rw [hq6]; exact hmlt);have HVL2 := Bx.mk (show ∀ W, Below w.heap.size w W -> VQ W (.slice la L.vs.length lc) L.vs from fun W hW => HVL.out.below hW);have HVA2 := Bx.mk (show ∀ W, Below w.heap.size w W -> VQ W (.slice aa A.vs.length ac) A.vs from fun W hW => HVA.out.below hW);have m6 := cell_of_row _ _ 0 _ _ _ hr6';simp only [List.getElem?_toArray, List.getElem?_cons_zero] at m6
   clear hown hmlt hown2 hg2 hr6 hr6' hM hAN hls has hb1 hbw2;go_upto_region 10 with fail
   rw [<- hW1, <- hq6];clear hW1 hq6 l0 a0;go_wp2_with fail
   clear HVA m6 hcl ha1;have HOW3 := Bx.mk (show OwnF W2 kI rdB edB mb (0 * 100000) (parJ (vxs L.vs) 0) by rw [parJ_zero, Nat.zero_mul]; exact HOW2.out);clear HOW2;go_loopw [63] (fun i wx => ∃ m : Nat, m <= M /\ i = .int .i64 m /\ Bx (∀ j, j < m -> (gfitB (vxs L.vs)[j]! (vxs A.vs) && ordB (vxs L.vs) j) = true) /\ Bx (OwnF wx kI rdB edB mb (m * 100000) (parJ (vxs L.vs) m)) /\ Bx (Below w.heap.size w wx) /\ Bx (wx.heap[q6]? = some (.cells #[.slice la M lc] 63 (0, 0)))) (fun i _ => M - (intOf i).toNat)
   case atStart => exact ⟨0, by omega, rfl, ⟨fun j hj => by omega⟩, HOW3, HBW2, HR6⟩
   case round =>
    clear HOW3 HBW2 HR6;obtain ⟨m, hm, rfl, hFm, hOm, hBm, hQm⟩ := hrel;by_cases hltm : m < M
    ·have hml : m < L.vs.length := by rw [<- HM.out]; exact hltm
     have hVLx := HVL2.out wr hBm.out;obtain ⟨b2, o2, rfl, -, c0, c1, c2⟩ := hVLx.at3 wr (Below.refl _ _) m hml;have HVX := Bx.mk hVLx;have HXM := Bx.mk (vxs_at L.vs m hml);have HXQ := Bx.mk (HVL.out.at_ L.vs[m] (zM hml));obtain ⟨x, hx⟩ : ∃ x, x = L.vs[m] := ⟨_, rfl⟩
     rw [<- hx] at c0 c1 c2 HXM HXQ;obtain ⟨pa', pc', hpq, -⟩ := RqIn.form HXQ.out.2.1;obtain ⟨ua', uc', hup, -⟩ := HXQ.out.1.form;have HPC := Bx.mk (Ri.cells (hpq ▸ HXQ.out.2.1));obtain ⟨PM, hPM⟩ : ∃ PM, PM = x.n.par.length := ⟨_, rfl⟩
     have HPM := Bx.mk hPM;have hPMb : PM <= 100000 := (by rw [hPM]; exact HXQ.out.2.2.2.2);rw [hup] at c1;rw [hpq, <- hPM] at c2;obtain ⟨W3, hW3⟩ : ∃ W3, W3 = wr.alloc (.cells #[.string (bstr x.n.pol), .slice ua' x.n.ex.length uc', .slice pa' PM pc'] 65) := ⟨_, rfl⟩
     have hb3 : Below wr.heap.size wr W3 := (by rw [hW3]; exact (Below.refl _ _).alloc (zR _) _);obtain ⟨q9, hq9⟩ : ∃ q, q = wr.heap.size := ⟨_, rfl⟩
     have hr9 : W3.heap[q9]? = some (.cells #[.string (bstr x.n.pol), .slice ua' x.n.ex.length uc', .slice pa' PM pc'] 65 (0, 0)) := (by rw [hW3, hq9]; exact heap_alloc_new _ _);have hBW3 := hBm.out.trans (hb3.mono hBm.out.size);have HB3 := Bx.mk hBW3;have hr6 := (hb3.block q6 (lt_of_some hQm.out)).trans hQm.out;have HR6 := Bx.mk hr6;have HOM := Bx.mk (hOm.out.below hb3);have HR9 := Bx.mk hr9;have hfit := fun (e : Ext W3) => gfits_any e.out x _ A.vs (HXQ.out.below (hBW3.trans (e.bel.mono hBW3.size))) (HVA2.out e.out (hBW3.trans (e.bel.mono hBW3.size))) (by rw [<- HAN.out]; exact hla)
     unfold verV at hfit;rw [hup, hpq, <- HPM.out, <- HAN.out] at hfit;have n0 := fun (e : Ext W3) => cell_of_row _ _ 0 _ _ _ ((e.bel.block q9 (lt_of_some hr9)).trans hr9)
     have n1 := fun (e : Ext W3) => cell_of_row _ _ 1 _ _ _ ((e.bel.block q9 (lt_of_some hr9)).trans hr9)
     have n2 := fun (e : Ext W3) => cell_of_row _ _ 2 _ _ _ ((e.bel.block q9 (lt_of_some hr9)).trans hr9)
     have n6 := fun (e : Ext W3) => cell_of_row _ _ 0 _ _ _ ((e.bel.block q6 (lt_of_some hr6)).trans hr6)
     simp only [List.getElem?_toArray, List.getElem?_cons_zero, List.getElem?_cons_succ] at n0 n1 n2 n6
     have HPV := Bx.mk (fun (e : Ext W3) (j : Nat) (hj : j < L.vs.length) => hVLx.at3 e.out (hb3.trans (e.bel.mono hb3.size)) j hj);obtain ⟨F, hF'⟩ : ∃ F, F = gfitB x.n (vxs A.vs) := ⟨_, rfl⟩
     rw [<- hF'] at hfit;have HFF := Bx.mk hF';obtain ⟨O, hO⟩ : ∃ O, O = ordB (vxs L.vs) m := ⟨_, rfl⟩
     have HOO := Bx.mk hO;have hcur : (bstr x.n.pol) = bstr ((vxs L.vs)[m]!).pol := (by rw [HXM.out]);have HCUR := Bx.mk hcur;clear hx hpq hup hPM hr9 hr6 hVLx hBW3 hF' hO hcur hml;go_upto_region 15 with fail
     rw [<- hW3, <- hq9];clear hW3 hq9 c0 c1 c2;go_cut [87] (fun cc wz => cc = .bool (!(F && O)) /\ Below W3.heap.size W3 wz)
     case first =>
      as_aux_lemma =>
       cases F with
       | false =>
        refine wp_region_self (by kernel_rfl) (by kernel_rfl) ?_
        repeat (go_big_quiet_step ((go_at_call 43; exact ext_of (hfit _))))
        refine wpQuiet_nil ?_;rintro _ ⟨e1, rfl⟩;go_wp2_with fail
        go_meet
        exact ⟨rfl, e1.bel⟩
       | true =>
       rcases Nat.eq_zero_or_pos m with hm0 | hm0
       ·have tg : decide ((m : Int) > 0) = false := zF (by omega);have tg2 : decide (0 < m) = false := zF (by omega);have HOT := Bx.mk (show O = true by rw [HOO.out]; unfold ordB; rw [zT hm0]; rfl);refine wp_region_self (by kernel_rfl) (by kernel_rfl) ?_
        repeat (go_big_quiet_step ((go_at_call 43; exact ext_of (hfit _))))
        refine wpQuiet_nil ?_;rintro _ ⟨e1, rfl⟩;go_wp2_with fail
        go_meet;exact ⟨by rw [HOT.out]; rfl, e1.bel⟩
       ·obtain ⟨j, hj⟩ : ∃ j, j = m - 1 := ⟨_, rfl⟩
        have hjl : j < L.vs.length := (by have := HM.out; omega);have wj : IntKind.i64.wrap ((m : Int) - 1) = (j : Int) := (by rw [IntWalk.i64_in _ (by omega)]; omega);have tg : decide ((m : Int) > 0) = true := zT (by omega);have tg2 : decide (0 < m) = true := zT hm0;have hjM : j < M := (by omega);have HXJ := Bx.mk (vxs_at L.vs j hjl)
        have p0 : ∀ e : Ext W3, e.out.cell? ⟨b2, o2 + j * 3, none⟩ = some (.string (bstr (L.vs[j]).n.pol)) := fun e => by
         obtain ⟨b3, o3, he, -, h, -⟩ := HPV.out e j hjl;simp only [zO, Addr.mk.injEq, and_true] at he
         obtain ⟨rfl, rfl⟩ := he;exact h
        have HOT := Bx.mk (show O = decide ((L.vs[j]).n.pol < x.n.pol) by
         rw [HOO.out]; unfold ordB
         rw [zF (show ¬ m = 0 by omega), Bool.false_or, HXM.out, <- hj, HXJ.out])
        have l1 := less_bytes (L.vs[j]).n.pol x.n.pol;have l2 := less_bytes x.n.pol (L.vs[j]).n.pol;have l3 := same_bytes (L.vs[j]).n.pol x.n.pol;obtain ⟨pp, hpp⟩ : ∃ pp, pp = (L.vs[j]).n.pol := ⟨_, rfl⟩
        rw [<- hpp] at p0 HOT l1 l2 l3;have HEQ := Bx.mk (fun (h1 : ¬ pp < x.n.pol) (h2 : ¬ x.n.pol < pp) => eqB h1 h2);clear hpp hj hm0;by_cases hc : pp < x.n.pol
        ·have HO2 := Bx.mk (show O = true by rw [HOT.out]; exact zT hc);rw [zT hc] at l1;rw [zF (List.lt_asymm hc)] at l2;rw [zF (fun e => by rw [e] at hc; exact List.lt_irrefl _ hc)] at l3;generalize bstr pp = X at *;generalize bstr x.n.pol = Y at *;clear hc;refine wp_region_self (by kernel_rfl) (by kernel_rfl) ?_
         repeat (go_big_quiet_step ((go_at_call 43; exact ext_of (hfit _))))
         refine wpQuiet_nil ?_;rintro _ ⟨e1, rfl⟩;go_wp2_with fail
         go_meet;exact ⟨by rw [HO2.out]; rfl, e1.bel⟩
        ·have HO2 := Bx.mk (show O = false by rw [HOT.out]; exact zF hc);rw [zF hc] at l1;by_cases h2 : x.n.pol < pp
         ·rw [zT h2] at l2;rw [zF (fun e => hc (by rw [e] at h2; exact absurd h2 (List.lt_irrefl _)))] at l3;generalize bstr pp = X at *;generalize bstr x.n.pol = Y at *;clear hc h2;refine wp_region_self (by kernel_rfl) (by kernel_rfl) ?_
          repeat (go_big_quiet_step ((go_at_call 43; exact ext_of (hfit _))))
          refine wpQuiet_nil ?_;rintro _ ⟨e1, rfl⟩;go_wp2_with fail
          go_meet;exact ⟨by rw [HO2.out]; rfl, e1.bel⟩
         ·rw [zF h2] at l2;rw [zT (HEQ.out hc h2)] at l3;generalize bstr pp = X at *;generalize bstr x.n.pol = Y at *;clear hc h2;refine wp_region_self (by kernel_rfl) (by kernel_rfl) ?_
          repeat (go_big_quiet_step ((go_at_call 43; exact ext_of (hfit _))))
          refine wpQuiet_nil ?_;rintro _ ⟨e1, rfl⟩;go_wp2_with fail
          go_meet;exact ⟨by rw [HO2.out]; rfl, e1.bel⟩
     case rest =>
     obtain ⟨rfl, hbz⟩ := hcut;clear n0 n1 n2 n6 hfit;have HBZ := Bx.mk (HB3.out.trans (hbz.mono HB3.out.size));have HR6z := Bx.mk ((hbz.block q6 (lt_of_some HR6.out)).trans HR6.out);have HR9z := Bx.mk ((hbz.block q9 (lt_of_some HR9.out)).trans HR9.out);have HOMz := Bx.mk (HOM.out.below hbz);clear hbz HOM HR6 HR9 HPV
     cases hFO : (F && O) with
     | false =>
      have HF0 := Bx.mk (HLB.out (lvl_bad (i := m) (by rw [vxs_len, <- HM.out]; exact hltm) (by rw [HXM.out, <- HFF.out, <- HOO.out]; exact hFO)));clear hFO;go_wp2_with fail
      go_ret
      exact ⟨by rw [HF0.out]; rfl, HBZ.out⟩
     | true =>
     have HGO := Bx.mk (show ∀ j, j < m + 1 -> (gfitB (vxs L.vs)[j]! (vxs A.vs) && ordB (vxs L.vs) j) = true from fun j hj => by
      by_cases e : j = m
      ·subst e; rw [HXM.out, <- HFF.out, <- HOO.out]; exact hFO
      ·exact hFm.out j (by omega))
     have HPI := Bx.mk (show ∀ p ∈ x.n.par, I64 p from fun p hp => by
      have h1 := HGO.out m (by omega);rw [HXM.out, Bool.and_eq_true] at h1;have h2 := fit_in h1.1 p hp;rw [vxs_len, <- HAN.out] at h2
      exact i64_small h2 hla)
     have m9 := cell_of_row _ _ 2 _ _ _ HR9z.out;simp only [List.getElem?_toArray, List.getElem?_cons_zero, List.getElem?_cons_succ] at m9
     have HOP := Bx.mk (show OwnF wc kI rdB edB mb (m * 100000 + 0) (parP (parJ (vxs L.vs) m) x.n.par 0) by rw [parP_zero, Nat.add_zero]; exact HOMz.out);clear hFO HOMz;go_wp2_with fail
     clear m9;go_loopw [91] (fun i wy => ∃ n : Nat, n <= PM /\ i = .int .i64 n /\ Bx (OwnF wy kI rdB edB mb (m * 100000 + n) (parP (parJ (vxs L.vs) m) x.n.par n)) /\ Bx (Below w.heap.size w wy) /\ Bx (wy.heap[q6]? = some (.cells #[.slice (some ⟨b2, o2, none⟩) M lc] 63 (0, 0)))) (fun i _ => PM - (intOf i).toNat)
     case atStart => exact ⟨0, by omega, rfl, HOP, HBZ, HR6z⟩
     case round =>
      clear HOP HBZ HR6z HR9z;obtain ⟨n, hn', rfl, hO, hBy, hQy⟩ := hrel;by_cases hltn : n < PM
      ·have hnl : n < x.n.par.length := by rw [<- HPM.out]; exact hltn
       obtain ⟨b4, o4, rfl, -, d0⟩ := HPC.out wr hBy.out n hnl;have hpi := HPI.out _ (zM hnl);have HPS := Bx.mk (parP_succ (parJ (vxs L.vs) m) x.n.par n hnl);obtain ⟨p, hp⟩ : ∃ p, p = x.n.par[n] := ⟨_, rfl⟩
       rw [<- hp] at d0 hpi HPS;obtain ⟨w4, hrun, hown4, hg4⟩ := hO.out.putI u_mapIB (by unfold maxLen; omega) (k := p) hpi true (.bool true) (rdB_mk _);rw [<- HPS.out] at hown4;have HO4 := Bx.mk hown4;have HQ4 := Bx.mk ((hg4.block q6 (lt_of_some hQy.out) (by simp only [ne_eq, zO]; have := HQ6.out; omega)).trans hQy.out);have HB4 := Bx.mk (hBy.out.grown hg4 hBy.out.size (fun k hk => by simp only [zO] at hk; have := HMB.out; omega));clear hown4 hg4 hp hnl hpi;go_wp2_with fail
       go_roundw
       case rel => exact ⟨n + 1, by omega, by go_num, ⟨by rw [<- Nat.add_assoc]; exact HO4.out⟩, HB4, HQ4⟩
       case measure => simp [intOf]; omega
      ·obtain rfl : n = PM := by omega
       have HOE := Bx.mk (show OwnF wr kI rdB edB mb ((m + 1) * 100000) (parJ (vxs L.vs) (m + 1)) by
        have := hO.out;rw [HPM.out, <- HXM.out, parP_all _ _ (by rw [vxs_len, <- HM.out]; exact hltm)] at this
        exact this.mono (by rw [HXM.out, <- HPM.out]; omega))
       go_wp2_with fail
       go_roundw
       case rel => exact ⟨m + 1, by omega, by go_num, HGO, HOE, hBy, hQy⟩
       case measure => simp [intOf]; omega
    ·obtain rfl : m = M := by omega
     have hlL : (vxs L.vs).length = m := (by rw [vxs_len, <- HM.out]);have hlA : (vxs A.vs).length = AN := (by rw [vxs_len, <- HAN.out]);have m6 := cell_of_row _ _ 0 _ _ _ hQm.out;simp only [List.getElem?_toArray, List.getElem?_cons_zero] at m6
     rcases Nat.eq_zero_or_pos m with e | e
     ·have t5 : ((m : Int) == 0) = true := by simp; omega
      have HF0 := Bx.mk (HLB.out (lvl_nil (by rw [hlL]; exact e)));have e' : (m : Int) = 0 := (by omega);clear hlL hlA;go_wp2_with fail
      go_ret;exact ⟨by rw [HF0.out]; rfl, hBm.out⟩
     ·have t5 : ((m : Int) == 0) = false := by simp; omega
      have hfit := hFm.out;rw [<- hlL] at hfit;have hg := lvl_good hfit (by rw [hlL]; exact e);have hks := lvl_keys hfit;rw [hlA] at hg hks;rw [hlL] at hg hks;have hlen := fun ty => hOm.out.lenI u_mapIB (keysJ AN (parJ (vxs L.vs) m)) (keysJ_nodup _ _) (keysJ_mem hks) ty
      have hle := (keysJ_len AN (parJ (vxs L.vs) m)).1;obtain ⟨KL, hKL⟩ : ∃ KL, KL = (keysJ AN (parJ (vxs L.vs) m)).length := ⟨_, rfl⟩
      rw [<- hKL] at hlen hle hg;have HGD := Bx.mk hg;clear hKL hg hks hfit hlL hlA;by_cases hlt3 : KL < AN
      ·have t6 : decide ((KL : Int) < (AN : Int)) = true := zT (by omega);have HF0 := Bx.mk (HLB.out (by rw [HGD.out]; exact zF (by omega)));go_wp2_with fail
       go_ret;exact ⟨by rw [HF0.out]; rfl, hBm.out⟩
      ·have t6 : decide ((KL : Int) < (AN : Int)) = false := zF (by omega);have HG0 := Bx.mk (HLG.out (by rw [HGD.out]; exact zT (by omega)));go_wp2_with fail
       go_roundw
       case rel => exact ⟨k + 1, by omega, by go_num, HG0, ⟨_, _, hOm.out⟩, hBm⟩
       case measure => simp [intOf]; omega
  ·obtain rfl : k = K := by omega
   have HFT := Bx.mk (show R = true by
    rw [HRA.out, List.all_eq_true];intro j hj
    exact hF.out j (List.mem_range.1 hj))
   go_wp2_with fail
   go_ret;exact ⟨by rw [HFT.out]; rfl, hBw.out⟩
end Go.Proofs.YtmagjdocondmhaaGreat.Tr.Gr
namespace Go.Proofs.YtmagjdocondmhaaGreat.Tr.Gr
open Go Go.RowKit Slc St Mp Tr Rg
attribute [local go_sem] Oper.semAt_some
structure TBI (w : World) (bm : Nat) (f : B -> Option Sg) (g : B -> List Int) : Prop where
 has_ : ∀ p, (f p).isSome = true ↔ g p ≠ []
 own : ∀ p s, f p = some s -> Slc.Own w (bm + 1) 3 1 encI s.val (g p)
 dis : ∀ p p' s s', f p = some s -> f p' = some s' -> p ≠ p' -> ∀ b, s.val.ownBlock = some b -> s'.val.ownBlock ≠ some b
theorem TBI.get {w : World} {bm : Nat} {f : B -> Option Sg} {g : B -> List Int} (h : TBI w bm f g) (p : B) : Slc.Own w (bm + 1) 3 1 encI ((f p).getD nilS).val (g p) := by
 cases hf : f p with
 | some s => exact h.own p s hf
 | none =>
  have : g p = [] := by
   cases hg : g p with
   | nil => rfl
   | cons x l => have := (h.has_ p).2 (by rw [hg]; simp); rw [hf] at this; cases this
  rw [this]; exact Slc.Own.nil _ _
theorem TBI.below {w w' : World} {bm : Nat} {f : B -> Option Sg} {g : B -> List Int} (h : TBI w bm f g) (hb : Below w.heap.size w w') : TBI w' bm f g :=
 ⟨h.has_, fun p s hp => (h.own p s hp).below hb, h.dis⟩
theorem TBI.step {w w1 w2 : World} {bm : Nat} {f : B -> Option Sg} {g : B -> List Int} {p : B} {x : Int} {s' : Sg} (h : TBI w bm f g) (hg : w.grownBy w1 ((f p).getD nilS).val.ownBlock) (ho : Slc.Own w1 (bm + 1) 3 1 encI s'.val (g p ++ [x]))
  (hb : s'.val.ownBlock = ((f p).getD nilS).val.ownBlock \/ ∃ y, s'.val.ownBlock = some y /\ w.heap.size <= y) (hg2 : w1.grownBy w2 (some bm)) : TBI w2 bm (fun j => if j = p then some s' else f j) (fun j => if j = p then g p ++ [x] else g j) := by
 have k2 : ∀ {v : Value} {l : List Int}, Slc.Own w1 (bm + 1) 3 1 encI v l -> Slc.Own w2 (bm + 1) 3 1 encI v l := fun {v l} hv => hv.keep fun k hk hlt => hg2.block k hlt fun e => by
  have := (hv.lt k hk).1;simp only [zO] at e; omega
 have hne : ∀ j s, f j = some s -> j ≠ p -> ∀ b, s.val.ownBlock = some b -> ((f p).getD nilS).val.ownBlock ≠ some b := by
  intro j s hj hjp b hbs
  cases hf : f p with
  | none => simp [nilS, Sg.val, Value.ownBlock]
  | some s0 =>
   exact h.dis j p s s0 hj hf hjp b hbs
 refine ⟨fun j => ?_, fun j s hj => ?_, fun j j' s t hj hj' hne' b hbs => ?_⟩
 ·by_cases e : j = p
  ·subst e; simp
  ·rw [if_neg e, if_neg e]; exact h.has_ j
 ·by_cases e : j = p
  ·subst e;rw [if_pos rfl] at hj |-
   cases hj
   exact k2 ho
  ·rw [if_neg e] at hj |-;refine k2 ((h.own j s hj).keep fun k hk hlt => hg.block k hlt fun e2 => ?_);exact hne j s hj e k hk e2.symm
 ·by_cases e : j = p
  ·subst e;rw [if_pos rfl] at hj
   cases hj
   rw [if_neg fun q => hne' q.symm] at hj';rcases hb with q | ⟨y, q, hy⟩
   ·intro e2;rw [q] at hbs;exact hne j' t hj' (fun q => hne' q.symm) b e2 hbs
   ·intro e2;rw [q] at hbs;simp only [zO] at hbs
    have := ((h.own j' t hj').lt b e2).2;omega
  ·rw [if_neg e] at hj;by_cases e' : j' = p
   ·subst e';rw [if_pos rfl] at hj'
    cases hj'
    rcases hb with q | ⟨y, q, hy⟩
    ·rw [q]; exact hne j s hj e b hbs
    ·rw [q];intro e2;simp only [zO] at e2
     have := ((h.own j s hj).lt b hbs).2;omega
   ·rw [if_neg e'] at hj';exact h.dis j j' s t hj hj' hne' b hbs
theorem own_sgI {w : World} {Bk : Nat} {v : Value} {l : List Int} (h : Slc.Own w Bk 3 1 encI v l) : ∃ s : Sg, v = s.val := by
 rcases h.2 with ⟨rfl, _⟩ | ⟨g, cap, cur, rfl, _⟩
 ·exact ⟨nilS, rfl⟩
 ·exact ⟨⟨some (g, 0), _, cap⟩, rfl⟩
def exJ (l : List Vx) (k : Nat) (p : B) : List Int := (List.range k).flatMap fun i => ((l[i]!).ex.filter fun q => decide (q = p)).map fun _ => (i : Int)
def exI (l : List Vx) (p : B) : List Int := exJ l l.length p
def exQ (l : List Vx) (k j : Nat) (p : B) : List Int := exJ l k p ++ (((l[k]!).ex.take j).filter fun q => decide (q = p)).map fun _ => (k : Int)
theorem exQ_zero (l : List Vx) (k : Nat) : exQ l k 0 = exJ l k := by funext p; simp [exQ]
theorem exQ_all (l : List Vx) (k : Nat) : exQ l k (l[k]!).ex.length = exJ l (k + 1) := by
 funext p
 unfold exQ exJ;rw [List.take_length, List.range_succ, List.flatMap_append];simp
theorem exQ_succ (l : List Vx) (k j : Nat) (e : List B) (he : (l[k]!).ex = e) (hj : j < e.length) (p : B) : exQ l k (j + 1) p = exQ l k j p ++ if decide (e[j] = p) then [(k : Int)] else [] := by
 unfold exQ;rw [he, zA hj, List.filter_append, List.map_append, List.append_assoc];congr 2
 cases h : decide (e[j] = p) <;> simp [List.filter_cons, h]
theorem exJ_zero (l : List Vx) : exJ l 0 = fun _ => [] := by funext p; simp [exJ]
theorem exJ_range (l : List Vx) (k : Nat) (p : B) : ∀ i ∈ exJ l k p, 0 <= i /\ i < (k : Int) := by
 intro i hi;obtain ⟨j, hj, hi⟩ := List.mem_flatMap.1 hi;obtain ⟨-, -, rfl⟩ := List.mem_map.1 hi;have := List.mem_range.1 hj;omega
def allJ (l : List Vx) (k : Nat) : List B := (List.range k).flatMap fun i => (l[i]!).ex
theorem exJ_len (l : List Vx) (k : Nat) (p : B) : (exJ l k p).length <= (allJ l k).length := by
 induction k with
 | zero => simp [exJ, allJ]
 | succ k ih =>
  unfold exJ allJ at *;rw [List.range_succ, List.flatMap_append, List.flatMap_append];simp only [List.flatMap_cons, List.flatMap_nil, List.append_nil, List.length_append, List.length_map]
  have := List.length_filter_le (fun q => decide (q = p)) (l[k]!).ex;omega
theorem exJ_mem (l : List Vx) (k : Nat) (p : B) : exJ l k p ≠ [] ↔ p ∈ allJ l k := by
 unfold exJ allJ;constructor
 ·intro h;obtain ⟨x, hx⟩ := List.exists_mem_of_ne_nil _ h;obtain ⟨i, hi, hx⟩ := List.mem_flatMap.1 hx;obtain ⟨q, hq, -⟩ := List.mem_map.1 hx;rw [List.mem_filter, decide_eq_true_eq] at hq;obtain ⟨hq, rfl⟩ := hq;exact List.mem_flatMap.2 ⟨i, hi, hq⟩
 ·intro h e;obtain ⟨i, hi, hp⟩ := List.mem_flatMap.1 h
  have : (i : Int) ∈ (List.range k).flatMap fun i => ((l[i]!).ex.filter fun q => decide (q = p)).map fun _ => (i : Int) :=
   List.mem_flatMap.2 ⟨i, hi, List.mem_map.2 ⟨p, List.mem_filter.2 ⟨hp, by simp⟩, rfl⟩⟩
  rw [e] at this; cases this
theorem allJ_mono (l : List Vx) {j k : Nat} (h : j <= k) : (allJ l j).length <= (allJ l k).length := by
 induction k with
 | zero =>
  obtain rfl : j = 0 := by omega
  exact zR _
 | succ k ih =>
  by_cases e : j = k + 1
  ·subst e; exact zR _
  ·refine Nat.le_trans (ih (by omega)) ?_;unfold allJ;rw [List.range_succ, List.flatMap_append]; simp
theorem exQ_len (l : List Vx) (k j : Nat) (p : B) : (exQ l k j p).length <= (allJ l k).length + j := by
 unfold exQ;rw [List.length_append, List.length_map];have h1 := exJ_len l k p;have h2 := List.length_filter_le (fun q => decide (q = p)) ((l[k]!).ex.take j);have h3 : ((l[k]!).ex.take j).length <= j := by simp; omega
 omega
theorem allJ_succ (l : List Vx) (k : Nat) : (allJ l (k + 1)).length = (allJ l k).length + (l[k]!).ex.length := by
 unfold allJ;rw [List.range_succ, List.flatMap_append]; simp
def parF (l : List Vx) (ps : List B) (cnt : Bool) (p : B) : List Int :=
 if (cnt && decide (anyP ∈ ps)) && decide (exI l p ≠ []) then exI l p
 else if decide (p ∈ ps) && decide (p ≠ anyP) then (if exI l p ≠ [] then exI l p else if 0 <= fndP l anyP then [fndP l anyP] else [])
 else []
def parG (l : List Vx) (C : Bool) (qs : List B) (p : B) : List Int :=
 if C && decide (exI l p ≠ []) then exI l p
 else if decide (p ∈ qs) && decide (p ≠ anyP) then (if exI l p ≠ [] then exI l p else if 0 <= fndP l anyP then [fndP l anyP] else [])
 else []
theorem parG_any (l : List Vx) (C : Bool) (qs : List B) (p : B) (e : p = anyP) : parG l C (qs ++ [p]) = parG l C qs := by
 funext i
 unfold parG;by_cases q : i = p
 ·subst q; simp [e]
 ·simp [q]
theorem parG_exp (l : List Vx) (C : Bool) (qs : List B) (p : B) (e : p ≠ anyP) (h : exI l p ≠ []) : parG l C (qs ++ [p]) = fun i => if i = p then exI l p else parG l C qs i := by
 funext i
 unfold parG;by_cases q : i = p
 ·subst q; simp [e, h]
 ·simp [q]
theorem parG_star (l : List Vx) (C : Bool) (qs : List B) (p : B) (e : p ≠ anyP) (h : exI l p = []) (hs : 0 <= fndP l anyP) : parG l C (qs ++ [p]) = fun i => if i = p then [fndP l anyP] else parG l C qs i := by
 funext i
 unfold parG;by_cases q : i = p
 ·subst q; simp [e, h, hs]
 ·simp [q]
theorem parG_no (l : List Vx) (C : Bool) (qs : List B) (p : B) (h : exI l p = []) (hs : ¬ 0 <= fndP l anyP) : parG l C (qs ++ [p]) = parG l C qs := by
 funext i
 unfold parG;by_cases q : i = p
 ·subst q; simp [h, hs]
 ·simp [q]
theorem parG_nil (l : List Vx) (C : Bool) : parG l C [] = fun p => if C then exI l p else [] := by
 funext p
 unfold parG
 cases C with
 | false => simp
 | true => by_cases h : exI l p = [] <;> simp [h]
theorem parG_all (l : List Vx) (ps : List B) (cnt : Bool) : parF l ps cnt = parG l (cnt && decide (anyP ∈ ps)) ps := rfl
theorem parF_range (l : List Vx) (ps : List B) (cnt : Bool) (p : B) : ∀ i ∈ parF l ps cnt p, 0 <= i /\ i < (l.length : Int) := by
 intro i hi;unfold parF at hi;split at hi
 ·exact exJ_range l l.length p i hi
 ·split at hi
  ·split at hi
   ·exact exJ_range l l.length p i hi
   ·split at hi
    ·rename_i h
     rw [zS] at hi;subst hi;refine ⟨h, ?_⟩;obtain ⟨k, hk, hk2, -⟩ := idxG_some (t := l) (f := fun n => decide (n.pol = anyP)) h
     show fndP l anyP < _
     unfold fndP;rw [hk2]; omega
    ·cases hi
  ·cases hi
theorem parF_len (l : List Vx) (ps : List B) (cnt : Bool) (p : B) : (parF l ps cnt p).length <= (allJ l l.length).length + 1 := by
 have h := exJ_len l l.length p;unfold parF;split
 ·unfold exI; omega
 ·split
  ·split
   ·unfold exI; omega
   ·split <;> simp
  ·simp
def keyL (l : List Vx) (ps : List B) (cnt : Bool) : List B := setB ((allJ l l.length ++ ps).filter fun p => decide (parF l ps cnt p ≠ []))
theorem keyL_asc (l : List Vx) (ps : List B) (cnt : Bool) : Asc (keyL l ps cnt) := setB_asc _
theorem keyL_mem (l : List Vx) (ps : List B) (cnt : Bool) (p : B) : p ∈ keyL l ps cnt ↔ parF l ps cnt p ≠ [] := by
 unfold keyL;rw [setB_mem, List.mem_filter, decide_eq_true_eq, List.mem_append];refine ⟨fun h => h.2, fun h => ⟨?_, h⟩⟩;by_cases e : exI l p = []
 ·right
  unfold parF at h;rw [e] at h;by_cases q : p ∈ ps
  ·exact q
  ·simp [q] at h
 ·exact .inl ((exJ_mem l l.length p).1 e)
theorem keyL_len (l : List Vx) (ps : List B) (cnt : Bool) : (keyL l ps cnt).length <= (allJ l l.length).length + ps.length := by
 unfold keyL;have h1 := setB_length ((allJ l l.length ++ ps).filter fun p => decide (parF l ps cnt p ≠ []));have h2 := List.length_filter_le (fun p => decide (parF l ps cnt p ≠ [])) (allJ l l.length ++ ps);rw [List.length_append] at h2;omega
theorem keyL_from {l : List Vx} {ps : List B} {cnt : Bool} {p : B} (h : p ∈ keyL l ps cnt) : p ∈ allJ l l.length \/ p ∈ ps := by
 unfold keyL at h;rw [setB_mem, List.mem_filter, List.mem_append] at h;exact h.1
def levP (l : List Vx) (ps : List B) (cnt : Bool) : List Vx := (keyL l ps cnt).map (lvV (parF l ps cnt))
def genterP (g : List (List Vx)) (ps : List B) (cnt : Bool) : List (List Vx) × Int :=
 if gvalidB g then (if g.length = 0 then ([], 0) else (pruneG (g ++ [levP g[g.length - 1]! ps cnt]), 0)) else ([], 7)
def GrP (w : World) (R : List (List Vx) × Int) (e : Ending) (w' : World) : Prop := ∃ v' g', e = .returned (.tuple #[v', .int .i64 R.2]) /\ GO w' w.heap.size v' g' /\ gxs g' = R.1 /\ Below w.heap.size w w'
theorem gvalid_at {g : List (List Vx)} (h : gvalidB g = true) (k : Nat) (hk : k + 1 < g.length) : g[k + 1]! ≠ [] /\ ∀ v ∈ g[k + 1]!, gfitB v g[k]! = true := by
 unfold gvalidB at h;rw [zF (by omega), Bool.false_or, Bool.and_eq_true] at h;have h2 := List.all_eq_true.1 h.2 k (by rw [List.mem_range]; omega);unfold lvlB at h2;simp only [Bool.and_eq_true, List.all_eq_true, decide_eq_true_eq, List.mem_range] at h2
 refine ⟨fun e => h2.2.1 (by rw [e]; rfl), fun v hv => ?_⟩;obtain ⟨i, hi, rfl⟩ := List.getElem_of_mem hv;have := (h2.1 i hi).1;rwa [getElem!_pos _ i hi] at this
theorem gvalid_top {g : List (List Vx)} (h : gvalidB g = true) (hl : 0 < g.length) : ∃ v, g[0]! = [v] /\ v.par = [] /\ onlyB v.ex = true /\ specV v = true := by
 unfold gvalidB at h;rw [zF (by omega), Bool.false_or, Bool.and_eq_true] at h;have h1 := h.1;unfold topB at h1;simp only [Bool.and_eq_true, decide_eq_true_eq] at h1
 obtain ⟨v, hv⟩ := List.length_eq_one_iff.1 h1.1;rw [hv] at h1;refine ⟨v, hv, List.length_eq_zero_iff.1 h1.2.2.2, h1.2.2.1, h1.2.1⟩
theorem gfit_par {v : Vx} {ab : List Vx} (h : gfitB v ab = true) : 0 < v.ex.length /\ 0 < v.par.length /\ ∀ p ∈ v.par, 0 <= p /\ p < (ab.length : Int) := by
 unfold gfitB at h;rw [Bool.and_eq_true] at h;have h1 := h.1;unfold badV at h1;simp only [Bool.not_or, Bool.not_not, Bool.and_eq_true, Bool.not_eq_true', decide_eq_false_iff_not] at h1
 obtain ⟨h1, h2, h3, h4⟩ := h1;refine ⟨?_, ascI_pos h2, par_in h2 h3 h4⟩;unfold ascB at h1
 cases e : v.ex with
 | nil => rw [e] at h1; simp at h1
 | cons a b => simp
theorem GQ.gl {w : World} {v : Value} {g : List Lv} (h : GQ w v g) (hv : gvalidB (gxs g) = true) (hln : ∀ L ∈ g, L.vs.length <= 100000) : GL w v g := by
 refine ⟨h.rd, fun L hL => ?_⟩;obtain ⟨k, hk, rfl⟩ := List.getElem_of_mem hL;have hq := h.lv _ (zM hk);have hxl : ∀ x ∈ (g[k]).vs, x.n ∈ (gxs g)[k]! := fun x hx => by rw [gxs_at g k hk]; exact List.mem_map.2 ⟨x, hx, rfl⟩
 have key : (gxs g)[k]! ≠ [] /\ ∀ n ∈ (gxs g)[k]!, 0 < n.ex.length /\ ∀ p ∈ n.par, -1000000 <= p /\ p <= 1000000 := by
  cases k with
  | zero =>
   obtain ⟨t, ht, hp, ho, -⟩ := gvalid_top hv (by rw [gxs_len]; exact hk);rw [ht];refine ⟨by simp, fun n hn => ?_⟩;rw [zS] at hn;subst hn;refine ⟨?_, fun p hp' => by rw [hp] at hp'; cases hp'⟩
   cases e : n.ex with
   | nil => rw [e] at ho; simp [onlyB] at ho
   | cons a b => simp
  | succ k =>
   obtain ⟨h1, h2⟩ := gvalid_at hv k (by rw [gxs_len]; exact hk);refine ⟨h1, fun n hn => ?_⟩;obtain ⟨a1, -, a3⟩ := gfit_par (h2 n hn);refine ⟨a1, fun p hp => ?_⟩;have := a3 p hp;rw [gxs_at g k (by omega), vxs_len] at this;have := hln _ (zM (show k < g.length by omega));omega
 have hpos : 0 < (g[k]).vs.length := by
  have := key.1;rw [gxs_at g k hk] at this
  cases e : (g[k]).vs with
  | nil => rw [e] at this; exact absurd rfl this
  | cons a b => simp
 refine ⟨hq.rd.rd hpos, fun x hx => ?_⟩;obtain ⟨a1, a2, a3⟩ := hq.at_ x hx;obtain ⟨b1, b2⟩ := key.2 _ (hxl x hx);refine ⟨?_, a2.all, a3.1, a3.2.1, a3.2.2, b2⟩;rcases a1 with ⟨e, -⟩ | a1
 ·rw [e] at b1; simp at b1
 ·exact ⟨a1, a1.lt⟩
theorem GO.snoc {w w' : World} {B : Nat} {v v' : Value} {g : List Lv} {a b : Nat} {xs news : List Value} (h : GO w B v g) (L : Lv) (hL : Slc.Own w B 65 3 encV L.s.val L.vs)
  (hb : ∀ k, L.s.val.ownBlock = some k -> ¬ GB v g k) (ho : ∀ L0 ∈ g, ∀ x ∈ L0.vs, VtIn w (fun k => L.s.val.ownBlock ≠ some k) x) (hx : ∀ x ∈ L.vs, VtIn w (fun k => ¬ GB v g k /\ L.s.val.ownBlock ≠ some k) x)
  (hxs : xs = g.flatMap encL) (hy : news = [L].flatMap encL) (ha : a = g.length) (hbb : b = 1) (h' : Apd w B 63 1 v a b xs news v' w') : GO w' B v' (g ++ [L]) /\ ∀ k, GB v' (g ++ [L]) k -> GB v g k \/ L.s.val.ownBlock = some k \/ w.heap.size <= k := by
 have hown := h.own.apd (m := [L]) hxs hy ha hbb h';have hgr := h'.grown;have hblk := h'.blk
 have hv' : ∀ k, v'.ownBlock = some k -> v.ownBlock = some k \/ k = w.heap.size := fun k hk => by
  rcases hblk with q | q
  ·exact .inl (q ▸ hk)
  ·rw [q] at hk; simp only [zO] at hk; exact .inr hk.symm
 have hkeep : ∀ k, k < w.heap.size -> v.ownBlock ≠ some k -> w'.heap[k]? = w.heap[k]? := fun k hk hn => hgr.block k hk fun e => hn e.symm
 have hlv : ∀ L0 ∈ g, ∀ k, L0.s.val.ownBlock = some k -> k < w.heap.size := fun L0 h0 k hk => ((h.lv L0 h0).lt k hk).2
 have hll : ∀ k, L.s.val.ownBlock = some k -> k < w.heap.size := fun k hk => (hL.lt k hk).2
 have hgb : ∀ k, GB v' (g ++ [L]) k -> GB v g k \/ L.s.val.ownBlock = some k \/ k = w.heap.size := fun k hk => by
  rcases hk with hk | ⟨L0, h0, hk⟩
  ·rcases hv' k hk with q | q
   ·exact .inl (.inl q)
   ·exact .inr (.inr q)
  ·rcases List.mem_append.1 h0 with q | q
   ·exact .inl (.inr ⟨L0, q, hk⟩)
   ·rw [zS] at q; subst q; exact .inr (.inl hk)
 have step : ∀ x, VtIn w (fun k => ¬ GB v g k /\ L.s.val.ownBlock ≠ some k) x -> VtIn w' (fun k => ¬ GB v' (g ++ [L]) k) x := fun x hxx =>
  ((hxx.and hxx.at_).keep hgr.size fun k hk hkl => hkeep k hkl fun e => hk.1.1 (.inl e)).mono fun k _ hk hn => by
   rcases hgb k hn with q | q | q
   ·exact hk.1.1 q
   ·exact hk.1.2 q
   ·have := hk.2; omega
 refine ⟨⟨hown, fun L0 h0 => ?_, ?_, ?_, ?_⟩, fun k hk => ?_⟩
 ·rcases List.mem_append.1 h0 with q | q
  ·exact (h.lv L0 q).keep fun k hk hkl => hkeep k hkl (h.ao L0 q k hk)
  ·rw [zS] at q; subst q
   exact hL.keep fun k hk hkl => hkeep k hkl fun e => hb k hk (.inl e)
 ·intro i j hi hj hij k hk;rw [List.length_append, List.length_singleton] at hi hj;rw [List.getElem_append] at hk |-;by_cases e1 : i < g.length
  ·rw [dif_pos e1] at hk;by_cases e2 : j < g.length
   ·rw [dif_pos e2]; exact h.ap i j e1 e2 hij k hk
   ·rw [dif_neg e2];intro q;simp only [List.getElem_singleton] at q
    exact hb k q (.inr ⟨_, zM e1, hk⟩)
  ·rw [dif_neg e1] at hk;simp only [List.getElem_singleton] at hk
   rw [dif_pos (show j < g.length by omega)];exact fun q => hb k hk (.inr ⟨_, zM _, q⟩)
 ·intro L0 h0 k hk e;rcases hv' k e with q | q
  ·rcases List.mem_append.1 h0 with r | r
   ·exact h.ao L0 r k hk q
   ·rw [zS] at r; subst r; exact hb k hk (.inl q)
  ·rcases List.mem_append.1 h0 with r | r
   ·have := hlv L0 r k hk; omega
   ·rw [zS] at r; subst r; have := hll k hk; omega
 ·intro L0 h0 x hxm;rcases List.mem_append.1 h0 with q | q
  ·exact step x ((h.nm L0 q x hxm).and (ho L0 q x hxm))
  ·rw [zS] at q; subst q; exact step x (hx x hxm)
 ·rcases hgb k hk with q | q | q
  ·exact .inl q
  ·exact .inr (.inl q)
  ·exact .inr (.inr (by omega))
theorem gvalid_pg {g : List (List Vx)} (h : gvalidB g = true) (hl : ∀ l ∈ g, l.length <= 100000) : PG g :=
 ⟨fun k hk v hv p hp => (gfit_par ((gvalid_at h k hk).2 v hv)).2.2 p hp, hl⟩
theorem PG.snoc {g : List (List Vx)} (h : PG g) (l : List Vx) (hg : 0 < g.length) (hl : l.length <= 100000) (hp : ∀ v ∈ l, ∀ p ∈ v.par, 0 <= p /\ p < ((g[g.length - 1]!).length : Int)) : PG (g ++ [l]) := by
 constructor
 ·intro k hk v hv p hpp;rw [List.length_append, List.length_singleton] at hk;by_cases e : k + 1 < g.length
  ·rw [getElem!_pos _ (k + 1) (by simp; omega), List.getElem_append_left e] at hv;rw [getElem!_pos _ k (by simp; omega), List.getElem_append_left (by omega)];have := h.par k e v (by rw [getElem!_pos g (k + 1) e]; exact hv) p hpp;rwa [getElem!_pos g k (by omega)] at this
  ·have e' : k + 1 = g.length := by omega
   rw [getElem!_pos _ (k + 1) (by simp; omega), List.getElem_append_right (by omega)] at hv;simp only [List.getElem_singleton] at hv
   rw [getElem!_pos _ k (by simp; omega), List.getElem_append_left (by omega)];have := hp v hv p hpp;rw [show g.length - 1 = k by omega, getElem!_pos g k (by omega)] at this;exact this
 ·intro m hm;rcases List.mem_append.1 hm with q | q
  ·exact h.len m q
  ·rw [zS] at q; subst q; exact hl
theorem enter_pg {g : List (List Vx)} (h : gvalidB g = true) (hg : 0 < g.length) (hl : ∀ l ∈ g, l.length <= 100000) (ps : List B) (cnt : Bool) (hk : (keyL g[g.length - 1]! ps cnt).length <= 100000) : PG (g ++ [levP g[g.length - 1]! ps cnt]) := by
 refine (gvalid_pg h hl).snoc _ hg (by unfold levP; rw [List.length_map]; exact hk) fun v hv p hp => ?_
 unfold levP at hv;obtain ⟨q, -, rfl⟩ := List.mem_map.1 hv;exact parF_range _ _ _ _ p hp
end Go.Proofs.YtmagjdocondmhaaGreat.Tr.Gr
