/- packed -/
import Derived.Test.YtmagjdocondmhaaGreatPkRe20
set_option linter.unusedVariables false
set_option linter.unusedSimpArgs false
set_option maxRecDepth 100000
set_option maxHeartbeats 64000000
namespace Go.Proofs.YtmagjdocondmhaaGreat.Tr.Gr
open Go Go.RowKit Slc St Mp Tr Rg
attribute [local go_sem] Oper.semAt_some
section
variable {α : Type} {enc : α -> List Value} {z : Nat} {w : World} {l : List α} {P : Program} {T : TypeId}
theorem upto_at (E : Enc z enc) {b o n c : Nat} (h : Rd w enc (.slice (some ⟨b, o, none⟩) n c) l) (hT : P.underlying T = some (.slice (P.elem T))) (hz : ∀ W, (sizeOf (P.elem T)).run P W = .ok z W) (k : Nat) (hk : k <= l.length) :
  (∀ W, (Instr.slice T (.slice (some ⟨b, o, none⟩) n c) none (some (.int .i64 k)) none).run P W = .ok (.slice (some ⟨b, o, none⟩) k c) W) /\ Rd w enc (.slice (some ⟨b, o, none⟩) k c) (l.take k) := by
 rcases h with ⟨h0, -⟩ | ⟨b', o', c', hv, hlt, hc, hcell⟩
 ·simp at h0
 ·simp only [Value.slice.injEq, zO, Addr.mk.injEq, and_true] at hv
  obtain ⟨⟨rfl, rfl⟩, rfl, rfl⟩ := hv;have e : (l.take k).length = k := by rw [List.length_take]; omega
  refine ⟨fun W => ?_, .inr ⟨b, o, c, by rw [e], hlt, by omega, fun j u hj => ?_⟩⟩
  ·rw [run_slice_h W _ _ _ _ hT _ _ (by omega) (by omega)];simp [hz, sliced, Result.andThen, add_at]
  ·rw [flat_take E] at hj;refine hcell j u ?_
   have hjk : j < k * z := by
    rcases Nat.lt_or_ge j (k * z) with q | q
    ·exact q
    ·rw [List.getElem?_take_eq_none q] at hj; cases hj
   rwa [List.getElem?_take_of_lt hjk] at hj
end
structure CSG (w : World) (v : Value) (zs : List Int) (g : Nat) (wr w' : World) (ov : Value) (l : List Lv) : Prop where
 tr : GO w' wr.heap.size ov l
 nq : NQ (g + 1) l
 dk : Deck w v zs w' g
 gr : wr.grownBy w' (some g)
theorem CSG.grow {w wr w' w'' : World} {v ov : Value} {zs : List Int} {g : Nat} {l : List Lv} (h : CSG w v zs g wr w' ov l) (hgl : g < wr.heap.size) (hg : w'.grownBy w'' (some g)) (hd : Deck w v zs w'' g) : CSG w v zs g wr w'' ov l :=
 ⟨h.tr.keep hg.size fun k hk hkk => hg.block k hk fun e => by
  simp only [zO] at e
  rcases hkk with q | ⟨L, hL, x, hx, q⟩
  ·have := (h.tr.lt q).1; omega
  ·have := h.nq L hL x hx k q; omega, h.nq, hd, h.gr.trans hg⟩
theorem CSG.below {w wr w' w'' : World} {v ov : Value} {zs : List Int} {g : Nat} {l : List Lv} (h : CSG w v zs g wr w' ov l) (hb : Below w'.heap.size w' w'') : CSG w v zs g wr w'' ov l :=
 ⟨h.tr.below hb, h.nq, h.dk.below hb, h.gr.trans (grown_below hb)⟩
def BDG (l : List Lv) : Prop := l.length <= 5 /\ ∀ L ∈ l, L.vs.length <= 2201 /\ ∀ x ∈ L.vs, x.n.ex.length <= 5
theorem BDG.set {l : List Lv} (h : BDG l) (i : Nat) {L' : Lv} (hL : L'.vs.length <= 2201 /\ ∀ x ∈ L'.vs, x.n.ex.length <= 5) : BDG (l.set i L') := ⟨by rw [zL]; exact h.1, fun L hm => by
 rcases List.mem_or_eq_of_mem_set hm with q | rfl
 ·exact h.2 L q
 ·exact hL⟩
theorem BDG.of_gi {l : List Lv} (h : GI (gxs l) 4 2200) : BDG l := ⟨(h.lens).1, fun L hL => by
 have h1 := h.lev (vxs L.vs) (List.mem_map.2 ⟨L, hL, rfl⟩);rw [vxs_len] at h1
 exact ⟨by omega, fun x hx => h1.2 _ (List.mem_map.2 ⟨x, hx, rfl⟩)⟩⟩
def ChgP (w : World) (v : Value) (zs : List Int) (g : Nat) (wr : World) (tv : Value) (l : List Lv) (e : Ending) (w' : World) : Prop :=
 ∃ (tv' : Value) (l' : List Lv), e = .returned tv' /\ GQ w' tv' l' /\ TDG w v zs g w' tv l /\ wr.grownBy w' (some g) /\ BDG l'
theorem valid_ne {G : List (List Vx)} (h : gvalidB G = true) {k : Nat} (hk : k < G.length) : 0 < (G[k]!).length := by
 cases k with
 | zero =>
  obtain ⟨v, hv, -⟩ := gvalid_top h hk
  rw [hv]; simp
 | succ k => exact List.length_pos_iff.2 (gvalid_at h k hk).1
theorem CSG.setV {w wr w' : World} {v ov : Value} {zs : List Int} {g : Nat} {l : List Lv} (h : CSG w v zs g wr w' ov l) (hgl : g < wr.heap.size) (hw0 : w.heap.size <= wr.heap.size) (i : Nat) (hi : i < l.length) (k : Nat) (hk : k < (l[i]).vs.length) (o : Nat) (ho : o < 3) (u : Value) (x' : Vt) (he : encV x' = (encV ((l[i]).vs[k])).set o u) (hx : VtIn w' (fun b => ¬ GB ov l b) x') :
  ∃ nb cap, (l[i]).s.val = .slice (some ⟨nb, 0, none⟩) (l[i]).vs.length cap /\ (∀ j, w'.frozen? ⟨nb, j, none⟩ = false) /\ GQ (w'.setCell ⟨nb, k * 3 + o, none⟩ u) ov (l.set i ⟨(l[i]).vs.set k x', (l[i]).s⟩) /\ Deck w v zs (w'.setCell ⟨nb, k * 3 + o, none⟩ u) g /\ wr.grownBy (w'.setCell ⟨nb, k * 3 + o, none⟩ u) (some g) := by
 obtain ⟨nb, cap, hv, hlt, hfr, hgo, hgr⟩ := h.tr.setV i hi k hk o ho u x' he hx;have hnb : wr.heap.size <= nb := (h.tr.lt (k := nb) (.inr ⟨_, zM hi, by rw [hv]; rfl⟩)).1;have hbb : Below wr.heap.size w' (w'.setCell ⟨nb, k * 3 + o, none⟩ u) := (show Below wr.heap.size w' w' from ⟨rfl, rfl, rfl, zR _, fun _ _ => rfl⟩).setCell hnb u;refine ⟨nb, cap, hv, hfr, hgo.gl.q, deck_keep h.dk hbb hgl hw0, ?_⟩;exact ⟨hbb.os.trans h.gr.os, hbb.tape.trans h.gr.tape, hbb.output.trans h.gr.output, Nat.le_trans h.gr.size hbb.size, fun i hi hne => (hbb.block i hi).trans (h.gr.block i hi hne)⟩
def ChA (ob i lb NV lc g : Nat) : Nat -> Value -> World -> Prop
 | 0, x, _ => x = .pointer (some ⟨ob, i, none⟩)
 | 1, x, _ => x = .pointer (some ⟨ob, i, none⟩)
 | 2, x, _ => x = .pointer (some ⟨ob, i, none⟩)
 | 3, x, _ => x = .slice (some ⟨lb, 0, none⟩) NV lc
 | 4, x, _ => x = .pointer (some ⟨g, 0, none⟩)
 | 5, x, _ => x = .pointer (some ⟨ob, i, none⟩)
 | 6, x, _ => x = .pointer (some ⟨ob, i, none⟩)
 | 7, x, _ => x = .pointer (some ⟨ob, i, none⟩)
 | 8, x, _ => x = .slice (some ⟨lb, 0, none⟩) NV lc
 | 9, x, _ => x = .int .i64 NV
 | 10, x, _ => ∃ r : Nat, x = .int .i64 r /\ r < NV
 | _, _, _ => True
theorem ChA.stable (ob i lb NV lc g : Nat) (j : Nat) (x : Value) (w w' : World) (h : ChA ob i lb NV lc g j x w) (hb : w.grownBy w' (some g)) : ChA ob i lb NV lc g j x w' := by
 match j with
 | 0 | 1 | 2 | 3 | 4 | 5 | 6 | 7 | 8 | 9 | 10 => exact h
 | _ + 11 => exact trivial
def ChB (ob i lb NV N1 lc : Nat) (u : Value) : Nat -> Value -> World -> Prop
 | 0, x, _ => x = .pointer (some ⟨ob, i, none⟩)
 | 1, x, _ => x = .pointer (some ⟨ob, i, none⟩)
 | 2, x, _ => x = .pointer (some ⟨ob, i, none⟩)
 | 3, x, _ => x = .pointer (some ⟨ob, i, none⟩)
 | 4, x, _ => x = .slice (some ⟨lb, 0, none⟩) NV lc
 | 5, x, _ => x = .pointer (some ⟨ob, i, none⟩)
 | 6, x, _ => x = .pointer (some ⟨ob, i, none⟩)
 | 7, x, _ => x = .pointer (some ⟨ob, i, none⟩)
 | 8, x, _ => x = .slice (some ⟨lb, 0, none⟩) NV lc
 | 9, x, _ => x = .int .i64 NV
 | 10, x, _ => x = .int .i64 N1
 | 11, x, _ => x = u
 | 12, x, _ => x = .pointer (some ⟨ob, i, none⟩)
 | 13, x, _ => x = .pointer (some ⟨ob, i, none⟩)
 | _, _, _ => True
theorem ChB.stable (ob i lb NV N1 lc : Nat) (u : Value) (j : Nat) (x : Value) (w w' : World) (h : ChB ob i lb NV N1 lc u j x w) (hb : Below w.heap.size w w') : ChB ob i lb NV N1 lc u j x w' := by
 match j with
 | 0 | 1 | 2 | 3 | 4 | 5 | 6 | 7 | 8 | 9 | 10 | 11 | 12 | 13 => exact h
 | _ + 14 => exact trivial
def ChC (W0 : World) (ob i lb NV lc g : Nat) (vs : List Vt) (q12 : List B) : Nat -> Value -> World -> Prop
 | 0, x, _ => x = .pointer (some ⟨ob, i, none⟩)
 | 1, x, _ => x = .pointer (some ⟨ob, i, none⟩)
 | 2, x, _ => x = .pointer (some ⟨ob, i, none⟩)
 | 3, x, _ => x = .pointer (some ⟨ob, i, none⟩)
 | 4, x, _ => x = .slice (some ⟨lb, 0, none⟩) NV lc
 | 5, x, _ => x = .pointer (some ⟨g, 0, none⟩)
 | 6, x, _ => ∃ r : Nat, x = .int .i64 r /\ r < 8
 | 7, x, _ => ∃ p : B, x = .string (bstr p) /\ p.length <= 100
 | 8, x, w => ∃ s : Sl, x = .slice s.ad s.n s.c /\ Slc.Own w W0.heap.size 9 1 encS s.val q12
 | 9, x, w => ∃ s : Sl, x = .slice s.ad s.n s.c /\ Slc.Own w W0.heap.size 3 1 encI s.val [0]
 | 10, x, w => ∃ (p : B) (s q : Sl), x = .agg #[.string (bstr p), .slice s.ad s.n s.c, .slice q.ad q.n q.c] /\ p.length <= 100 /\ Slc.Own w W0.heap.size 9 1 encS s.val q12 /\ Slc.Own w W0.heap.size 3 1 encI q.val [0]
 | 11, x, w => ∃ (b : Nat) (p : B) (s q : Sl), x = .slice (some ⟨b, 0, none⟩) 1 1 /\ W0.heap.size <= b /\ w.heap[b]? = some (.cells #[.string (bstr p), .slice s.ad s.n s.c, .slice q.ad q.n q.c] 65 (0, 0)) /\ p.length <= 100 /\ Slc.Own w W0.heap.size 9 1 encS s.val q12 /\ Slc.Own w W0.heap.size 3 1 encI q.val [0]
 | 12, x, w => ∃ (t : Sl) (p : B) (s q : Sl) (B0 : Nat), x = .slice t.ad t.n t.c /\ p.length <= 100 /\ Slc.Own w W0.heap.size 9 1 encS s.val q12 /\ Slc.Own w W0.heap.size 3 1 encI q.val [0] /\ Slc.Own w B0 65 3 encV t.val (vs ++ [⟨⟨p, q12, [0]⟩, s, q⟩]) /\ (t.val.ownBlock = some lb \/ ∃ z, t.val.ownBlock = some z /\ W0.heap.size <= z)
 | 13, x, _ => x = .pointer (some ⟨ob, i, none⟩)
 | 14, x, _ => x = .pointer (some ⟨ob, i, none⟩)
 | _, _, _ => True
theorem ChC.stable (W0 : World) (ob i lb NV lc g : Nat) (vs : List Vt) (q12 : List B) (j : Nat) (x : Value) (w w' : World) (h : ChC W0 ob i lb NV lc g vs q12 j x w) (hb : Below w.heap.size w w') : ChC W0 ob i lb NV lc g vs q12 j x w' := by
 match j with
 | 0 | 1 | 2 | 3 | 4 | 5 | 6 | 7 | 13 | 14 => exact h
 | 8 => obtain ⟨s, h1, h2⟩ := h; exact ⟨s, h1, h2.below hb⟩
 | 9 => obtain ⟨s, h1, h2⟩ := h; exact ⟨s, h1, h2.below hb⟩
 | 10 => obtain ⟨p, s, q, h1, h2, h3, h4⟩ := h; exact ⟨p, s, q, h1, h2, h3.below hb, h4.below hb⟩
 | 11 => obtain ⟨b, p, s, q, h1, h0, h5, h2, h3, h4⟩ := h; exact ⟨b, p, s, q, h1, h0, (hb.block b (lt_of_some h5)).trans h5, h2, h3.below hb, h4.below hb⟩
 | 12 => obtain ⟨t, p, s, q, B0, h1, h2, h3, h4, h5, h6⟩ := h; exact ⟨t, p, s, q, B0, h1, h2, h3.below hb, h4.below hb, h5.below hb, h6⟩
 | _ + 15 => exact trivial
theorem ChC.big (W0 : World) (ob i lb NV lc g : Nat) (vs : List Vt) (q12 : List B) (j : Nat) (x : Value) (w w' : World) (h : ChC W0 ob i lb NV lc g vs q12 j x w) (hj : j ≠ 12) (z : Nat) (hz : z < W0.heap.size) (hb : w.grownBy w' (some z)) : ChC W0 ob i lb NV lc g vs q12 j x w' := by
 have kp : ∀ {α : Type} {t : TypeId} {n : Nat} {enc : α -> List Value} {v : Value} {l : List α}, Slc.Own w W0.heap.size t n enc v l -> Slc.Own w' W0.heap.size t n enc v l := fun {_ _ _ _ _ _} ho => ho.keep fun k hk hkl => hb.block k hkl fun e => by
  simp only [zO] at e
  have := (ho.lt k hk).1; omega
 match j with
 | 0 | 1 | 2 | 3 | 4 | 5 | 6 | 7 | 13 | 14 => exact h
 | 8 => obtain ⟨s, h1, h2⟩ := h; exact ⟨s, h1, kp h2⟩
 | 9 => obtain ⟨s, h1, h2⟩ := h; exact ⟨s, h1, kp h2⟩
 | 10 => obtain ⟨p, s, q, h1, h2, h3, h4⟩ := h; exact ⟨p, s, q, h1, h2, kp h3, kp h4⟩
 | 11 => obtain ⟨b, p, s, q, h1, h0, h5, h2, h3, h4⟩ := h; exact ⟨b, p, s, q, h1, h0, (hb.block b (lt_of_some h5) (fun e => by simp only [zO] at e; omega)).trans h5, h2, kp h3, kp h4⟩
 | 12 => exact absurd rfl hj
 | _ + 15 => exact trivial
theorem gchanged_any (w : World) (v : Value) (zs : List Int) (wq : World) (g : Nat) (tv : Value) (l : List Lv) (h : TDG w v zs g wq tv l) (hI : GI (gxs l) 4 2200) :
  Calls Tryz.prog 14 #[.pointer (some ⟨g, 0, none⟩), tv] wq fun e w' => ChgP w v zs g wq tv l e w' := by
 have mixed : Tryz.prog.follows .mixedOrders = true := by kernel_rfl
 obtain ⟨i0, hi0, hz0, hz1, hz2⟩ := info_parts info_ver;obtain ⟨il, hil, hil0, hil1, hil2⟩ := info_parts info_lev;obtain ⟨ib, hib, hib0, hib1, hib2⟩ := info_parts info_int;obtain ⟨ad, c, rfl, -⟩ := h.tr.own.rd.form;have HTD := Bx.mk h;have HI := Bx.mk hI;have HBD := Bx.mk (BDG.of_gi hI);have HGL := Bx.mk h.dk.lt;have HW0 := Bx.mk h.bel.size;have HC := Bx.mk (ls_cells h.tr.own.rd).2;obtain ⟨N, hN⟩ : ∃ N, N = l.length := ⟨_, rfl⟩
 have HN := Bx.mk hN;have hN5 : N <= 5 := by rw [hN]; exact HBD.out.1
 obtain ⟨tv, htv⟩ : ∃ tv, tv = Value.slice ad l.length c := ⟨_, rfl⟩
 rw [<- htv] at HTD |-;have htv' : tv = .slice ad N c := by rw [htv, hN]
 obtain ⟨Q, hQ⟩ : ∃ Q, Q = fun (e : Ending) (w' : World) => ChgP w v zs g wq tv l e w' := ⟨_, rfl⟩
 have HQ := Bx.mk hQ;rw [<- hQ, htv'];have HB0 := Bx.mk (Below.refl wq.heap.size wq);clear h hI hN htv htv' hQ;go_enter Tryz.func14, Tryz.ntmps14;go_wp2_with fail
 go_loopw [5, 6] (fun ov iv wz => ∃ (k : Nat) (oc : List Lv), k <= N /\ iv = .int .i64 k /\ Bx (GO wz wq.heap.size ov oc) /\ Bx (oc.length = k /\ ∀ q (h : q < oc.length) (h' : q < l.length), (oc[q]).vs = (l[q]).vs) /\ Bx (Below wq.heap.size wq wz)) (fun _ iv _ => N - (intOf iv).toNat)
 case atStart => exact ⟨0, [], by omega, rfl, ⟨GO.nil _ _⟩, ⟨rfl, fun q h => by simp at h⟩, HB0⟩
 case round =>
  clear HB0;obtain ⟨k, oc, hk, rfl, hGO, hE, hB⟩ := hrel;obtain ⟨oa, occ, hov, -⟩ := hGO.out.own.rd.form;rw [hE.out.1] at hov;subst hov;by_cases hlt : k < N
  ·have HKL := Bx.mk (show k < l.length by rw [<- HN.out]; exact hlt);obtain ⟨tb, tof, rfl, -, c0⟩ := HC.out wr (fun q hq _ => hB.out.block q hq) k HKL.out;obtain ⟨L, hL⟩ : ∃ L, L = l[k]'HKL.out := ⟨_, rfl⟩
   have HL := Bx.mk hL;have HLO := Bx.mk (HTD.out.tr.lv _ (zM HKL.out));have HLX := Bx.mk (HTD.out.tr.gl.lv _ (zM HKL.out)).at_;have hbd := (HBD.out.2 _ (zM HKL.out)).1;rw [<- hL] at c0 HLO hbd HLX;obtain ⟨la, lc, hls, -⟩ := HLO.out.rd.form;rw [hls] at c0 HLO;obtain ⟨NL, hNL⟩ : ∃ NL, NL = L.vs.length := ⟨_, rfl⟩
   have HNL := Bx.mk hNL;rw [<- hNL] at c0 hbd HLO;have hr3 : (wr.alloc (.cells #[] 65)).heap[wr.heap.size]? = some (.cells #[] 65 (0, 0)) := heap_alloc_new _ _;have hb3 : Below wr.heap.size wr (wr.alloc (.cells #[] 65)) := (Below.refl _ _).alloc (zR _) _;have HB3 := Bx.mk hb3;have c1 := (hb3.cell (p := ⟨tb, tof + k, none⟩) (World.block_lt_of_cell? wr _ c0)).trans c0
   have HSRC := Bx.mk (show SrcV (wr.alloc (.cells #[] 65)) 3 (.slice la NL lc) NL (L.vs.flatMap encV) by
    have := (HLO.out.rd.below (hB.out.trans (hb3.mono hB.out.size))).src encV_ok
    rwa [<- HNL.out] at this)
   have hm1 : NL <= maxLen := by unfold maxLen; omega
   have hm2 : NL * 64 <= 140737488355328 := by omega
   have hz3 : wr.heap.size <= (wr.alloc (.cells #[] 65)).heap.size := hb3.size;have HK5 := Bx.mk (show k <= 5 by omega);clear hL hls hNL hb3;go_wp2_with (at_builtin; refine wpList_append_fresh rfl _ _ _ rfl wr.heap.size 65 i0 _ 3 64 und_vers hi0 hz0 hz1 hz2 rfl (by decide) wr.heap.size rfl hr3 (zR _) hz3 _ NL (L.vs.flatMap encV) rfl HSRC.out hm1 hm2 ?_)
   intro v4 w4 hown hb4 _;have hol := (Own.of (l := L.vs) hown HNL.out rfl);obtain ⟨s4, hs4⟩ := sl_of hol;subst hs4;have hb04 : Below wr.heap.size wr w4 := HB3.out.trans (hb4.mono (by first | omega | simp));have HB4 := Bx.mk (hB.out.trans (hb04.mono hB.out.size));have HGO4 := Bx.mk (hGO.out.below hb04);have HOL := Bx.mk hol;have HNB := Bx.mk (show ∀ j, (Sl.val s4).ownBlock = some j -> wr.heap.size <= j from fun j hj => (hol.lt j hj).1);have HLTG := Bx.mk (fun j => hGO.out.lt (k := j));have HSZ := Bx.mk hB.out.size;simp only [Sl.val]
   clear hown hb4 hol hb04 hr3 hm1 hm2 hz3 HSRC c0 c1;have hba : Below w4.heap.size w4 (w4.alloc (.cells #[.slice s4.ad s4.n s4.c] 63)) := (Below.refl _ _).alloc (zR _) _;have HBA := Bx.mk hba;have HSRC := Bx.mk (show SrcV (w4.alloc (.cells #[.slice s4.ad s4.n s4.c] 63)) 1 (.slice (some ⟨w4.heap.size, 0, none⟩) 1 1) 1 ([(⟨L.vs, s4⟩ : Lv)].flatMap encL) from src_new encL_ok (heap_alloc_new _ _));have HGA := Bx.mk (HGO4.out.below hba)
   have HOWR := Bx.mk (show World.ownsRow (w4.alloc (.cells #[.slice s4.ad s4.n s4.c] 63)) wq.heap.size 63 1 (.slice oa k occ) k (oc.flatMap encL) by
    have := HGA.out.own;unfold Slc.Own at this
    rwa [hE.out.1] at this)
   have hm1 : k + 1 <= maxLen := by have := HK5.out; unfold maxLen; omega
   have hm2 : (k + 1) * 24 <= 140737488355328 := by have := HK5.out; omega
   have hbz : wq.heap.size <= (w4.alloc (.cells #[.slice s4.ad s4.n s4.c] 63)).heap.size := Nat.le_trans HB4.out.size hba.size;have HBZ := Bx.mk hbz;clear hba;go_wp2_with (at_builtin; refine wpList_append_any rfl _ _ _ rfl wq.heap.size 63 il _ 1 24 und_levs hil hil0 hil1 hil2 rfl (by decide) _ k (oc.flatMap encL) rfl HOWR.out _ 1 ([(⟨L.vs, s4⟩ : Lv)].flatMap encL) rfl HSRC.out hm1 hm2 hbz ?_)
   intro v9 w9 hapd;have hold : ∀ L0 ∈ l, ∀ x ∈ L0.vs, VtIn (w4.alloc (.cells #[.slice s4.ad s4.n s4.c] 63)) (fun j => j < wq.heap.size) x := fun L0 h0 x hx => VtIn.below ((VtIn.below ((HTD.out.tr.gl.lv L0 h0).at_ x hx) HB4.out)) HBA.out
   have hgs := HGA.out.snoc ⟨L.vs, s4⟩ ((HOL.out.below HBA.out).mono HSZ.out) (fun j hj hn => by have h1 := HNB.out j hj; have h2 := (HLTG.out j hn).2; omega)
    (fun L0 h0 x hx => by
     obtain ⟨q, hq, rfl⟩ := List.getElem_of_mem h0;rw [hE.out.2 q hq (by have := hE.out.1; have := HKL.out; omega)] at hx
     exact (hold _ (zM _) x hx).mono fun j _ hj e => by have := HNB.out j e; have := HSZ.out; omega)
    (fun x hx => by
     have hx' : x ∈ (l[k]'HKL.out).vs := by rw [<- HL.out]; exact hx
     exact (hold _ (zM _) x hx').mono fun j _ hj => ⟨fun hn => by have h2 := (HLTG.out j hn).1; omega, fun e => by have := HNB.out j e; have := HSZ.out; omega⟩)
    rfl rfl hE.out.1.symm rfl hapd
   have HGO9 := Bx.mk hgs.1
   have HE9 := Bx.mk (show (oc ++ [(⟨L.vs, s4⟩ : Lv)]).length = k + 1 /\ ∀ q (h : q < (oc ++ [(⟨L.vs, s4⟩ : Lv)]).length) (h' : q < l.length), ((oc ++ [(⟨L.vs, s4⟩ : Lv)])[q]).vs = (l[q]).vs from by
    refine ⟨by rw [List.length_append, hE.out.1]; rfl, fun q h1 h2 => ?_⟩;rw [List.getElem_append];split
    ·rename_i h3; exact hE.out.2 q h3 h2
    ·rename_i h3
     rw [List.length_append, hE.out.1, List.length_singleton] at h1;rw [hE.out.1] at h3;have : q = k := (by omega);subst this;simp only [List.getElem_singleton]
     rw [HL.out])
   have HB9 := Bx.mk (show Below wq.heap.size wq w9 from (HB4.out.trans (HBA.out.mono HB4.out.size)).grown hapd.grown HBZ.out fun q hq => (HGA.out.own.lt q hq).1);clear hapd hgs hm1 hm2 hbz hold;go_wp2_with fail
   go_roundw
   case rel => exact ⟨k + 1, oc ++ [(⟨L.vs, s4⟩ : Lv)], by omega, by go_num, HGO9, HE9, HB9⟩
   case measure => simp [intOf]; omega
  ·obtain rfl : k = N := by omega
   have HCS := Bx.mk (show CSG w v zs g wq wr (.slice oa k occ) oc from ⟨hGO.out, fun L hL x hx => by
    obtain ⟨q, hq, rfl⟩ := List.getElem_of_mem hL;rw [hE.out.2 q hq (by rw [<- HN.out, <- hE.out.1]; exact hq)] at hx
    exact HTD.out.nq _ (zM _) x hx, HTD.out.dk.below hB.out, grown_below hB.out⟩)
   have HBO := Bx.mk (show BDG oc from ⟨by rw [hE.out.1]; exact hN5, fun L hL => by
    obtain ⟨q, hq, rfl⟩ := List.getElem_of_mem hL;rw [hE.out.2 q hq (by rw [<- HN.out, <- hE.out.1]; exact hq)]
    exact HBD.out.2 _ (zM _)⟩)
   have GI_all := Bx.mk (show ∀ L ∈ oc, L.vs.length <= 2200 from fun L hL => by
    obtain ⟨q, hq, rfl⟩ := List.getElem_of_mem hL;have hql : q < l.length := (by rw [<- HN.out, <- hE.out.1]; exact hq);rw [hE.out.2 q hq hql]
    exact ((HI.out.lens).2 _ (zM hql)).1)
   have HOL := Bx.mk hE.out.1
   have HNE := Bx.mk (show ∀ q (h : q < oc.length), 0 < (oc[q]).vs.length from fun q h => by
    have hq : q < l.length := (by rw [<- HN.out, <- hE.out.1]; exact h);rw [hE.out.2 q h hq];have := valid_ne HI.out.val (k := q) (by rw [gxs_len]; exact hq);rw [gxs_at' l q hq, vxs_len] at this
    exact this)
   obtain ⟨N, hNk⟩ : ∃ N, N = k := ⟨_, rfl⟩
   rw [<- hNk] at HCS HOL hN5 |-;clear hGO hE hB hNk hlt hk HBD HC HN;by_cases hN0 : N = 0
   ·have t1 : ((N : Int) == 0) = true := by simpa using hN0
    clear hN0;go_wp2_with fail
    rw [HQ.out];exact ⟨_, oc, rfl, HCS.out.tr.gl.q, HTD.out.grow HCS.out.gr HCS.out.dk, HCS.out.gr, HBO.out⟩
   have t1 : ((N : Int) == 0) = false := by simpa using hN0
   have t1' : ¬ (N : Int) = 0 := by omega
   have hnx := next_any w v zs wr g (N : Int) HCS.out.dk (by omega) (by omega);obtain ⟨gb0, hgb0, -, -⟩ := HCS.out.tr.cellL 0 (by rw [HOL.out]; omega);subst hgb0;go_wp2_with fail
   refine hnx.mono ?_;rintro e w5 ⟨r, rfl, hr0, hr1, hD5, hg5⟩;clear hnx;have HCS5 := Bx.mk (HCS.out.grow HGL.out hg5 hD5);obtain ⟨i, rfl⟩ : ∃ i : Nat, r = (i : Int) := ⟨r.toNat, by omega⟩
   have hiN : i < N := by omega
   have HIL := Bx.mk (show i < oc.length by rw [HOL.out]; exact hiN);obtain ⟨sL, hsL⟩ : ∃ sL, sL = (oc[i]'HIL.out).s := ⟨_, rfl⟩
   have HSL := Bx.mk (show (oc[i]'HIL.out).s.val = sL.val by rw [hsL]);obtain ⟨lb, lcap, hlb, -⟩ := (HCS5.out.tr.lv _ (zM HIL.out)).set1 encV_ok 0 0 (HNE.out i HIL.out) (by omega) (.string (bstr ((oc[i]'HIL.out).vs[0]'(HNE.out i HIL.out)).n.pol)) ((oc[i]'HIL.out).vs[0]'(HNE.out i HIL.out)) rfl;obtain ⟨NV, hNV⟩ : ∃ NV, NV = (oc[i]'HIL.out).vs.length := ⟨_, rfl⟩
   have HNV := Bx.mk hNV;have GI_len := Bx.mk (GI_all.out _ (zM HIL.out));have hNV0 : 0 < NV := by rw [hNV]; exact HNE.out i HIL.out
   have hNVb : NV <= 2201 := by rw [hNV]; exact (HBO.out.2 _ (zM HIL.out)).1
   have HLB := Bx.mk (show (oc[i]'HIL.out).s.val = .slice (some ⟨lb, 0, none⟩) NV lcap by rw [hNV]; exact hlb)
   have HLC := Bx.mk (show ∀ W, CSG w v zs g wq W (.slice (some ⟨gb0, 0, none⟩) N occ) oc -> W.cell? ⟨gb0, i, none⟩ = some (.slice (some ⟨lb, 0, none⟩) NV lcap) from fun W hW => by
    obtain ⟨b', he, hc, -⟩ := hW.tr.cellL i HIL.out;simp only [zO, Addr.mk.injEq, and_true] at he
    subst he
    rw [hc, HLB.out])
   clear hr0 hr1 hsL hlb hNV hD5 hg5 HCS hN0;go_wp2_with fail
   clear t1 t1';refine wp_region_rel 11 (fun a b => a.grownBy b (some g)) (fun w' => CSG w v zs g wq w' (.slice (some ⟨gb0, 0, none⟩) N occ) oc) (ChA gb0 i lb NV lcap g) (by kernel_rfl) (by kernel_rfl) (by rfl) (fun a b hab => grown_below hab) (ChA.stable gb0 i lb NV lcap g) (HCS5.out.below (drewN_below (Below.refl _ _) 1)) ?_ ?_
   ·intro i' oo hi ho xx w7 hI7 hd;have hcs : i' = 0 \/ i' = 1 \/ i' = 2 \/ i' = 3 \/ i' = 4 \/ i' = 5 \/ i' = 6 \/ i' = 7 \/ i' = 8 \/ i' = 9 \/ i' = 10 := (by omega);simp only [List.take_succ_cons, List.take_zero, putFrom, Act.put, List.setIfInBounds_toArray, List.set_cons_succ, List.set_cons_zero, Nat.zero_add, Nat.reduceAdd]
    have HI7 := Bx.mk hI7;have hcell := HLC.out w7 hI7;have hnx := next_any w v zs w7 g (NV : Int) hI7.dk (by omega) (by omega);clear hI7;rcases hcs with rfl | rfl | rfl | rfl | rfl | rfl | rfl | rfl | rfl | rfl | rfl
    all_goals
     simp only [List.getElem?_cons_succ, List.getElem?_cons_zero, zO] at ho
     subst ho;simp [Needs, Region.binds, NeedsB, ChA] at hd
    all_goals clear hi
    case inr.inr.inr.inr.inr.inr.inr.inr.inr.inr =>
     clear hcell;go_wp2_with (first | (refine hnx.mono ?_; rintro e w8 ⟨r8, rfl, a8, b8, hD8, hg8⟩))
     obtain ⟨rn, rfl⟩ : ∃ rn : Nat, r8 = (rn : Int) := ⟨r8.toNat, by omega⟩
     exact ⟨rfl, rfl, ⟨rn, rfl, by omega⟩, hg8, HI7.out.grow HGL.out hg8 hD8⟩
    all_goals
     clear hnx;go_wp2_with fail
     exact ⟨rfl, rfl, rfl, grown_refl _ _, HI7.out⟩
   ·intro xx w7 hI7 hf;have f3 := hf 3 (by omega);have f10 := hf 10 (by omega);simp only [ChA] at f3 f10
    obtain ⟨kk, f10, hkN⟩ := f10;have HCS7 := Bx.mk hI7;have HKV := Bx.mk (show kk < (oc[i]'HIL.out).vs.length by rw [<- HNV.out]; exact hkN);simp only [List.take_succ_cons, List.take_zero, List.drop_succ_cons, List.drop_zero, putFrom, Act.put, List.setIfInBounds_toArray, List.set_cons_succ, List.set_cons_zero, Nat.zero_add, Nat.reduceAdd, f3, f10]
    generalize xx 0 = X0, xx 1 = X1, xx 2 = X2, xx 4 = X4, xx 5 = X5, xx 6 = X6, xx 7 = X7, xx 8 = X8, xx 9 = X9;clear hf hI7 f3 f10 HCS5;have hnx := next_any w v zs w7 g 6 HCS7.out.dk (by omega) (by omega);go_wp2_with fail
    refine hnx.mono ?_;rintro e w8 ⟨r6, rfl, hr0, hr1, hD8, hg8⟩;have HCS8 := Bx.mk (HCS7.out.grow HGL.out hg8 hD8);clear hnx hD8 hg8 HCS7;obtain ⟨x, hx⟩ : ∃ x, x = (oc[i]'HIL.out).vs[kk]'HKV.out := ⟨_, rfl⟩
    have HX := Bx.mk hx
    have HCX := Bx.mk (show ∀ W, CSG w v zs g wq W (.slice (some ⟨gb0, 0, none⟩) N occ) oc -> W.cell? ⟨lb, kk * 3, none⟩ = some (.string (bstr x.n.pol)) /\ W.cell? ⟨lb, kk * 3 + 1, none⟩ = some (.slice x.u.ad x.u.n x.u.c) /\ W.cell? ⟨lb, kk * 3 + 2, none⟩ = some (.slice x.q.ad x.q.n x.q.c) from fun W hW => by
     have ho := hW.tr.lv _ (zM HIL.out);rw [HLB.out] at ho;have hc := fun j u (hj : j < 3) (hu : (encV ((oc[i]'HIL.out).vs[kk]'HKV.out))[j]? = some u) => ho.cell encV_ok kk HKV.out j hj u hu
     rw [<- HX.out] at hc
     exact ⟨hc 0 _ (by omega) rfl, hc 1 _ (by omega) rfl, hc 2 _ (by omega) rfl⟩)
    have hcs : r6 = 0 \/ r6 = 1 \/ r6 = 2 \/ r6 = 3 \/ r6 = 4 \/ r6 = 5 := (by omega);rcases hcs with rfl | rfl | rfl | rfl | rfl | rfl
    all_goals clear hr0 hr1 hx
    ·have hnx := next_any w v zs w8 g 9 HCS8.out.dk (by omega) (by omega);go_wp2_with fail
     refine hnx.mono ?_;rintro e w9 ⟨r9, rfl, a9, b9, hD9, hg9⟩;obtain ⟨m9, rfl⟩ : ∃ m : Nat, r9 = (m : Int) := ⟨r9.toNat, by omega⟩
     have hpo := policy_any w9 m9 (by omega);have HCS9 := Bx.mk (HCS8.out.grow HGL.out hg9 hD9);clear hnx hD9 hg9 a9 b9;go_wp2_with fail
     go_at_call 35;refine hpo.mono ?_;rintro e w10 ⟨p, rfl, hp100, hb10⟩;have HCS10 := Bx.mk (HCS9.out.below hb10);have hnm := HCS10.out.tr.nm _ (zM HIL.out) _ (zM HKV.out);rw [<- HX.out] at hnm
     have HBF := Bx.mk (HBO.out.set i (L' := ⟨(oc[i]'HIL.out).vs.set kk ⟨⟨p, x.n.ex, x.n.par⟩, x.u, x.q⟩, (oc[i]'HIL.out).s⟩) (by
      have hb := HBO.out.2 _ (zM HIL.out);refine ⟨by show ((oc[i]'HIL.out).vs.set kk _).length <= 2201; rw [zL]; exact hb.1, fun y hy => ?_⟩;rcases List.mem_or_eq_of_mem_set hy with q | rfl
      ·exact hb.2 y q
      ·exact hb.2 x (by rw [HX.out]; exact zM _)))
     obtain ⟨nb, cap, hv, hfz, hgq, hdk, hgr⟩ := HCS10.out.setV HGL.out HW0.out i HIL.out kk HKV.out 0 (by omega) (.string (bstr p)) ⟨⟨p, x.n.ex, x.n.par⟩, x.u, x.q⟩ (by rw [<- HX.out]; rfl) ⟨hnm.1, hnm.2.1, hnm.2.2.1, (show p.length <= 1000000 by omega), hnm.2.2.2.2⟩
     have hnb : nb = lb := by
      rw [HLB.out] at hv;simp only [Value.slice.injEq, zO, Addr.mk.injEq, and_true] at hv
      exact hv.1.symm
     subst hnb;have hz9 := hfz (kk * 3 + 0);have hcl := (HCX.out w10 HCS10.out |>.1)
     try simp only [Nat.add_zero] at hz9 hgq hdk hgr
     have HGQ := Bx.mk hgq;have HDK := Bx.mk hdk;have HGR := Bx.mk hgr;clear hv hfz hgq hdk hgr;go_wp2_with fail
     rw [HQ.out];exact ⟨_, _, rfl, HGQ.out, HTD.out.grow HGR.out HDK.out, HGR.out, HBF.out⟩
    ·have hpo := policies_any w v zs w8 g 3 HCS8.out.dk (by omega);go_wp2_with fail
     go_at_call 22;refine hpo.mono ?_;rintro e w9 ⟨pv, ps, rfl, hM, hpl, hpx⟩;have HCS9 := Bx.mk (HCS8.out.grow HGL.out hM.gr hM.dk);have hown := hM.own;obtain ⟨s9, hs9⟩ := sl_of hown;subst hs9;have hnm := HCS9.out.tr.nm _ (zM HIL.out) _ (zM HKV.out);rw [<- HX.out] at hnm
     have HBF := Bx.mk (HBO.out.set i (L' := ⟨(oc[i]'HIL.out).vs.set kk ⟨⟨x.n.pol, ps, x.n.par⟩, s9, x.q⟩, (oc[i]'HIL.out).s⟩) (by
      have hb := HBO.out.2 _ (zM HIL.out);refine ⟨by show ((oc[i]'HIL.out).vs.set kk _).length <= 2201; rw [zL]; exact hb.1, fun y hy => ?_⟩;rcases List.mem_or_eq_of_mem_set hy with q | rfl
      ·exact hb.2 y q
      ·show ps.length <= 5; omega))
     simp only [Sl.val]
     obtain ⟨nb, cap, hv, hfz, hgq, hdk, hgr⟩ := HCS9.out.setV HGL.out HW0.out i HIL.out kk HKV.out 1 (by omega) (.slice s9.ad s9.n s9.c) ⟨⟨x.n.pol, ps, x.n.par⟩, s9, x.q⟩ (by rw [<- HX.out]; rfl) ⟨⟨hown.rd, fun k hk => HCS9.out.tr.ov_ne hown (by decide) (by decide) k hk⟩, hnm.2.1, ⟨(show ps.length <= 100000 by omega), fun b hb => by have := hpx b hb; omega⟩, hnm.2.2.2.1, hnm.2.2.2.2⟩
     have hnb : nb = lb := by
      rw [HLB.out] at hv;simp only [Value.slice.injEq, zO, Addr.mk.injEq, and_true] at hv
      exact hv.1.symm
     subst hnb;have hz9 := hfz (kk * 3 + 1);have hcl := (HCX.out w9 HCS9.out |>.2.1)
     try simp only [Nat.add_zero] at hz9 hgq hdk hgr
     have HGQ := Bx.mk hgq;have HDK := Bx.mk hdk;have HGR := Bx.mk hgr;clear hpo hM hown hv hfz hgq hdk hgr;go_wp2_with fail
     rw [HQ.out];exact ⟨_, _, rfl, HGQ.out, HTD.out.grow HGR.out HDK.out, HGR.out, HBF.out⟩
    ·have hnx := next_any w v zs w8 g 3 HCS8.out.dk (by omega) (by omega);go_wp2_with fail
     refine hnx.mono ?_;rintro e w9 ⟨r9, rfl, a9, b9, hD9, hg9⟩;have HCS9 := Bx.mk (HCS8.out.grow HGL.out hg9 hD9);clear hnx hD9 hg9;have hnx := next_any w v zs w9 g 3 HCS9.out.dk (by omega) (by omega);have HR9 := Bx.mk (show 0 <= r9 /\ r9 < 3 by omega);clear a9 b9;go_wp2_with fail
     refine hnx.mono ?_;rintro e w10 ⟨r10, rfl, a10, b10, hD10, hg10⟩;have HCS10 := Bx.mk (HCS9.out.grow HGL.out hg10 hD10);clear hnx hD10 hg10;obtain ⟨z10, hz10⟩ : ∃ z10, z10 = r10 - 1 := ⟨_, rfl⟩
     have wz : IntKind.i64.wrap (r10 - 1) = z10 := (by rw [IntWalk.i64_in _ (by omega), hz10]);have HZ10 := Bx.mk (show -1 <= z10 /\ z10 < 2 by omega);clear a10 b10 hz10;obtain ⟨W11, hW11⟩ : ∃ W11, W11 = w10.alloc (.cells #[.int .i64 r9, .int .i64 z10] 3) := ⟨_, rfl⟩
     obtain ⟨q11, hq11⟩ : ∃ q, q = w10.heap.size := ⟨_, rfl⟩
     have hb11 : Below w10.heap.size w10 W11 := (by rw [hW11]; exact (Below.refl _ _).alloc (zR _) _);have HO11 := Bx.mk (show Slc.Own W11 w10.heap.size 3 1 encI (.slice (some ⟨q11, 0, none⟩) 2 2) [r9, z10] by rw [hW11, hq11]; exact own_alloc encI_ok w10 [r9, z10] _ rfl (zR _) (by unfold maxLen; simp));have HCS11 := Bx.mk (HCS10.out.below hb11);have HG11 := Bx.mk (show g < w10.heap.size by have := HCS10.out.gr.size; have := HGL.out; omega);have hnx := next_any w v zs W11 g 2 HCS11.out.dk (by omega) (by omega);clear hb11;go_wp2_with fail
     rw [<- hW11, <- hq11];clear hW11 hq11 wz;refine hnx.mono ?_;rintro e w12 ⟨r12, rfl, a12, b12, hD12, hg12⟩;have HCS12 := Bx.mk (HCS11.out.grow HGL.out hg12 hD12);have hown := own_grown HO11.out hg12 HG11.out;clear hnx hD12 hg12;obtain ⟨m12, hm12⟩ : ∃ m : Nat, (1 : Int) + r12 = (m : Int) := ⟨(1 + r12).toNat, by omega⟩
     have hm2 : 1 <= m12 /\ m12 <= 2 := (by omega);have wz : IntKind.i64.wrap (1 + r12) = (m12 : Int) := (by rw [IntWalk.i64_in _ (by omega), hm12]);obtain ⟨hu1, hru⟩ := upto_at (P := Tryz.prog) (T := 22) encI_ok hown.rd und_intsE size_intsE m12 (show m12 <= 2 by omega);have hnm := HCS12.out.tr.nm _ (zM HIL.out) _ (zM HKV.out);rw [<- HX.out] at hnm
     have hpr : ∀ p ∈ [r9, z10].take m12, -1 <= p /\ p < 3 := fun p hp => by
      have := List.mem_of_mem_take hp;simp only [List.mem_cons, List.not_mem_nil, or_false] at this
      have h1 := HR9.out;have h2 := HZ10.out;rcases this with rfl | rfl <;> omega
     have hlt2 : ([r9, z10].take m12).length = m12 := by rw [List.length_take]; simp; omega
     have HBF := Bx.mk (HBO.out.set i (L' := ⟨(oc[i]'HIL.out).vs.set kk ⟨⟨x.n.pol, x.n.ex, [r9, z10].take m12⟩, x.u, ⟨some ⟨q11, 0, none⟩, m12, 2⟩⟩, (oc[i]'HIL.out).s⟩) (by
      have hb := HBO.out.2 _ (zM HIL.out);refine ⟨by show ((oc[i]'HIL.out).vs.set kk _).length <= 2201; rw [zL]; exact hb.1, fun y hy => ?_⟩;rcases List.mem_or_eq_of_mem_set hy with q | rfl
      ·exact hb.2 y q
      ·exact hb.2 x (by rw [HX.out]; exact zM _)))
     have hob : ∀ k, (Value.slice (some ⟨q11, 0, none⟩) m12 2).ownBlock = some k -> ¬ GB (.slice (some ⟨gb0, 0, none⟩) N occ) oc k := fun k hk => HCS12.out.tr.ov_ne hown (by decide) (by decide) k hk
     clear a12 b12 hm12;obtain ⟨nb, cap, hv, hfz, hgq, hdk, hgr⟩ := HCS12.out.setV HGL.out HW0.out i HIL.out kk HKV.out 2 (by omega) (.slice (some ⟨q11, 0, none⟩) m12 2) ⟨⟨x.n.pol, x.n.ex, [r9, z10].take m12⟩, x.u, ⟨some ⟨q11, 0, none⟩, m12, 2⟩⟩ (by rw [<- HX.out]; rfl) ⟨hnm.1, .inr ⟨hru, hob⟩, hnm.2.2.1, hnm.2.2.2.1, (show ([r9, z10].take m12).length <= 100000 by omega), fun p hp => by have := hpr p hp; omega⟩
     have hnb : nb = lb := by
      rw [HLB.out] at hv;simp only [Value.slice.injEq, zO, Addr.mk.injEq, and_true] at hv
      exact hv.1.symm
     subst hnb;have hz9 := hfz (kk * 3 + 2);have hcl := (HCX.out w12 HCS12.out |>.2.2)
     try simp only [Nat.add_zero] at hz9 hgq hdk hgr
     have HGQ := Bx.mk hgq;have HDK := Bx.mk hdk;have HGR := Bx.mk hgr;clear hown hru hob hpr hlt2 hnm hv hfz hgq hdk hgr;go_wp2_with fail
     rw [HQ.out];exact ⟨_, _, rfl, HGQ.out, HTD.out.grow HGR.out HDK.out, HGR.out, HBF.out⟩
    ·have hvl := HCS8.out.tr.lv _ (zM HIL.out);rw [HLB.out] at hvl;obtain ⟨N1, hN1⟩ : ∃ N1, N1 + 1 = NV := ⟨NV - 1, by omega⟩
     have hk1 : N1 <= (oc[i]'HIL.out).vs.length := (by rw [<- HNV.out]; omega);obtain ⟨hu1, hru⟩ := upto_at (P := Tryz.prog) (T := 61) encV_ok hvl.rd und_versE size_vers N1 hk1;have HU1 := Bx.mk hu1;have HRU := Bx.mk hru;have HWN := Bx.mk (show IntKind.i64.wrap ((NV : Int) - 1) = (N1 : Int) by rw [IntWalk.i64_in _ (by omega)]; omega);have HN1 := Bx.mk hN1;clear hvl hu1 hru hN1 hk1;go_upto_region 18 with fail
     refine wp_region_facts 14 (ChB gb0 i lb NV N1 lcap (.slice (some ⟨lb, 0, none⟩) N1 lcap)) (by kernel_rfl) (by kernel_rfl) (by rfl) (ChB.stable _ _ _ _ _ _ _) ?_ ?_
     ·intro i' oo hi ho xs w9 hb hd;have hcs : i' = 0 \/ i' = 1 \/ i' = 2 \/ i' = 3 \/ i' = 4 \/ i' = 5 \/ i' = 6 \/ i' = 7 \/ i' = 8 \/ i' = 9 \/ i' = 10 \/ i' = 11 \/ i' = 12 \/ i' = 13 := (by omega);simp only [List.take_succ_cons, List.take_zero, putFrom, Act.put, List.setIfInBounds_toArray, List.set_cons_succ, List.set_cons_zero, Nat.zero_add, Nat.reduceAdd]
      have hcell := HLC.out w9 (HCS8.out.below hb);clear hb;rcases hcs with rfl | rfl | rfl | rfl | rfl | rfl | rfl | rfl | rfl | rfl | rfl | rfl | rfl | rfl
      all_goals
       simp only [List.getElem?_cons_succ, List.getElem?_cons_zero, zO] at ho
       subst ho;simp [Needs, Region.binds, ChB] at hd
      all_goals clear hi
      case inr.inr.inr.inr.inr.inr.inr.inr.inr.inr.inl =>
       have wn := HWN.out;clear hcell;go_wp2_with fail
       exact ⟨rfl, rfl, rfl, Below.refl _ _⟩
      case inr.inr.inr.inr.inr.inr.inr.inr.inr.inr.inr.inl =>
       obtain ⟨hd1, hd2⟩ := hd;have hu1 := HU1.out;clear hcell;go_wp2_with fail
       exact ⟨rfl, rfl, rfl, Below.refl _ _⟩
      all_goals
       go_wp2_with fail
       exact ⟨rfl, rfl, rfl, Below.refl _ _⟩
     ·intro xs w9 hb hf;have f11 := hf 11 (by omega);have f13 := hf 13 (by omega);simp only [ChB] at f11 f13
      have HCS9 := Bx.mk (HCS8.out.below hb);obtain ⟨gbx, capx, hvx, hB9, hlt9, hfr9, hown9, hgr9⟩ := HCS9.out.tr.own.set1 encL_ok i 0 HIL.out (by omega) (.slice (some ⟨lb, 0, none⟩) N1 lcap) (⟨(oc[i]'HIL.out).vs.take N1, ⟨some ⟨lb, 0, none⟩, N1, lcap⟩⟩ : Lv) rfl;simp only [Value.slice.injEq, zO, Addr.mk.injEq, and_true] at hvx
      obtain ⟨hgbx, -, -⟩ := hvx;subst hgbx;rw [Nat.mul_one, Nat.add_zero] at hown9 hgr9;have hni : ∀ q (hq : q < oc.length), (oc[q]).s.val.ownBlock ≠ some gb0 := fun q hq e => HCS9.out.tr.ao _ (zM hq) gb0 e rfl
      have hgq : GQ (w9.setCell ⟨gb0, i, none⟩ (.slice (some ⟨lb, 0, none⟩) N1 lcap)) (.slice (some ⟨gb0, 0, none⟩) N occ) (oc.set i ⟨(oc[i]'HIL.out).vs.take N1, ⟨some ⟨lb, 0, none⟩, N1, lcap⟩⟩) := by
       have kx : ∀ L ∈ oc, ∀ x ∈ L.vs, VtAt (w9.setCell ⟨gb0, i, none⟩ (.slice (some ⟨lb, 0, none⟩) N1 lcap)) x := fun L hL x hx =>
        (VtIn.keep (HCS9.out.tr.nm L hL x hx) hgr9.size fun k hk hkl => hgr9.block k hkl fun e => by
         simp only [zO] at e
         subst e
         exact hk (.inl rfl)).at_
       have kr : ∀ {v : Value} {l : List Vt}, Rd w9 encV v l -> v.ownBlock ≠ some gb0 -> Rd (w9.setCell ⟨gb0, i, none⟩ (.slice (some ⟨lb, 0, none⟩) N1 lcap)) encV v l := fun {v l} hr hne => hr.keep hgr9.size fun k hk hkl => hgr9.block k hkl fun e => hne (by rw [hk, e])
       refine ⟨hown9.rd, fun L hL => ?_⟩;rcases List.mem_or_eq_of_mem_set hL with q | rfl
       ·obtain ⟨q', hq', rfl⟩ := List.getElem_of_mem q;have hr := kr (HCS9.out.tr.lv _ (zM hq')).rd (hni q' hq');exact ⟨.inr ⟨hr, hr.lt⟩, fun x hx => (kx _ (zM hq') x hx).q⟩
       ·have hne : (Value.slice (some ⟨lb, 0, none⟩) N1 lcap).ownBlock ≠ some gb0 := by
         have := hni i HIL.out;rw [HLB.out] at this;exact this
        have hr := kr (HRU.out.below hb) hne;exact ⟨.inr ⟨hr, hr.lt⟩, fun x hx => (kx _ (zM HIL.out) x (List.mem_of_mem_take hx)).q⟩
      have hbb : Below wq.heap.size w9 (w9.setCell ⟨gb0, i, none⟩ (.slice (some ⟨lb, 0, none⟩) N1 lcap)) := (show Below wq.heap.size w9 w9 from ⟨rfl, rfl, rfl, zR _, fun _ _ => rfl⟩).setCell hB9 _;have HGQ := Bx.mk hgq;have HDK := Bx.mk (deck_keep HCS9.out.dk hbb HGL.out HW0.out);have HGR := Bx.mk (show wq.grownBy (w9.setCell ⟨gb0, i, none⟩ (.slice (some ⟨lb, 0, none⟩) N1 lcap)) (some g) from ⟨hbb.os.trans HCS9.out.gr.os, hbb.tape.trans HCS9.out.gr.tape, hbb.output.trans HCS9.out.gr.output, Nat.le_trans HCS9.out.gr.size hbb.size, fun i hi hne => (hbb.block i hi).trans (HCS9.out.gr.block i hi hne)⟩)
      have HBF := Bx.mk (HBO.out.set i (L' := ⟨(oc[i]'HIL.out).vs.take N1, ⟨some ⟨lb, 0, none⟩, N1, lcap⟩⟩) (by
       have hb := HBO.out.2 _ (zM HIL.out)
       exact ⟨by show ((oc[i]'HIL.out).vs.take N1).length <= 2201; rw [List.length_take]; omega, fun y hy => hb.2 y (List.mem_of_mem_take hy)⟩))
      have hz9 := hfr9 i;have hcl := HLC.out w9 HCS9.out;simp only [List.take_succ_cons, List.take_zero, List.drop_succ_cons, List.drop_zero, putFrom, Act.put, List.setIfInBounds_toArray, List.set_cons_succ, List.set_cons_zero, Nat.zero_add, Nat.reduceAdd, f11, f13]
      clear hf hb f11 f13 hB9 hlt9 hfr9 hown9 hgr9 hni hgq hbb;go_wp2_with fail
      rw [HQ.out];exact ⟨_, _, rfl, HGQ.out, HTD.out.grow HGR.out HDK.out, HGR.out, HBF.out⟩
    ·obtain ⟨VS, hVS⟩ : ∃ VS, VS = (oc[i]'HIL.out).vs := ⟨_, rfl⟩
     have HVS := Bx.mk hVS
     have HVL := Bx.mk (show ∀ W, CSG w v zs g wq W (.slice (some ⟨gb0, 0, none⟩) N occ) oc -> Slc.Own W wq.heap.size 65 3 encV (.slice (some ⟨lb, 0, none⟩) NV lcap) VS from fun W hW => by
      have := hW.tr.lv _ (zM HIL.out);rw [HLB.out] at this
      rw [hVS]; exact this)
     have HNVS := Bx.mk (show NV = VS.length by rw [hVS]; exact HNV.out);have HLBL := Bx.mk (show lb < w8.heap.size /\ gb0 < w8.heap.size /\ lb ≠ gb0 from ⟨(HCS8.out.tr.lt (k := lb) (.inr ⟨_, zM HIL.out, by rw [HLB.out]; rfl⟩)).2, (HCS8.out.tr.lt (k := gb0) (.inl rfl)).2, fun e => HCS8.out.tr.ao _ (zM HIL.out) lb (by rw [HLB.out]; rfl) (by rw [e]; rfl)⟩);have HGL8 := Bx.mk (show g < w8.heap.size by have := HCS8.out.gr.size; have := HGL.out; omega);have HWQ := Bx.mk HCS8.out.gr.size;obtain ⟨q12, hq12⟩ : ∃ q12 : List B, q12 = [[49, 46, 50]] := ⟨_, rfl⟩
     have HQ12 := Bx.mk hq12;clear hVS hq12;go_upto_region 20 with fail
     refine wp_region_factsH 15 (fun _ => none) (fun j => j == 6 || j == 12) (fun j z w' => ChC w8 gb0 i lb NV lcap g VS q12 j (z j) w')
      (fun d w' => (CSG w v zs g wq w' (.slice (some ⟨gb0, 0, none⟩) N occ) oc /\ w8.heap.size <= w'.heap.size) \/ (d 12 = true /\ ∃ wz : World, (CSG w v zs g wq wz (.slice (some ⟨gb0, 0, none⟩) N occ) oc /\ w8.heap.size <= wz.heap.size) /\ wz.grownBy w' (some lb)))
      (fun j a b => if j = 6 then (a.grownBy b (some g) /\ CSG w v zs g wq b (.slice (some ⟨gb0, 0, none⟩) N occ) oc /\ w8.heap.size <= b.heap.size) else (a.grownBy b (some lb) /\ CSG w v zs g wq a (.slice (some ⟨gb0, 0, none⟩) N occ) oc /\ w8.heap.size <= a.heap.size)) ?_ mixed (by kernel_rfl) (by rfl) ?_ ?_ ?_ ?_ ?_ ?_ ?_
     ·exact .inl ⟨HCS8.out.below (drewN_below (Below.refl _ _) 1), zR _⟩
     ·intro j oj z y' w1' _ _ e _ hh
      show ChC _ _ _ _ _ _ _ _ _ j (y' j) w1'
      rw [<- e]; exact hh
     ·exact fun j z w1' w2 hh hb => ChC.stable _ _ _ _ _ _ _ _ _ j _ _ _ hh hb
     ·intro d j w1' w2 hh hb' _ hB';rcases hh with h | ⟨h1, wz, h2, h4⟩
      ·exact .inl ⟨h.1.below hB', Nat.le_trans h.2 hB'.size⟩
      ·exact .inr ⟨by unfold mark; split <;> first | rfl | exact h1, wz, h2, h4.trans (grown_below hB')⟩
     ·intro d j oj w1' w2 _ _ hh hb' _ hg';have hj : j = 6 \/ j = 12 := (by simpa using hb');rcases hj with rfl | rfl
      ·exact .inl (by simpa using hg'.2)
      ·have hg2 : w1'.grownBy w2 (some lb) /\ CSG w v zs g wq w1' (.slice (some ⟨gb0, 0, none⟩) N occ) oc /\ w8.heap.size <= w1'.heap.size := by simpa using hg'
       exact .inr ⟨by simp [mark], w1', hg2.2, hg2.1⟩
     ·intro b ob' j z d w1' w2 hb' _ _ _ hne _ hcl hdj hdb hh hg';have hj : b = 6 \/ b = 12 := (by simpa using hb');rcases hj with rfl | rfl
      ·have hg2 : w1'.grownBy w2 (some g) /\ CSG w v zs g wq w2 (.slice (some ⟨gb0, 0, none⟩) N occ) oc /\ w8.heap.size <= w2.heap.size := by simpa using hg'
       by_cases e : j = 12
       ·subst e;have h1 := waits_done (m := 6) hcl 5 12 (by rfl) hdj;rw [hdb] at h1; cases h1
       ·exact ChC.big _ _ _ _ _ _ _ _ _ j _ _ _ hh e g HGL8.out hg2.1
      ·have hg2 : w1'.grownBy w2 (some lb) /\ CSG w v zs g wq w1' (.slice (some ⟨gb0, 0, none⟩) N occ) oc /\ w8.heap.size <= w1'.heap.size := by simpa using hg'
       exact ChC.big _ _ _ _ _ _ _ _ _ j _ _ _ hh hne lb HLBL.out.1 hg2.1
     ·intro j o hj ho d z w9 hcl hdi hrd hCC hd;have hcs : j = 0 \/ j = 1 \/ j = 2 \/ j = 3 \/ j = 4 \/ j = 5 \/ j = 6 \/ j = 7 \/ j = 8 \/ j = 9 \/ j = 10 \/ j = 11 \/ j = 12 \/ j = 13 \/ j = 14 := by omega
      have HS9 := Bx.mk (show w8.heap.size <= w9.heap.size by
       rcases hCC with h | ⟨-, wz, h2, h4⟩
       ·exact h.2
       ·exact Nat.le_trans h2.2 h4.size)
      have l1 : w9.cell? ⟨gb0, i, none⟩ = some (.slice (some ⟨lb, 0, none⟩) NV lcap) := by
       rcases hCC with h | ⟨-, wz, h2, h4⟩
       ·exact HLC.out w9 h.1
       ·have h5 := HLC.out wz h2.1;have h6 := h4.block gb0 (World.block_lt_of_cell? wz _ h5) (fun e => by simp only [zO] at e; exact HLBL.out.2.2 e.symm);unfold World.cell? at h5 |-;rw [h6]; exact h5
      have HCC := Bx.mk hCC;have HDI := Bx.mk hdi;have HCL := Bx.mk hcl;clear hcl hrd hCC;simp only [List.take_succ_cons, List.take_zero, putFrom, Act.put, List.setIfInBounds_toArray, List.set_cons_succ, List.set_cons_zero, Nat.zero_add, Nat.reduceAdd]
      rcases hcs with rfl | rfl | rfl | rfl | rfl | rfl | rfl | rfl | rfl | rfl | rfl | rfl | rfl | rfl | rfl
      case inr.inr.inr.inr.inr.inr.inl =>
       have HI9 : Bx (CSG w v zs g wq w9 (.slice (some ⟨gb0, 0, none⟩) N occ) oc /\ w8.heap.size <= w9.heap.size) := ⟨by
        rcases HCC.out with h | ⟨h1, -⟩
        ·exact h
        ·have h2 := waits_done (m := 6) HCL.out 5 12 (by rfl) h1
         rw [HDI.out] at h2; cases h2⟩
       simp only [List.getElem?_cons_succ, List.getElem?_cons_zero, zO] at ho
       subst ho;simp [NeedsB, Region.binds, ChC] at hd
       clear hj hdi l1 HCC HDI HCL;have hnx := next_any w v zs w9 g 8 HI9.out.1.dk (by omega) (by omega);go_wp2_with (first | (refine hnx.mono ?_; rintro e w10 ⟨r10, rfl, a10, b10, hD10, hg10⟩))
       obtain ⟨rn, rfl⟩ : ∃ rn : Nat, r10 = (rn : Int) := ⟨r10.toNat, by omega⟩
       exact ⟨rfl, rfl, ⟨rn, rfl, by omega⟩, hg10, HI9.out.1.grow HGL.out hg10 hD10, Nat.le_trans HI9.out.2 hg10.size⟩
      case inr.inr.inr.inr.inr.inr.inr.inr.inr.inr.inr.inr.inl =>
       have HI9 : Bx (CSG w v zs g wq w9 (.slice (some ⟨gb0, 0, none⟩) N occ) oc /\ w8.heap.size <= w9.heap.size) := ⟨by
        rcases HCC.out with h | ⟨h1, -⟩
        ·exact h
        ·rw [HDI.out] at h1; cases h1⟩
       simp only [List.getElem?_cons_succ, List.getElem?_cons_zero, zO] at ho
       subst ho;simp [NeedsB, Region.binds, ChC] at hd
       clear hj hdi l1 HCC HDI HCL;obtain ⟨h4, ⟨b, h11, hbW, p, s, q, hrow, hp100, ho8, ho9⟩, -⟩ := hd;have hsr : SrcV w9 3 (.slice (some ⟨b, 0, none⟩) 1 1) 1 ([(⟨⟨p, q12, [0]⟩, s, q⟩ : Vt)].flatMap encV) := src_new encV_ok hrow;rw [<- h11] at hsr;have hvl := HVL.out w9 HI9.out.1
       have HOWR := Bx.mk (show World.ownsRow w9 wq.heap.size 65 3 (z 4) NV (VS.flatMap encV) by
        have := hvl;unfold Slc.Own at this;rw [<- HNVS.out] at this
        rw [h4]; exact this)
       have hbz : wq.heap.size <= w9.heap.size := Nat.le_trans HWQ.out HI9.out.2;have hm1 : NV + 1 <= maxLen := (by unfold maxLen; omega);have hm2 : (NV + 1) * 64 <= 140737488355328 := (by omega);have HO8 := Bx.mk ho8;have HO9 := Bx.mk ho9;have H4 := Bx.mk h4;have HP := Bx.mk hp100;clear h11 hrow ho8 ho9 hvl h4;go_wp2_with (at_builtin; refine wpList_append_any rfl _ _ _ rfl wq.heap.size 65 i0 _ 3 64 und_vers hi0 hz0 hz1 hz2 rfl (by decide) (z 4) NV (VS.flatMap encV) rfl HOWR.out (z 11) 1 ([(⟨⟨p, q12, [0]⟩, s, q⟩ : Vt)].flatMap encV) rfl hsr hm1 hm2 hbz ?_)
       intro v10 w10 ha;have hgr := ha.grown;have hbl := ha.blk;rw [H4.out] at hgr hbl;have hown := (HVL.out w9 HI9.out.1).apd (m := [(⟨⟨p, q12, [0]⟩, s, q⟩ : Vt)]) rfl rfl HNVS.out rfl (H4.out ▸ ha);obtain ⟨t, ht⟩ := sl_of hown;subst ht
       have kp : ∀ {α : Type} {t : TypeId} {n : Nat} {enc : α -> List Value} {v : Value} {l : List α}, Slc.Own w9 w8.heap.size t n enc v l -> Slc.Own w10 w8.heap.size t n enc v l := fun {_ _ _ _ _ _} ho => ho.keep fun k hk hkl => hgr.block k hkl fun e => by
        have h1 := (ho.lt k hk).1;have h2 : k = lb := (by simpa [Value.ownBlock] using e);have := HLBL.out.1;omega
       have HK8 := Bx.mk (kp HO8.out);have HK9 := Bx.mk (kp HO9.out);have HGR := Bx.mk (show w9.grownBy w10 (some lb) from hgr);have HOWN := Bx.mk hown;have HBL := Bx.mk (show (Sl.val t).ownBlock = some lb \/ ∃ z, (Sl.val t).ownBlock = some z /\ w8.heap.size <= z from hbl.elim (fun e => .inl e) fun e => .inr ⟨_, e, HI9.out.2⟩);clear ha hgr hbl hown kp hsr hm1 hm2 hbz;simp only [Sl.val]
       go_wp2_with fail
       exact ⟨rfl, rfl, ⟨t, p, s, q, wq.heap.size, rfl, HP.out, HK8.out, HK9.out, HOWN.out, HBL.out⟩, HGR.out, HI9.out⟩
      all_goals
       simp only [List.getElem?_cons_succ, List.getElem?_cons_zero, zO] at ho
       subst ho;simp [NeedsB, Region.binds, ChC] at hd
      all_goals clear hj hdi HCC HDI HCL
      case inr.inr.inr.inr.inr.inr.inr.inl =>
       obtain ⟨r, h6, hr⟩ := hd;have hpo := policy_any w9 r (by omega);clear l1 hr;go_wp2_with (go_at_call 35; refine hpo.mono ?_; rintro e w10 ⟨p, rfl, hp100, hb10⟩)
       exact ⟨rfl, rfl, ⟨p, rfl, hp100⟩, hb10⟩
      case inr.inr.inr.inr.inr.inr.inr.inr.inl =>
       clear l1;go_wp2_with fail
       have hA : Below w9.heap.size w9 (w9.alloc (.cells #[.string ⟨#[49, 46, 50]⟩] 9)) := (Below.refl _ _).alloc (zR _) _;exact ⟨rfl, rfl, ⟨⟨some ⟨w9.heap.size, 0, none⟩, 1, 1⟩, rfl, by rw [HQ12.out]; exact own_alloc encS_ok w9 [([49, 46, 50] : B)] _ rfl HS9.out (by unfold maxLen; simp)⟩, hA⟩
      case inr.inr.inr.inr.inr.inr.inr.inr.inr.inl =>
       clear l1;go_wp2_with fail
       have hA : Below w9.heap.size w9 (w9.alloc (.cells #[.int .i64 0] 3)) := (Below.refl _ _).alloc (zR _) _;exact ⟨rfl, rfl, ⟨⟨some ⟨w9.heap.size, 0, none⟩, 1, 1⟩, rfl, own_alloc encI_ok w9 [(0 : Int)] _ rfl HS9.out (by unfold maxLen; simp)⟩, hA⟩
      case inr.inr.inr.inr.inr.inr.inr.inr.inr.inr.inl =>
       obtain ⟨⟨p, h7, hp⟩, ⟨s, h8, ho8⟩, ⟨q, h9, ho9⟩⟩ := hd;have HO8 := Bx.mk ho8;have HO9 := Bx.mk ho9;have HP := Bx.mk hp;clear l1 ho8 ho9 hp;go_wp2_with fail
       exact ⟨rfl, rfl, ⟨p, s, q, rfl, HP.out, HO8.out, HO9.out⟩, Below.refl _ _⟩
      case inr.inr.inr.inr.inr.inr.inr.inr.inr.inr.inr.inl =>
       obtain ⟨p, s, q, h10, hp, ho8, ho9⟩ := (show ∃ (p : B) (s q : Sl), z 10 = .agg #[.string (bstr p), .slice s.ad s.n s.c, .slice q.ad q.n q.c] /\ p.length <= 100 /\ Slc.Own w9 w8.heap.size 9 1 encS s.val q12 /\ Slc.Own w9 w8.heap.size 3 1 encI q.val [0] by
        first
         | exact hd
         | (obtain ⟨p, ⟨s, q, e1, e2, e3, e4⟩⟩ := hd; exact ⟨p, s, q, e1, e2, e3, e4⟩)
         | (obtain ⟨p, s, q, e1, e2, e3, e4⟩ := hd; exact ⟨p, s, q, e1, e2, e3, e4⟩))
       have HO8 := Bx.mk ho8;have HO9 := Bx.mk ho9;have HP := Bx.mk hp;clear l1 ho8 ho9 hp hd;go_wp2_with fail
       have hA : Below w9.heap.size w9 (w9.alloc (.cells #[.string (bstr p), .slice s.ad s.n s.c, .slice q.ad q.n q.c] 65)) := (Below.refl _ _).alloc (zR _) _;exact ⟨rfl, rfl, ⟨_, p, s, q, rfl, HS9.out, heap_alloc_new _ _, HP.out, HO8.out.below hA, HO9.out.below hA⟩, hA⟩
      all_goals
       go_wp2_with fail
       exact ⟨rfl, rfl, rfl, Below.refl _ _⟩
     ·intro d z w9 hall hCC hf;have f12 := hf 12 (by omega) (fun c hc => by cases hc);have f14 := hf 14 (by omega) (fun c hc => by cases hc);simp only [ChC] at f12 f14
      obtain ⟨t, p, s, q, B0, f12, hp100, ho8, ho9, hown, hbl⟩ := f12
      obtain ⟨wz, hcz, hgz⟩ : ∃ wz : World, (CSG w v zs g wq wz (.slice (some ⟨gb0, 0, none⟩) N occ) oc /\ w8.heap.size <= wz.heap.size) /\ wz.grownBy w9 (some lb) := by
       rcases hCC with h | ⟨-, wz, h2, h4⟩
       ·exact ⟨w9, h, grown_refl _ _⟩
       ·exact ⟨wz, h2, h4⟩
      have hlbG : GB (.slice (some ⟨gb0, 0, none⟩) N occ) oc lb := .inr ⟨_, zM HIL.out, by rw [HLB.out]; rfl⟩;have hlz : lb < w8.heap.size /\ gb0 < w8.heap.size /\ lb ≠ gb0 := HLBL.out
      have hlo : Slc.Own w9 wq.heap.size 63 1 encL (.slice (some ⟨gb0, 0, none⟩) N occ) oc := hcz.1.tr.own.keep fun k hk hkl => hgz.block k hkl fun e => by
       simp only [zO] at e
       have h2 : gb0 = k := (by simpa [Value.ownBlock] using hk);exact hlz.2.2 (by rw [<- e, <- h2])
      obtain ⟨gbx, capx, hvx, hB9, hlt9, hfr9, hown9, hgr9⟩ := hlo.set1 encL_ok i 0 HIL.out (by omega) t.val (⟨VS ++ [⟨⟨p, q12, [0]⟩, s, q⟩], t⟩ : Lv) rfl;simp only [Value.slice.injEq, zO, Addr.mk.injEq, and_true] at hvx
      obtain ⟨hgbx, -, -⟩ := hvx;subst hgbx;rw [Nat.mul_one, Nat.add_zero] at hown9 hgr9;obtain ⟨W10, hW10⟩ : ∃ W10, W10 = w9.setCell ⟨gb0, i, none⟩ t.val := ⟨_, rfl⟩
      rw [<- hW10] at hown9 hgr9;have hmv : ∀ k, k < w9.heap.size -> k ≠ gb0 -> W10.heap[k]? = w9.heap[k]? := fun k hk hne => hgr9.block k hk fun e => by simp only [zO] at e; exact hne e
      have kx : ∀ L ∈ oc, ∀ x ∈ L.vs, VtAt W10 x := fun L hL x hx => by
       have h1 : VtIn w9 (fun k => ¬ GB (.slice (some ⟨gb0, 0, none⟩) N occ) oc k) x := (hcz.1.tr.nm L hL x hx).keep hgz.size fun k hk hkl => hgz.block k hkl fun e => by
        simp only [zO] at e
        subst e; exact hk hlbG
       exact (h1.keep hgr9.size fun k hk hkl => hmv k hkl fun e => by subst e; exact hk (.inl rfl)).at_
      have hgq : GQ W10 (.slice (some ⟨gb0, 0, none⟩) N occ) (oc.set i ⟨VS ++ [⟨⟨p, q12, [0]⟩, s, q⟩], t⟩) := by
       refine ⟨hown9.rd, fun L hL => ?_⟩;obtain ⟨q', hq', rfl⟩ := List.getElem_of_mem hL;rw [zL] at hq';rw [List.getElem_set];by_cases eqi : i = q'
       rotate_left 1
       ·rw [if_neg eqi];have hr0 := (hcz.1.tr.lv _ (zM hq')).rd
        have hr1 : Rd w9 encV (oc[q']).s.val (oc[q']).vs := hr0.keep hgz.size fun k hk hkl => hgz.block k hkl fun e => by
         simp only [zO] at e
         exact hcz.1.tr.ap q' i hq' HIL.out (fun e => eqi e.symm) k hk (by rw [HLB.out, e]; rfl)
        have hr : Rd W10 encV (oc[q']).s.val (oc[q']).vs := hr1.keep hgr9.size fun k hk hkl => hmv k hkl fun e => by
         subst e;exact hcz.1.tr.ao _ (zM hq') k hk rfl
        exact ⟨.inr ⟨hr, hr.lt⟩, fun x hx => (kx _ (zM hq') x hx).q⟩
       ·rw [if_pos eqi]
        have hr : Rd W10 encV t.val (VS ++ [⟨⟨p, q12, [0]⟩, s, q⟩]) := hown.rd.keep hgr9.size fun k hk hkl => hmv k hkl fun e => by
         subst e;rcases hbl with e1 | ⟨z', e1, e2⟩
         ·rw [hk] at e1; simp only [zO] at e1; exact hlz.2.2 e1.symm
         ·rw [hk] at e1; simp only [zO] at e1; omega
        refine ⟨.inr ⟨hr, hr.lt⟩, fun x hx => ?_⟩;rcases List.mem_append.1 hx with e | e
        ·exact (kx _ (zM HIL.out) x (by rw [<- HVS.out]; exact e)).q
        ·rw [zS] at e;subst e;have h8 : Rd W10 encS s.val q12 := ho8.rd.keep hgr9.size fun k hk hkl => hmv k hkl fun e => by have := (ho8.lt k hk).1; omega
         have h9 : Rd W10 encI q.val [0] := ho9.rd.keep hgr9.size fun k hk hkl => hmv k hkl fun e => by have := (ho9.lt k hk).1; omega
         refine ⟨.inr h8, .inr ⟨h9, h9.lt⟩, ⟨by rw [HQ12.out]; simp, fun b hb => ?_⟩, ?_, ?_⟩
         ·rw [HQ12.out, zS] at hb;subst hb
          show 3 <= 1000000
          omega
         ·show p.length <= 1000000; omega
         ·show 1 <= 100000; omega
      have hbb : Below wq.heap.size wz W10 := by
       have h1 : Below wq.heap.size wz w9 := (show Below wq.heap.size wz wz from ⟨rfl, rfl, rfl, zR _, fun _ _ => rfl⟩).grown hgz (Nat.le_trans HWQ.out hcz.2) fun k hk => by simp only [zO] at hk; subst hk; exact (hcz.1.tr.lt hlbG).1
       exact h1.grown hgr9 (Nat.le_trans (Nat.le_trans HWQ.out hcz.2) hgz.size) fun k hk => by simp only [zO] at hk; subst hk; exact (hcz.1.tr.lt (k := gb0) (.inl rfl)).1
      have HGQ := Bx.mk hgq;have HDK := Bx.mk (deck_keep hcz.1.dk hbb HGL.out HW0.out)
      have HGR := Bx.mk (show wq.grownBy W10 (some g) from ⟨hbb.os.trans hcz.1.gr.os, hbb.tape.trans hcz.1.gr.tape, hbb.output.trans hcz.1.gr.output, Nat.le_trans hcz.1.gr.size hbb.size, fun i hi hne => (hbb.block i (by
       exact hi)).trans (hcz.1.gr.block i hi hne)⟩)
      have HBF := Bx.mk (HBO.out.set i (L' := ⟨VS ++ [⟨⟨p, q12, [0]⟩, s, q⟩], t⟩) (by
       have hb := HBO.out.2 _ (zM HIL.out);refine ⟨by show (VS ++ [_]).length <= 2201; rw [List.length_append, List.length_singleton, HVS.out]; have := GI_len.out; omega, fun y hy => ?_⟩;rcases List.mem_append.1 hy with e | e
       ·exact hb.2 y (by rw [<- HVS.out]; exact e)
       ·rw [zS] at e;subst e
        show q12.length <= 5
        rw [HQ12.out]; simp))
      have hz9 := hfr9 i
      have hcl : w9.cell? ⟨gb0, i, none⟩ = some (.slice (some ⟨lb, 0, none⟩) NV lcap) := by
       have h5 := HLC.out wz hcz.1;have h6 := hgz.block gb0 (World.block_lt_of_cell? wz _ h5) (fun e => by simp only [zO] at e; exact hlz.2.2 e.symm);unfold World.cell? at h5 |-;rw [h6]; exact h5
      have HW10 := Bx.mk hW10;simp only [List.take_succ_cons, List.take_zero, List.drop_succ_cons, List.drop_zero, putFrom, Act.put, List.setIfInBounds_toArray, List.set_cons_succ, List.set_cons_zero, Nat.zero_add, Nat.reduceAdd, f12, f14]
      clear hf f12 f14 hall hCC hp100 ho8 ho9 hown hbl hcz hgz hlbG hlz hlo hB9 hlt9 hfr9 hown9 hgr9 hW10 hmv kx hgq hbb;simp only [Sl.val] at HW10
      go_wp2_with fail
      rw [<- HW10.out];rw [HQ.out];exact ⟨_, _, rfl, HGQ.out, HTD.out.grow HGR.out HDK.out, HGR.out, HBF.out⟩
    ·go_wp2_with fail
     rw [HQ.out];exact ⟨_, oc, rfl, HCS8.out.tr.gl.q, HTD.out.grow HCS8.out.gr HCS8.out.dk, HCS8.out.gr, HBO.out⟩
end Go.Proofs.YtmagjdocondmhaaGreat.Tr.Gr
namespace Go.Proofs.YtmagjdocondmhaaGreat.Tr.Gr
open Go Go.RowKit Slc St Mp Tr Rg
structure LB (G : List (List Vx)) (n b : Nat) : Prop where
 len : G.length <= n
 lev : ∀ l ∈ G, l.length <= b
theorem LB.at_ {G : List (List Vx)} {n b : Nat} (h : LB G n b) (k : Nat) : (G[k]!).length <= b := by
 by_cases hk : k < G.length
 ·rw [getElem!_pos G k hk]; exact h.lev _ (zM hk)
 ·rw [getElem!_neg G k hk]; exact Nat.zero_le _
theorem LB.nil (n b : Nat) : LB [] n b := ⟨Nat.zero_le _, fun l hl => by cases hl⟩
theorem LB.lv {l : List Lv} {n b : Nat} (h : LB (gxs l) n b) : l.length <= n /\ ∀ L ∈ l, L.vs.length <= b := ⟨by have := h.len; rwa [gxs_len] at this, fun L hL => by
 have := h.lev (vxs L.vs) (List.mem_map.2 ⟨L, hL, rfl⟩)
 rwa [vxs_len] at this⟩
theorem LB.prune {g : List (List Vx)} {n b : Nat} (hl : g.length <= n) (h : ∀ (k : Nat), (g[k]!).length <= b) : LB (pruneG g) n b := by
 rcases pruneG_sub g with e | ⟨e1, e2⟩
 ·rw [e]; exact LB.nil _ _
 ·refine ⟨by omega, fun l hm => ?_⟩;obtain ⟨k, hk, rfl⟩ := List.getElem_of_mem hm;have hs := e2 k;rw [getElem!_pos _ k hk] at hs;exact Nat.le_trans hs.1 (h k)
theorem BDG.lb {l : List Lv} (h : BDG l) : LB (gxs l) 5 2201 := ⟨by rw [gxs_len]; exact h.1, fun q hq => by
 obtain ⟨L, hL, rfl⟩ := List.mem_map.1 hq;rw [vxs_len]
 exact (h.2 L hL).1⟩
attribute [local go_sem] Oper.semAt_some
theorem asc_at {l : List Int} (h : l.Pairwise (· < ·)) (h0 : ∀ p ∈ l, 0 <= p) : ∀ i (hi : i < l.length), (i : Int) <= l[i]
 | 0, hi => h0 _ (zM hi)
 | i + 1, hi => by
  have h1 := asc_at h h0 i (by omega);have h2 := List.pairwise_iff_getElem.1 h i (i + 1) (by omega) hi (by omega);omega
theorem asc_len {l : List Int} {n : Nat} (h : l.Pairwise (· < ·)) (h0 : ∀ p ∈ l, 0 <= p /\ p < (n : Int)) : l.length <= n := by
 rcases Nat.eq_zero_or_pos l.length with e | e
 ·omega
 ·have h1 := asc_at h (fun p hp => (h0 p hp).1) (l.length - 1) (by omega);have h2 := (h0 _ (zM (show l.length - 1 < l.length by omega))).2;omega
theorem valid_pb {g : List (List Vx)} (h : gvalidB g = true) (hl : ∀ l ∈ g, l.length <= 40000) : PB 40000 g := fun l hm v hv => by
 obtain ⟨k, hk, rfl⟩ := List.getElem_of_mem hm
 cases k with
 | zero =>
  obtain ⟨u, hu, hp, -⟩ := gvalid_top h hk;rw [getElem!_pos g 0 hk] at hu;rw [hu, zS] at hv
  rw [hv, hp]; simp
 | succ k =>
  have hv' : v ∈ g[k + 1]! := by rw [getElem!_pos g (k + 1) hk]; exact hv
  have h1 := gvalid_asc h k hk v hv';have h2 := (gvalid_pg h fun l hl' => by have := hl l hl'; omega).par k hk v hv';have h3 := asc_len h1 h2;have h4 := hl _ (zM (show k < g.length by omega));rw [getElem!_pos g k (by omega)] at h3;omega
theorem grestr_bad (w : World) (v pv : Value) (g : List Lv) (ps : List B) (h : GQ w v g) (hp : Rd w encS pv ps) (hn : g.length <= 90000) (hln : ∀ L ∈ g, L.vs.length <= 40000) (hb : gvalidB (gxs g) = false) :
  Calls Tryz.prog 28 #[v, pv] w fun e w' => GrP w (gresP (gxs g) ps) e w' := by
 have hval := gvalid_q w v g h (by omega) (fun L hL => by have := hln L hL; omega);rw [hb] at hval;have HR := Bx.mk (show gresP (gxs g) ps = ([], 7) by unfold gresP; rw [hb]; rfl);rw [HR.out];obtain ⟨ad, c, rfl, -⟩ := h.rd.form;obtain ⟨pa, pc, rfl, -⟩ := hp.form;obtain ⟨N, hN⟩ : ∃ N, N = g.length := ⟨_, rfl⟩
 obtain ⟨PN, hPN⟩ : ∃ N, N = ps.length := ⟨_, rfl⟩
 rw [<- hN] at hval |-;rw [<- hPN];clear h hp hln hN hPN hb hn;unfold GrP;go_enter Tryz.func28, Tryz.ntmps28;go_wp2_with fail
 go_at_call 15;refine hval.mono ?_;rintro e w1 ⟨rfl, hb1⟩;clear hval;go_wp2_with fail
 go_ret2;exact ⟨_, [], rfl, GO.nil _ _, rfl, hb1⟩
theorem rgrestr_bad (w : World) (v pv : Value) (g : List Lv) (ps : List B) (h : GQ w v g) (hp : Rd w encS pv ps) (hn : g.length <= 90000) (hln : ∀ L ∈ g, L.vs.length <= 40000) (hb : gvalidB (gxs g) = false) :
  Calls Tryz.prog 29 #[v, pv] w fun e w' => GrN w (gresP (gxs g) ps) e w' := by
 have hval := rgvalid_q w v g h (by omega) (fun L hL => by have := hln L hL; omega);rw [hb] at hval;have HR := Bx.mk (show gresP (gxs g) ps = ([], 7) by unfold gresP; rw [hb]; rfl);rw [HR.out];obtain ⟨ad, c, rfl, -⟩ := h.rd.form;obtain ⟨pa, pc, rfl, -⟩ := hp.form;obtain ⟨N, hN⟩ : ∃ N, N = g.length := ⟨_, rfl⟩
 obtain ⟨PN, hPN⟩ : ∃ N, N = ps.length := ⟨_, rfl⟩
 rw [<- hN] at hval |-;rw [<- hPN];clear h hp hln hN hPN hb hn;unfold GrN;go_enter Tryz.func29, Tryz.ntmps29;go_wp2_with fail
 go_at_call 16;refine hval.mono ?_;rintro e w1 ⟨rfl, hb1⟩;clear hval;go_wp2_with fail
 go_ret2;exact ⟨_, [], rfl, GO.nil _ _, rfl, hb1, NQ.nil _⟩
theorem gxs_ll {g : List Lv} (h : ∀ L ∈ g, L.vs.length <= 40000) : ∀ l ∈ gxs g, l.length <= 40000 := fun l hl => by
 obtain ⟨L, hL, rfl⟩ := List.mem_map.1 hl;rw [vxs_len]; exact h L hL
theorem grestr2_any (w : World) (v pv : Value) (g : List Lv) (ps : List B) (h : GQ w v g) (hp : Rd w encS pv ps) (hn : g.length <= 90000) (hln : ∀ L ∈ g, L.vs.length <= 40000) (hpl : ps.length <= 40000) (hpx : ∀ p ∈ ps, p.length <= 1000000) :
  Calls Tryz.prog 28 #[v, pv] w fun e w' => GrP w (gresP (gxs g) ps) e w' := by
 cases hb : gvalidB (gxs g) with
 | true => exact grestr_any w v pv g ps h hp hn hln (valid_pb hb (gxs_ll hln)) hpl hpx
 | false => exact grestr_bad w v pv g ps h hp hn hln hb
theorem rgrestr2_any (w : World) (v pv : Value) (g : List Lv) (ps : List B) (h : GQ w v g) (hp : Rd w encS pv ps) (hn : g.length <= 90000) (hln : ∀ L ∈ g, L.vs.length <= 40000) (hpl : ps.length <= 40000) (hpx : ∀ p ∈ ps, p.length <= 1000000) :
  Calls Tryz.prog 29 #[v, pv] w fun e w' => GrN w (gresP (gxs g) ps) e w' := by
 cases hb : gvalidB (gxs g) with
 | true => exact rgrestr_any w v pv g ps h hp hn hln (valid_pb hb (gxs_ll hln)) hpl hpx
 | false => exact rgrestr_bad w v pv g ps h hp hn hln hb
theorem LB.restr {G : List (List Vx)} {n b : Nat} (h : LB G n b) (ps : List B) (hm : ps.length <= 10) : LB (gresP G ps).1 n (b + 10) := by
 have hk9 : (setB ps).length <= 10 := Nat.le_trans (setB_length ps) hm;unfold gresP;split
 ·have hlen : (gresG G ps).length = G.length := by
   unfold gresG;split
   ·rfl
   ·split
    ·exact wanG_len _ _ _
    ·rw [zL]; exact wanG_len _ _ _
  refine LB.prune (by rw [hlen]; exact h.len) fun k => ?_
  unfold gresG;split
  ·have := h.at_ k; omega
  ·rename_i hg
   have hG : 0 < G.length := by
    rcases Nat.eq_zero_or_pos G.length with e | e
    ·exact absurd (.inl e) hg
    ·exact e
   have hw : ∀ j : Nat, ((wanG ps G (G.length - 1))[j]!).length <= b := fun j => Nat.le_trans (wanG_ll ps G j (G.length - 1) (.inl (by omega))) (h.at_ j)
   split
   ·have := hw k; omega
   ·rw [set_at2 (by rw [wanG_len]; omega)];split
    ·refine Nat.le_trans (resL_len _ _ _ _) ?_;have h1 := hw (G.length - 1);have h2 := delL_len (wanG ps G (G.length - 1))[G.length - 1]! (fndP (wanG ps G (G.length - 1))[G.length - 1]! anyP).toNat;omega
    ·have := hw k; omega
 ·exact LB.nil _ _
theorem gpol2_any (w : World) (v : Value) (g : List Lv) (h : GQ w v g) (hn : g.length <= 40) (hln : ∀ L ∈ g, L.vs.length <= 2300) :
  Calls Tryz.prog 31 #[v] w fun e w' => ∃ v', e = .returned v' /\ Slc.Own w' w.heap.size 9 1 encS v' (gpolP (gxs g)) /\ Below w.heap.size w w' := by
 have hval := gvalid_q w v g h (by omega) (fun L hL => by have := hln L hL; omega);obtain ⟨ad, c, rfl, -⟩ := h.rd.form;have HQ := Bx.mk h;have HLN := Bx.mk hln;obtain ⟨N, hN⟩ : ∃ N, N = g.length := ⟨_, rfl⟩
 have HN := Bx.mk hN;obtain ⟨R, hR⟩ : ∃ R, R = gpolP (gxs g) := ⟨_, rfl⟩
 rw [<- hR];unfold gpolP at hR;obtain ⟨V, hV⟩ : ∃ V, V = gvalidB (gxs g) := ⟨_, rfl⟩
 rw [<- hV] at hval hR;have HV := Bx.mk hV;have HRR := Bx.mk hR;rw [<- hN] at hn hval |-;clear h hln hN hV hR;go_enter Tryz.func31, Tryz.ntmps31;go_wp2_with fail
 go_at_call 15;refine hval.mono ?_;rintro e w1 ⟨rfl, hb1⟩;clear hval
 cases V with
 | false =>
  have HF := Bx.mk (show R = [] by rw [HRR.out]; rfl);go_wp2_with fail
  go_ret
  exact ⟨_, rfl, by rw [HF.out]; exact Slc.Own.nil _ _, hb1⟩
 | true =>
  have HGL := Bx.mk (HQ.out.gl HV.out.symm (fun L hL => by have := HLN.out L hL; omega));have HRF := Bx.mk (show R = setB (polL (gxs g) N) by rw [HRR.out, if_pos rfl, gxs_len, HN.out]);have HB1 := Bx.mk hb1;have hmm := @run_makeMap Tryz.prog;obtain ⟨W3, hW3⟩ : ∃ W3, W3 = w1.alloc (.map #[] 0) := ⟨_, rfl⟩
  obtain ⟨fm, hfm⟩ : ∃ be, be = w1.heap.size := ⟨_, rfl⟩
  have HFM := Bx.mk (show w.heap.size <= fm by rw [hfm]; exact hb1.size);have HM3 := Bx.mk (show ∃ q, q <= 1 * 2300 /\ OwnF W3 kS rdB edB fm q (exF (polL (gxs g) 1)) by rw [polL_one, exF_nil]; exact ⟨0, by omega, by rw [hW3, hfm]; exact OwnF.made w1 kS rdB edB⟩);have HBA := Bx.mk (show Below w.heap.size w W3 by rw [hW3]; exact hb1.alloc hb1.size _);clear hb1;go_upto_region 4 with fail
  rw [<- hW3, <- hfm];clear hW3 hfm hmm;go_wp2_with fail
  go_loopw [4] (fun i wr => ∃ k : Nat, 1 <= k /\ (k <= N \/ k = 1) /\ i = .int .i64 k /\ Bx (∃ q, q <= k * 2300 /\ OwnF wr kS rdB edB fm q (exF (polL (gxs g) k))) /\ Bx (Below w.heap.size w wr)) (fun i _ => N - (intOf i).toNat)
  case atStart => exact ⟨1, by omega, .inr rfl, rfl, HM3, HBA⟩
  case round =>
   clear HM3 HBA;obtain ⟨k, hk1, hk, rfl, hO, hB⟩ := hrel;by_cases hlt : k < N
   ·have hkl : k < g.length := by rw [<- HN.out]; exact hlt
    have hkl1 : k - 1 < g.length := (by omega);have hgb := HGL.out.below hB.out;obtain ⟨b, o, rfl, -, c0⟩ := HQ.out.at1 wr hB.out k hkl;obtain ⟨b', o', hbe, -, c1⟩ := HQ.out.at1 wr hB.out (k - 1) hkl1;simp only [zO, Addr.mk.injEq, and_true] at hbe
    obtain ⟨rfl, rfl⟩ := hbe;have HVL := Bx.mk (hgb.lv _ (zM hkl));have HVA := Bx.mk (hgb.lv _ (zM hkl1));have hll := HLN.out _ (zM hkl);have hla := HLN.out _ (zM hkl1);have HXL := Bx.mk (gxs_at g k hkl);have HXA := Bx.mk (gxs_at g (k - 1) hkl1);obtain ⟨L, hL⟩ : ∃ L, L = g[k]'hkl := ⟨_, rfl⟩
    obtain ⟨A, hA⟩ : ∃ A, A = g[k - 1]'hkl1 := ⟨_, rfl⟩
    rw [<- hL] at c0 HVL hll HXL;have HLG := Bx.mk (show L ∈ g by rw [hL]; exact zM hkl);rw [<- hA] at c1 HVA hla HXA;obtain ⟨lad, lc, hls, -⟩ := HVL.out.rd.form;obtain ⟨aad, ac, has, -⟩ := HVA.out.rd.form;have HLS := Bx.mk hls;rw [hls] at c0 HVL;rw [has] at c1 HVA;have hfd := find_any wr (.slice aad A.vs.length ac) A.vs HVA.out (by omega) anyP;rw [anyP_str] at hfd;obtain ⟨ST, hST⟩ : ∃ ST, ST = fndP (vxs A.vs) anyP := ⟨_, rfl⟩
    have HST := Bx.mk (show fndP (gxs g)[k - 1]! anyP = ST by rw [HXA.out, hST]);rw [<- hST] at hfd;obtain ⟨M, hM⟩ : ∃ M, M = L.vs.length := ⟨_, rfl⟩
    obtain ⟨AN, hAN⟩ : ∃ M, M = A.vs.length := ⟨_, rfl⟩
    have HM := Bx.mk hM;rw [<- hM] at c0 hll;rw [<- hAN] at c1 hla hfd;clear hL hA hls has hST hM hAN hgb hkl hkl1 HVA;go_wp2_with fail
    go_at_call 50;refine hfd.mono ?_;rintro e w3 ⟨rfl, hb3⟩;have HB3 := Bx.mk hb3;have c0' := (hb3.cell (p := ⟨b, o + k, none⟩) (World.block_lt_of_cell? wr _ c0)).trans c0;have HVL3 := Bx.mk (HVL.out.below hb3);have HBW3 := Bx.mk (hB.out.trans (hb3.mono hB.out.size))
    have HO3 := Bx.mk (show ∃ q, q <= k * 2300 + 0 /\ OwnF w3 kS rdB edB fm q (exF (polM (gxs g) k 0)) by
     rw [polM_zero];obtain ⟨q, h1, h2⟩ := hO.out
     exact ⟨q, by omega, h2.below hb3⟩)
    clear hfd c0 c1 hb3 HVL hO hB;go_wp2_with fail
    clear c0';go_loopw [30] (fun i wr => ∃ j : Nat, j <= M /\ i = .int .i64 j /\ Bx (∃ q, q <= k * 2300 + j /\ OwnF wr kS rdB edB fm q (exF (polM (gxs g) k j))) /\ Bx (Below w3.heap.size w3 wr \/ True) /\ Bx (Below w.heap.size w wr)) (fun i _ => M - (intOf i).toNat)
    case atStart => exact ⟨0, by omega, rfl, HO3, ⟨.inr trivial⟩, HBW3⟩
    case round =>
     clear HO3;obtain ⟨j, hj, rfl, hO, -, hB⟩ := hrel;by_cases hltj : j < M
     ·have hjl : j < L.vs.length := by rw [<- HM.out]; exact hltj
      obtain ⟨bv, ov, rfl, -, c0, c1, c2⟩ := VL.at3 (HGL.out.lv _ HLG.out |> fun q => by rw [HLS.out] at q; exact q) wr hB.out j hjl;have HXA2 := Bx.mk (((HGL.out.lv _ HLG.out).at_ _ (zM hjl)));have HXN := Bx.mk (vxs_at L.vs j hjl);obtain ⟨x, hx⟩ : ∃ x, x = L.vs[j]'hjl := ⟨_, rfl⟩
      rw [<- hx] at c0 c1 c2 HXA2 HXN;simp only [Sl.val] at c1 c2
      have HPS := Bx.mk (polM_succ (gxs g) k j (by rw [HXL.out, vxs_len, <- HM.out]; exact hltj));obtain ⟨R1, hR1⟩ : ∃ R1, R1 = polV (gxs g) k x.n := ⟨_, rfl⟩
      have HPS2 := Bx.mk (show polM (gxs g) k (j + 1) = polM (gxs g) k j ++ if R1 then [x.n.pol] else [] by rw [HPS.out, HXL.out, HXN.out, hR1]);have HRV := Bx.mk (show R1 = ((decide (0 <= ST) && decide (ST ∈ x.n.par)) && (!specV x.n || decide (k = N - 1))) by rw [hR1]; unfold polV; rw [HST.out, gxs_len, HN.out]);have HPL := Bx.mk HXA2.out.2.2.2.1;have HPAL := Bx.mk HXA2.out.2.2.2.2.1;clear hx hjl hR1 HPS;obtain ⟨W4, hW4⟩ : ∃ W4, W4 = wr.alloc (.cells #[.string (bstr x.n.pol), .slice x.u.ad x.u.n x.u.c, .slice x.q.ad x.q.n x.q.c] 65) := ⟨_, rfl⟩
      obtain ⟨q7, hq7⟩ : ∃ q, q = wr.heap.size := ⟨_, rfl⟩
      have HR4 := Bx.mk (show W4.heap[q7]? = some (.cells #[.string (bstr x.n.pol), .slice x.u.ad x.u.n x.u.c, .slice x.q.ad x.q.n x.q.c] 65 (0, 0)) by rw [hW4, hq7]; exact heap_alloc_new _ _);have hba : Below wr.heap.size wr W4 := (by rw [hW4]; exact (Below.refl _ _).alloc (zR _) _);have HB4 := Bx.mk (hB.out.trans (hba.mono hB.out.size));have HO4 := Bx.mk (show ∃ q, q <= k * 2300 + j /\ OwnF W4 kS rdB edB fm q (exF (polM (gxs g) k j)) by obtain ⟨q, h1, h2⟩ := hO.out; exact ⟨q, h1, h2.below hba⟩);have hci := containsI_any W4 x.q.val x.n.par ST (Ri.below HXA2.out.2.1 HB4.out) (by have := HPAL.out; omega);simp only [Sl.val] at hci
      have HSP := Bx.mk (gspec_any x W4);clear hO hB hba;go_upto_region 11 with fail
      rw [<- hW4, <- hq7];clear hW4 hq7 c0 c1 c2;go_cut [53] (fun cc wx => cc = .bool R1 /\ Below W4.heap.size W4 wx)
      case first =>
       have hr4 := HR4.out;have m0 := cell_of_row _ _ 0 _ _ _ hr4;have m1 := cell_of_row _ _ 1 _ _ _ hr4;have m2 := cell_of_row _ _ 2 _ _ _ hr4;simp only [List.getElem?_toArray, List.getElem?_cons_zero, List.getElem?_cons_succ] at m0 m1 m2
       have hsp := HSP.out;unfold verV at hsp;simp only [Sl.val] at hsp
       have hRw := HRV.out;obtain ⟨tc, htc⟩ : ∃ t, t = decide (ST ∈ x.n.par) := ⟨_, rfl⟩
       obtain ⟨ts, hts⟩ : ∃ t, t = specV x.n := ⟨_, rfl⟩
       rw [<- htc] at hci hRw;rw [<- hts] at hsp hRw;clear hr4 htc hts HRV;by_cases hst : 0 <= ST
       ·have t35 : decide (ST >= 0) = true := zT hst;rw [zT hst, Bool.true_and] at hRw;have HH := Bx.mk hRw;clear hRw;go_wp2_with fail
        go_at_call 78;refine hci.mono ?_;rintro e w5 ⟨rfl, rfl⟩;clear hci
        cases tc with
        | false =>
         go_wp2_with fail
         go_meet
         exact ⟨by rw [HH.out]; rfl, Below.refl _ _⟩
        | true =>
         go_wp2_with fail
         go_at_call 41;refine hsp.mono ?_;rintro e w6 ⟨rfl, hb6⟩;clear hsp m0 m1 m2
         cases ts with
         | false =>
          go_wp2_with fail
          go_meet
          exact ⟨by rw [HH.out]; rfl, hb6⟩
         | true =>
          by_cases hkn : k = N - 1
          ·have tk : ((k : Int) == (N : Int) - 1) = true := by simp; omega
           have HH3 := Bx.mk (show R1 = true by rw [HH.out, zT hkn]; rfl);clear hkn;go_wp2_with fail
           go_meet;exact ⟨by rw [HH3.out], hb6⟩
          ·have tk : ((k : Int) == (N : Int) - 1) = false := by simp; omega
           have HH3 := Bx.mk (show R1 = false by rw [HH.out, zF hkn]; rfl);go_wp2_with fail
           go_meet;exact ⟨by rw [HH3.out], hb6⟩
       ·have t35 : decide (ST >= 0) = false := zF hst;have HH := Bx.mk (show R1 = false by rw [hRw, zF hst]; rfl);clear hRw hci hsp;go_wp2_with fail
        go_meet;exact ⟨by rw [HH.out], Below.refl _ _⟩
      case rest =>
      obtain ⟨rfl, hbx⟩ := hcut;have HBX := Bx.mk (HB4.out.trans (hbx.mono HB4.out.size));obtain ⟨q, hq, hop⟩ := HO4.out;have hr5 := (hbx.block q7 (lt_of_some HR4.out)).trans HR4.out;have m0 := cell_of_row _ _ 0 _ _ _ hr5;simp only [List.getElem?_toArray, List.getElem?_cons_zero, List.getElem?_cons_succ] at m0
      cases R1 with
      | true =>
       have hopx := hop.below hbx;obtain ⟨w6, hrun, ho6, hg6⟩ := hopx.putS u_mapSB (by unfold maxLen; omega) (k := x.n.pol) (by have := HPL.out; unfold maxLen; omega) true (.bool true) (rdB_mk _)
       have HO6 := Bx.mk (show ∃ q, q <= k * 2300 + (j + 1) /\ OwnF w6 kS rdB edB fm q (exF (polM (gxs g) k (j + 1))) by
        rw [HPS2.out, if_pos rfl, exF_snoc]; exact ⟨_, by omega, ho6⟩)
       have HB6 := Bx.mk (HBX.out.grown hg6 HBX.out.size fun i hi => by simp only [zO] at hi; have := HFM.out; omega);have hrun' : (Instr.mapUpdate 98 (.map (some fm)) (.string (bstr x.n.pol)) (.bool true)).run Tryz.prog wc = .ok () w6 := hrun;clear hr5 hop hq hbx hopx ho6 hg6 hrun;go_wp2_with fail
       go_roundw
       case rel => exact ⟨j + 1, by omega, by go_num, HO6, ⟨.inr trivial⟩, HB6⟩
       case measure => simp [intOf]; omega
      | false =>
       have HO6 := Bx.mk (show ∃ q, q <= k * 2300 + (j + 1) /\ OwnF wc kS rdB edB fm q (exF (polM (gxs g) k (j + 1))) by
        rw [HPS2.out, if_neg (by simp), List.append_nil]; exact ⟨q, by omega, hop.below hbx⟩)
       clear hr5 hop hq hbx;go_wp2_with fail
       go_roundw
       case rel => exact ⟨j + 1, by omega, by go_num, HO6, ⟨.inr trivial⟩, HBX⟩
       case measure => simp [intOf]; omega
     ·obtain rfl : j = M := by omega
      have HO4 := Bx.mk (show ∃ q, q <= (k + 1) * 2300 /\ OwnF wr kS rdB edB fm q (exF (polL (gxs g) (k + 1))) by
       obtain ⟨q, h1, h2⟩ := hO.out;rw [HM.out, <- vxs_len, <- HXL.out, polM_all _ _ (by omega)] at h2
       exact ⟨q, by omega, h2⟩)
      go_wp2_with fail
      go_roundw
      case rel => exact ⟨k + 1, by omega, .inl (by omega), by go_num, HO4, hB⟩
      case measure => simp [intOf]; omega
   ·obtain ⟨q, hq, hop⟩ := hO.out
    have hPN : polL (gxs g) k = polL (gxs g) N := by
     rcases hk with e | e
     ·rw [show k = N by omega]
     ·subst e;rcases Nat.lt_or_ge 0 N with e1 | e1
      ·rw [show N = 1 by omega]
      ·rw [show N = 0 by omega, polL_one, polL_zero]
    have hsk := sortedTB fm q _ wr hop (by omega) (setB (polL (gxs g) N)) (setB_asc _) (fun p => by
     rw [setB_mem, hPN]; unfold exF
     by_cases e : p ∈ polL (gxs g) N <;> simp [e])
    have hkk := keysTB (some fm) wr;obtain ⟨W6, hW6⟩ : ∃ W6, W6 = wr.alloc (.cells #[.map (some fm)] 98) := ⟨_, rfl⟩
    obtain ⟨kb, hkb⟩ : ∃ kb, kb = wr.heap.size := ⟨_, rfl⟩
    have HKB := Bx.mk hkb;have HB6 := Bx.mk (show Below wr.heap.size wr W6 by rw [hW6]; exact (Below.refl _ _).alloc (zR _) _);have HS6 := Bx.mk (show W6.heap.size = kb + 1 by rw [hW6, hkb]; simp);have HBW := Bx.mk hB.out;rw [<- hW6, <- hkb] at hsk hkk;have hdl : decide ((k : Int) < (N : Int)) = false := zF (by omega);clear hO hop hq hPN hW6 hkb hB;go_wp2_with fail
    go_at_call 79;refine hkk.mono ?_;rintro e w6 ⟨rfl, rfl⟩;clear hkk;go_wp2_with fail
    go_at_call 63;refine hsk.mono ?_;rintro e w7 ⟨sv, rfl, ho7, hb7⟩;obtain ⟨sa, sc, rfl, -⟩ := ho7.rd.form;have hle : w.heap.size <= kb + 1 := (by have := HBW.out.size; have := HKB.out; omega);have HO7 := Bx.mk (show Slc.Own w7 w.heap.size 9 1 encS (.slice sa (setB (polL (gxs g) N)).length sc) R by rw [HRF.out]; exact ho7.mono hle);have HB7 := Bx.mk (show Below w.heap.size w w7 from HBW.out.trans ((HB6.out.mono HBW.out.size).trans (hb7.mono hle)));clear hsk ho7 hb7;go_wp2_with fail
    go_ret;exact ⟨_, rfl, HO7.out, HB7.out⟩
theorem rbelow_at (w : World) (v : Value) (g : List Lv) (h : GQ w v g) (hn : g.length <= 100000) (i k : Nat) (hi0 : 0 < i) (hi : i < g.length) {A L : Lv} {x : Vt} (hA : A = g[i - 1]'(by omega)) (hL : L = g[i]) (hk : k < L.vs.length) (hx : x = L.vs[k]) (hp : ∀ q ∈ x.n.par, 0 <= q /\ q < ((A.vs.length : Nat) : Int)) :
  Calls Tryz.prog 76 #[v, .int .i64 i, .int .i64 k] w fun e w' => e = .returned (.bool (belV (vxs A.vs) x.n)) /\ Below w.heap.size w w' := by
 obtain ⟨j, rfl⟩ : ∃ j, i = j + 1 := ⟨i - 1, by omega⟩
 subst hA hL hx;exact rbelow_any w v g h hn j k hi hk hp
end Go.Proofs.YtmagjdocondmhaaGreat.Tr.Gr
