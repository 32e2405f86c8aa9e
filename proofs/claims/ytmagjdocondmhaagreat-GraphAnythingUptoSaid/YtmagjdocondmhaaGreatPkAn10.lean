/- packed -/
import Derived.Test.YtmagjdocondmhaaGreatPkAn09
import Derived.Deep.DeepCutAuto
import Derived.Deep.QuietTactic
import Derived.Deep.CutBlock
import Derived.WalkSpells
set_option linter.unusedVariables false
set_option linter.unusedSimpArgs false
set_option maxRecDepth 100000
set_option maxHeartbeats 64000000
namespace Go.Proofs.YtmagjdocondmhaaGreat.Tr.Gr
open Go Go.RowKit Slc St Mp Tr Rg
attribute [local go_sem] Oper.semAt_some
def plc (l : List Vx) (p : B) : Nat := (l.takeWhile fun x => decide (x.pol < p)).length
theorem plc_eq {p : B} : ∀ {l : List Vx} {k : Nat}, k <= l.length -> (∀ j, j < k -> (l[j]!).pol < p) -> (k < l.length -> ¬ (l[k]!).pol < p) -> plc l p = k
 | [], k, hk, _, _ => by simp at hk; subst hk; rfl
 | x :: l, 0, _, _, h => by
  have := h (by simp);have h1 : ¬ x.pol < p := this;unfold plc
  rw [List.takeWhile_cons, if_neg (by simpa using h1)]; rfl
 | x :: l, k + 1, hk, h1, h2 => by
  have h0 : x.pol < p := h1 0 (by omega);have ih : plc l p = k := plc_eq (by simpa using hk) (fun j hj => by simpa using h1 (j + 1) (by omega)) (fun hl => by simpa using h2 (by simpa using hl));unfold plc at ih |-;rw [List.takeWhile_cons, if_pos (by simpa using h0), List.length_cons, ih]
theorem plc_le (l : List Vx) (p : B) : plc l p <= l.length := by
 unfold plc;exact (List.takeWhile_sublist _).length_le
def insV (l : List Vx) (x : Vx) : List Vx := l.take (plc l x.pol) ++ x :: l.drop (plc l x.pol)
def insT (l : List Vt) (x : Vt) : List Vt := l.take (plc (vxs l) x.n.pol) ++ x :: l.drop (plc (vxs l) x.n.pol)
theorem insT_vxs (l : List Vt) (x : Vt) : vxs (insT l x) = insV (vxs l) x.n := by
 unfold insT insV vxs;simp [List.map_take, List.map_drop]
theorem insV_len (l : List Vx) (x : Vx) : (insV l x).length = l.length + 1 := by
 unfold insV;have := plc_le l x.pol;rw [List.length_append, List.length_cons, List.length_take, List.length_drop]; omega
theorem insT_mem {l : List Vt} {x y : Vt} (h : y ∈ insT l x) : y ∈ l \/ y = x := by
 unfold insT at h;rcases List.mem_append.1 h with q | q
 ·exact .inl (List.mem_of_mem_take q)
 ·rcases List.mem_cons.1 q with q | q
  ·exact .inr q
  ·exact .inl (List.mem_of_mem_drop q)
def InF (W : World) (Bk gb k a : Nat) (sa : Option Addr) (sn sc : Nat) (l : List Vt) (x : Vt) : Nat -> Value -> World -> Prop
 | 0, v, _ => v = .pointer (some ⟨gb, k, none⟩)
 | 1, v, _ => v = .pointer (some ⟨gb, k, none⟩)
 | 2, v, _ => v = .pointer (some ⟨gb, k, none⟩)
 | 3, v, _ => v = .pointer (some ⟨gb, k, none⟩)
 | 4, v, _ => v = .slice sa sn sc
 | 5, v, _ => v = .int .i64 (a : Nat)
 | 6, v, _ => v = .agg #[.string (bstr x.n.pol), .slice x.u.ad x.u.n x.u.c, .slice x.q.ad x.q.n x.q.c]
 | 7, v, w => ∃ b, v = .slice (some ⟨b, 0, none⟩) 1 1 /\ W.heap.size <= b /\ w.heap[b]? = some (.cells (encV x).toArray 65 (0, 0))
 | 8, v, w => (∃ ad n c, v = .slice ad n c) /\ (∀ j, v.ownBlock = some j -> (Value.slice sa sn sc).ownBlock = some j \/ W.heap.size <= j) /\ Slc.Own w Bk 65 3 encV v (l.take a ++ x :: l.drop a)
 | 9, v, _ => v = .pointer (some ⟨gb, k, none⟩)
 | 10, v, _ => v = .pointer (some ⟨gb, k, none⟩)
 | _, _, _ => True
theorem InF.below {W : World} {Bk gb k a : Nat} {sa : Option Addr} {sn sc : Nat} {l : List Vt} {x : Vt} (j : Nat) (v : Value) (w w' : World) (h : InF W Bk gb k a sa sn sc l x j v w) (hb : Below w.heap.size w w') : InF W Bk gb k a sa sn sc l x j v w' := by
 match j with
 | 0 | 1 | 2 | 3 | 4 | 5 | 6 | 9 | 10 => exact h
 | 7 => obtain ⟨b, h1, h2, h3⟩ := h; exact ⟨b, h1, h2, (hb.block b (lt_of_some h3)).trans h3⟩
 | 8 => exact ⟨h.1, h.2.1, h.2.2.below hb⟩
 | _ + 11 => exact trivial
structure InC (W : World) (ob : Option Nat) (d : Nat -> Bool) (w : World) : Prop where
 gr : W.grownBy w ob
 be : d 8 = false -> Below W.heap.size W w
def InG (W : World) (ob : Option Nat) (i : Nat) (w1 w2 : World) : Prop := w1.grownBy w2 ob
theorem ginsert_any (w : World) (B gb c : Nat) (g : List Lv) (h : GO w B (.slice (some ⟨gb, 0, none⟩) g.length c) g) (k : Nat) (hk : k < g.length) (x : Vt) (hx : VtIn w (fun j => ¬ GB (.slice (some ⟨gb, 0, none⟩) g.length c) g j) x) (hn : (g[k]).vs.length <= 90000) :
  Calls Tryz.prog 65 #[.pointer (some ⟨gb, k, none⟩), verV x] w fun e w' => (∃ u, e = .returned u) /\ ∃ L', GStep w B (.slice (some ⟨gb, 0, none⟩) g.length c) g w' (g.set k L') /\ L'.vs = insT (g[k]).vs x := by
 have mixed : Tryz.prog.follows .mixedOrders = true := by kernel_rfl
 obtain ⟨gb', hgb', l0, hgfr⟩ := h.cellL k hk;simp only [zO, Addr.mk.injEq, and_true] at hgb'
 subst hgb';have HG := Bx.mk h;have HK := Bx.mk hk;have HX := Bx.mk hx;have hvl := h.gl.lv _ (zM hk);have hown := h.lv _ (zM hk);have hao := h.ao _ (zM hk);obtain ⟨L, hL⟩ : ∃ L, L = g[k]'HK.out := ⟨_, rfl⟩
 rw [<- hL] at l0 hvl hown hao hn |-;have HL := Bx.mk hL;obtain ⟨la, lc, hls, -⟩ := hvl.rd.form;have HLS := Bx.mk hls;obtain ⟨M, hM⟩ : ∃ M, M = L.vs.length := ⟨_, rfl⟩
 have HM := Bx.mk hM;rw [<- hM] at hls hn;rw [hls] at l0 hvl hown hao;have HVL := Bx.mk (show VL w (.slice la L.vs.length lc) L.vs by rw [<- hM]; exact hvl);have HOWN := Bx.mk hown;have HAO := Bx.mk hao;have hgbl := World.block_lt_of_cell? w _ l0;have HGBL := Bx.mk hgbl;obtain ⟨W1, hW1⟩ : ∃ W1, W1 = w.alloc (.cells #[.string (bstr x.n.pol), .slice x.u.ad x.u.n x.u.c, .slice x.q.ad x.q.n x.q.c] 65) := ⟨_, rfl⟩
 obtain ⟨q3, hq3⟩ : ∃ q, q = w.heap.size := ⟨_, rfl⟩
 have HQ3 := Bx.mk hq3;have hb1 : Below w.heap.size w W1 := by rw [hW1]; exact (Below.refl _ _).alloc (zR _) _
 have HB1 := Bx.mk hb1;have HR3 := Bx.mk (show W1.heap[q3]? = some (.cells #[.string (bstr x.n.pol), .slice x.u.ad x.u.n x.u.c, .slice x.q.ad x.q.n x.q.c] 65 (0, 0)) by rw [hW1, hq3]; exact heap_alloc_new _ _);have HS1 := Bx.mk (show W1.heap.size = q3 + 1 by rw [hW1, hq3]; simp);have L0 := Bx.mk l0;have HLFZ := Bx.mk hgfr;unfold verV;simp only [Sl.val]
 clear h hk hx hvl hown hao hL hls hM hb1 l0 hgfr;go_enter Tryz.func65, Tryz.ntmps65;go_upto_region 1 with fail
 rw [<- hW1, <- hq3];clear hW1 hq3;go_upto_block 0 with fail
 go_cut [4] (fun av wx => av = .int .i64 (plc (vxs L.vs) x.n.pol : Nat) /\ Bx (Below W1.heap.size W1 wx))
 case first =>
  go_wp2_with fail
  go_loopw [4] (fun i wr => ∃ a : Nat, a <= M /\ i = .int .i64 a /\ Bx (∀ j, j < a -> ((vxs L.vs)[j]!).pol < x.n.pol) /\ Bx (Below W1.heap.size W1 wr)) (fun i _ => M - (intOf i).toNat)
  case atStart => exact ⟨0, by omega, rfl, ⟨fun j hj => by omega⟩, ⟨Below.refl _ _⟩⟩
  case round =>
   obtain ⟨a, ha, rfl, hF, hBw⟩ := hrel;have hbw : Below w.heap.size w wr := HB1.out.trans (hBw.out.mono HB1.out.size);have l1 : wr.cell? ⟨gb, k, none⟩ = some (.slice la M lc) := (hbw.cell (p := ⟨gb, k, none⟩) HGBL.out).trans L0.out;have hr3 := (hBw.out.block q3 (lt_of_some HR3.out)).trans HR3.out;have m0 := cell_of_row _ _ 0 _ _ _ hr3;simp only [List.getElem?_toArray, List.getElem?_cons_zero, List.getElem?_cons_succ] at m0
   clear hr3;by_cases hlt : a < M
   ·have hal : a < L.vs.length := by rw [<- HM.out]; exact hlt
    obtain ⟨b, o, rfl, hbl, c0, -, -⟩ := HVL.out.at3 wr hbw a hal;have HALB := Bx.mk hal;have HXA := Bx.mk (show (vxs L.vs)[a]! = (L.vs[a]'HALB.out).n from vxs_at L.vs a hal);have tg : decide ((a : Int) < (M : Int)) = true := zT (by omega);have s1 := less_bytes (L.vs[a]).n.pol x.n.pol;obtain ⟨pp, hpp⟩ : ∃ pp, pp = (L.vs[a]'HALB.out).n.pol := ⟨_, rfl⟩
    rw [<- hpp] at c0 s1;have HPP := Bx.mk (show ((vxs L.vs)[a]!).pol = pp by rw [HXA.out, hpp]);obtain ⟨Y, hY⟩ : ∃ Y, Y = bstr x.n.pol := ⟨_, rfl⟩
    obtain ⟨X, hX⟩ : ∃ X, X = bstr pp := ⟨_, rfl⟩
    rw [<- hY] at m0 s1;rw [<- hX] at c0 s1;clear hbl hal hpp hY hX hbw;by_cases hc : pp < x.n.pol
    ·rw [zT hc] at s1
     have HF2 := Bx.mk (show ∀ j, j < a + 1 -> ((vxs L.vs)[j]!).pol < x.n.pol from fun j hj => by
      by_cases e : j = a
      ·subst e; rw [HPP.out]; exact hc
      ·exact hF.out j (by omega))
     clear hc;go_wp2_with fail
     go_quiet (fail)
     go_wp2_with fail
     go_roundw
     case rel => exact ⟨a + 1, by omega, by go_num, HF2, ⟨below_drawn hBw.out _⟩⟩
     case measure => simp [intOf]; omega
    ·rw [zF hc] at s1;have HP := Bx.mk (show plc (vxs L.vs) x.n.pol = a from plc_eq (by rw [vxs_len, <- HM.out]; omega) hF.out (fun _ => by rw [HPP.out]; exact hc));clear hc;go_wp2_with fail
     go_quiet (fail)
     go_wp2_with fail
     go_meet;exact ⟨by rw [HP.out], ⟨below_drawn hBw.out _⟩⟩
   ·have tg : decide ((a : Int) < (M : Int)) = false := zF (by omega);have tg2 : decide (a < M) = false := zF hlt;have HP := Bx.mk (show plc (vxs L.vs) x.n.pol = a from plc_eq (by rw [vxs_len, <- HM.out]; omega) hF.out (fun q => by rw [vxs_len, <- HM.out] at q; omega));clear hbw;go_wp2_with fail
    go_quiet (fail)
    go_wp2_with fail
    go_meet;exact ⟨by rw [HP.out], ⟨below_drawn hBw.out _⟩⟩
 case rest =>
 obtain ⟨rfl, hBc⟩ := hcut;obtain ⟨a, ha⟩ : ∃ a, a = plc (vxs L.vs) x.n.pol := ⟨_, rfl⟩
 have HA := Bx.mk ha;have hal := plc_le (vxs L.vs) x.n.pol;rw [vxs_len, <- HM.out, <- ha] at hal;rw [<- ha];have HAL := Bx.mk hal;have hbw : Below w.heap.size w wc := HB1.out.trans (hBc.out.mono HB1.out.size);have HBW := Bx.mk hbw;have HRC := Bx.mk ((hBc.out.block q3 (lt_of_some HR3.out)).trans HR3.out);have HLC := Bx.mk (show wc.cell? ⟨gb, k, none⟩ = some (.slice la M lc) from (hbw.cell (p := ⟨gb, k, none⟩) HGBL.out).trans L0.out);have HOC := Bx.mk (HOWN.out.below hbw);have HGC := Bx.mk (HG.out.below hbw);have HXC := Bx.mk (show VtIn wc (fun j => ¬ GB (.slice (some ⟨gb, 0, none⟩) g.length c) g j) x from VtIn.below HX.out hbw);have HQ3C := Bx.mk (show (Value.slice la M lc).ownBlock ≠ some q3 /\ (Value.slice la M lc).ownBlock ≠ some gb from ⟨fun e => by have := (HOWN.out.lt q3 e).2; have := HQ3.out; omega, fun e => HAO.out gb e rfl⟩);clear ha hal hbw;go_wp2_with fail
 refine wp_region_factsH 11 (fun _ => none) (fun i => i == 8) (fun i z w' => InF wc B gb k a la M lc L.vs x i (z i) w') (InC wc (Value.slice la M lc).ownBlock) (InG wc (Value.slice la M lc).ownBlock) ?_ mixed (by kernel_rfl) (by rfl) ?_ ?_ ?_ ?_ ?_ ?_ ?_
 ·exact ⟨⟨rfl, rfl, rfl, zR _, fun _ _ _ => rfl⟩, fun _ => ⟨rfl, rfl, rfl, zR _, fun _ _ => rfl⟩⟩
 ·intro i oi z y w1 _ _ e _ hh
  show InF _ _ _ _ _ _ _ _ _ _ i (y i) w1
  rw [<- e]; exact hh
 ·exact fun i z w1 w2 hh hb => InF.below i _ _ _ hh hb
 ·intro d i w1 w2 hh hb _ hB;refine ⟨grown_bel hh.gr hB, fun e => ?_⟩;have hi8 : ¬ i = 8 := by simpa using hb
  have e2 : d 8 = false := by unfold mark at e; rw [if_neg (fun q => hi8 q.symm)] at e; exact e
  exact (hh.be e2).trans (hB.mono (hh.be e2).size)
 ·intro d i oi w1 w2 _ _ hh hb _ hg;have hi8 : i = 8 := by simpa using hb
  subst hi8;exact ⟨grown_same hh.gr hg, fun e => by simp [mark] at e⟩
 ·intro b ob' i z d w1 w2 hb _ _ _ hne _ _ _ _ hh hg;have hb8 : b = 8 := by simpa using hb
  subst hb8
  match i, hne, hh with
  | 0, _, hh | 1, _, hh | 2, _, hh | 3, _, hh | 4, _, hh | 5, _, hh | 6, _, hh | 9, _, hh | 10, _, hh => exact hh
  | 7, _, hh =>
   obtain ⟨b, h1, h2, h3⟩ := hh
   exact ⟨b, h1, h2, (hg.block b (lt_of_some h3) (fun e => by have := (HOC.out.lt b e.symm).2; omega)).trans h3⟩
  | 8, hne, _ => exact absurd rfl hne
  | _ + 11, _, _ => exact trivial
 ·intro i o hi ho d z w7 hcl hdi hrd hCC hd;have hc : i = 0 \/ i = 1 \/ i = 2 \/ i = 3 \/ i = 4 \/ i = 5 \/ i = 6 \/ i = 7 \/ i = 8 \/ i = 9 \/ i = 10 := by omega
  have hgc := hCC.gr
  have l1 : w7.cell? ⟨gb, k, none⟩ = some (.slice la M lc) := by
   have h1 := HLC.out;have h2 := hgc.block gb (Nat.lt_of_lt_of_le HGBL.out HBW.out.size) (fun e => HQ3C.out.2 e.symm);unfold World.cell? at h1 |-;rw [h2]; exact h1
  have hr3 := (hgc.block q3 (lt_of_some HRC.out) (fun e => HQ3C.out.1 e.symm)).trans HRC.out;have m0 := cell_of_row _ _ 0 _ _ _ hr3;have m1 := cell_of_row _ _ 1 _ _ _ hr3;have m2 := cell_of_row _ _ 2 _ _ _ hr3;simp only [List.getElem?_toArray, List.getElem?_cons_zero, List.getElem?_cons_succ] at m0 m1 m2
  have HCC := Bx.mk hCC;clear hcl hrd hCC hr3 hgc;have HDI := Bx.mk hdi;simp only [List.take_succ_cons, List.take_zero, putFrom]
  rcases hc with rfl | rfl | rfl | rfl | rfl | rfl | rfl | rfl | rfl | rfl | rfl
  all_goals
   simp only [List.getElem?_cons_succ, List.getElem?_cons_zero, zO] at ho
   subst ho;simp [NeedsB, Region.binds, InF] at hd
   clear hi hdi
  case inr.inr.inr.inr.inr.inr.inr.inl =>
   go_wp2_with fail
   exact ⟨rfl, rfl, ⟨w7.heap.size, rfl, HCC.out.gr.size, heap_alloc_new _ _⟩, (Below.refl _ _).alloc (zR _) _⟩
  case inr.inr.inr.inr.inr.inr.inr.inr.inl =>
   obtain ⟨h4, h5, b, h7, hbz, hbr⟩ := hd;have how := HOC.out.below (HCC.out.be HDI.out)
   have hcall := gins_any w7 B (.slice la M lc) L.vs how (by rw [<- HM.out]; omega) a (by rw [<- HM.out]; exact HAL.out) x b hbr (fun e => by have := (HOC.out.lt b e).2; omega) (by
    have h1 := HG.out.lt (k := gb) (.inl rfl);have h2 := HBW.out.size;have h3 := (HCC.out.be HDI.out).size
    omega)
   clear how hbr hbz m0 m1 m2;go_wp2_with fail
   go_at_call 106;refine hcall.mono ?_;rintro e w8 ⟨v', rfl, ⟨sa, sn, sc, rfl⟩, hvb, hvo, hvg⟩;clear hcall;go_wp2_with fail
   exact ⟨rfl, rfl, ⟨⟨_, _, _, rfl⟩, fun j hj => (hvb j hj).imp id fun q => by have := HCC.out.gr.size; omega, hvo⟩, hvg⟩
  all_goals
   go_wp2_with fail
   exact ⟨rfl, rfl, rfl, Below.refl _ _⟩
 ·intro d z w7 hdn hCC hf;have f8 := hf 8 (by omega) (fun c hc => by cases hc);have f10 := hf 10 (by omega) (fun c hc => by cases hc);obtain ⟨⟨sa, sn, sc, f8e⟩, f8b, f8o⟩ := f8;have f10' : z 10 = .pointer (some ⟨gb, k, none⟩) := f10;have hgr := hCC.gr;clear hf hCC hdn f10;rw [f8e] at f8b f8o;have hlv : (g[k]'HK.out).s.val.ownBlock = (Value.slice la M lc).ownBlock := by rw [<- HL.out, HLS.out, HM.out]
  have hst := HGC.out.setL2 k HK.out (by rw [hlv]; exact hgr) ⟨insT L.vs x, ⟨sa, sn, sc⟩⟩ (by
    have h1 := f8o;rw [HA.out] at h1
    exact h1) (fun j hj => by rw [hlv]; exact f8b j hj) (fun y hy => by
    rcases insT_mem hy with q | rfl
    ·exact HGC.out.nm _ (zM HK.out) y (by rw [<- HL.out]; exact q)
    ·exact HXC.out)
  obtain ⟨gb', cap', hv', hl', hfz, hcl, hgs⟩ := hst;simp only [Value.slice.injEq, zO, Addr.mk.injEq, and_true, true_and] at hv'
  obtain ⟨rfl, rfl⟩ := hv';rw [<- HL.out, HLS.out, <- HM.out] at hcl;simp only [Sl.val] at hgs
  have z1 := hfz k;have HGS := Bx.mk (((GStep.refl HG.out).below HBW.out).trans hgs);clear f8b f8o hlv hgs hfz hgr hl';simp only [List.take_succ_cons, List.take_zero, List.drop_succ_cons, List.drop_zero, putFrom, Nat.zero_add, Nat.reduceAdd, f10', f8e]
  clear f10' f8e;generalize z 0 = z0, z 1 = z1, z 2 = z2, z 3 = z3, z 4 = z4, z 5 = z5, z 6 = z6, z 7 = z7, z 9 = z9;simp only [Act.put, List.setIfInBounds_toArray, List.set_cons_succ, List.set_cons_zero]
  go_wp2_with fail
  go_end0
  exact ⟨⟨_, rfl⟩, _, HGS.out, rfl⟩
theorem und_versE : Tryz.prog.underlying 61 = some (.slice (Tryz.prog.elem 61)) := by kernel_rfl
theorem size_vers (W : World) : (sizeOf (Tryz.prog.elem 61)).run Tryz.prog W = .ok 3 W := by kernel_rfl
def PutF (W0 : World) (sv u1 u2 : Value) (p : Nat) (cur : List Vt) (x : Vt) : Nat -> Value -> World -> Prop
 | 0, v, w => ∃ g, v = .slice (some ⟨g, 0, none⟩) 0 0 /\ w.heap[g]? = some (.cells #[] 65 (0, 0)) /\ W0.heap.size <= g
 | 1, v, _ => v = sv
 | 2, v, _ => v = .int .i64 p
 | 3, v, _ => v = u1
 | 4, v, w => Slc.Own w W0.heap.size 65 3 encV v (cur.take p)
 | 5, v, _ => v = .agg #[.string (bstr x.n.pol), .slice x.u.ad x.u.n x.u.c, .slice x.q.ad x.q.n x.q.c]
 | 6, v, w => ∃ g : Nat, v = .slice (some ⟨g, 0, none⟩) 1 1 /\ w.heap[g]? = some (.cells (encV x).toArray 65 (0, 0))
 | 7, v, w => Slc.Own w W0.heap.size 65 3 encV v (cur.take p ++ [x])
 | 8, v, _ => v = sv
 | 9, v, _ => v = .int .i64 p
 | 10, v, _ => v = u2
 | _, _, _ => True
theorem PutF.stable (W0 : World) (sv u1 u2 : Value) (p : Nat) (cur : List Vt) (x : Vt) (i : Nat) (v : Value) (w w' : World) (h : PutF W0 sv u1 u2 p cur x i v w) (hb : Below w.heap.size w w') : PutF W0 sv u1 u2 p cur x i v w' := by
 match i with
 | 1 | 2 | 3 | 5 | 8 | 9 | 10 => exact h
 | 0 => obtain ⟨g, h1, h2, h3⟩ := h; exact ⟨g, h1, (hb.block g (lt_of_some h2)).trans h2, h3⟩
 | 4 => exact Slc.Own.below (t := 65) h hb
 | 6 => obtain ⟨g, h1, h2⟩ := h; exact ⟨g, h1, (hb.block g (lt_of_some h2)).trans h2⟩
 | 7 => exact Slc.Own.below (t := 65) h hb
 | _ + 11 => exact trivial
def PutFC : Nat -> Option Nat
 | 0 => some 4
 | 4 => some 7
 | 6 => some 7
 | _ => none
theorem PutF.big (W0 : World) (sv u1 u2 : Value) (p : Nat) (cur : List Vt) (x : Vt) (d : Nat -> Bool) (j : Nat) (v : Value) (w w' : World) (h4 : d 4 = true) (hc : ∀ q, PutFC j = some q -> mark d 7 q = false) (hne : j ≠ 7) (hj : j < 11) (h : PutF W0 sv u1 u2 p cur x j v w) : PutF W0 sv u1 u2 p cur x j v w' := by
 match j with
 | 1 | 2 | 3 | 5 | 8 | 9 | 10 => exact h
 | 0 => have := hc 4 rfl; simp [mark, h4] at this
 | 4 => have := hc 7 rfl; simp [mark] at this
 | 6 => have := hc 7 rfl; simp [mark] at this
 | 7 => exact absurd rfl hne
 | _ + 11 => omega
theorem rput_any (w : World) (v : Value) (l : List Vt) (x : Vt) (h : VL w v l) (hx : VtAt w x) (hn : l.length <= 100000) (hs : (vxs l).Pairwise fun a b => a.pol < b.pol) (hno : ∀ y ∈ vxs l, y.pol ≠ x.n.pol) :
  Calls Tryz.prog 57 #[v, verV x] w fun e w' => ∃ v', e = .returned v' /\ Slc.Own w' w.heap.size 65 3 encV v' (insT l x) /\ Below w.heap.size w w' := by
 obtain ⟨i0, hi0, hz0, hz1, hz2⟩ := info_parts info_ver;obtain ⟨ad, lc, rfl, -⟩ := h.rd.form;unfold verV;simp only [Sl.val]
 have HL := Bx.mk h;have HX := Bx.mk hx;have HC := Bx.mk h.at3;have HSRT := Bx.mk hs;have HNO := Bx.mk hno;obtain ⟨N, hN⟩ : ∃ N, N = l.length := ⟨_, rfl⟩
 have HN := Bx.mk hN;rw [<- hN] at hn |-;obtain ⟨bx, hbx⟩ : ∃ bx, bx = w.heap.size := ⟨_, rfl⟩
 obtain ⟨W0, hW0⟩ : ∃ W0, W0 = w.alloc (.cells #[.string (bstr x.n.pol), .slice x.u.ad x.u.n x.u.c, .slice x.q.ad x.q.n x.q.c] 65) := ⟨_, rfl⟩
 have HB0 := Bx.mk (show Below w.heap.size w W0 by rw [hW0]; exact (Below.refl _ _).alloc (zR _) _);have HR0 := Bx.mk (show W0.heap[bx]? = some (.cells #[.string (bstr x.n.pol), .slice x.u.ad x.u.n x.u.c, .slice x.q.ad x.q.n x.q.c] 65 (0, 0)) by rw [hW0, hbx]; exact heap_alloc_new _ _);have HBX := Bx.mk hbx;clear h hx hs hno hN;go_enter Tryz.func57, Tryz.ntmps57;go_upto_block 0 with fail
 rw [<- hW0, <- hbx];clear hW0 hbx;have HX4 := Bx.mk (show ∀ (W : World), Below W0.heap.size W0 W -> W.heap[bx]? = some (.cells #[.string (bstr x.n.pol), .slice x.u.ad x.u.n x.u.c, .slice x.q.ad x.q.n x.q.c] 65 (0, 0)) from fun W hW => (hW.block _ (lt_of_some HR0.out)).trans HR0.out);go_cut [5] (fun s5 wx => ∃ pl : Nat, s5 = .int .i64 (pl : Int) /\ Bx (pl <= N /\ plc (vxs l) x.n.pol = pl) /\ Below W0.heap.size W0 wx)
 case first =>
  go_wp2_with fail
  go_loopw [5] (fun i wx => ∃ j : Nat, j <= N /\ Bx (∀ i, i < N -> j <= i -> ¬ ((vxs l)[i]!).pol < x.n.pol) /\ i = .int .i64 (j : Int) /\ Below W0.heap.size W0 wx) (fun i _ => (intOf i).toNat)
  case atStart => exact ⟨N, zR _, ⟨fun i h hi => by omega⟩, rfl, Below.refl _ _⟩
  case round =>
   obtain ⟨j, hj, hall, rfl, hbx⟩ := hrel;have HBW := Bx.mk hbx;have hrow := HX4.out _ hbx;have e0 := cell_of_row _ _ 0 _ _ _ hrow;simp only [List.getElem?_toArray, List.getElem?_cons_zero, List.getElem?_cons_succ] at e0
   cases j with
   | zero =>
    have HP0 := Bx.mk (show plc (vxs l) x.n.pol = 0 from plc_eq (by omega) (fun j hj => by omega) (fun h => hall.out 0 (by rw [vxs_len, <- HN.out] at h; exact h) (zR _)));have t0 : decide (0 < ((0 : Nat) : Int)) = false := rfl;clear hbx hrow;go_wp2_with fail
    go_quiet (fail)
    go_wp2
    go_meet
    exact ⟨0, rfl, ⟨by omega, HP0.out⟩, drewN_below HBW.out _⟩
   | succ m =>
    have hml : m < l.length := (by rw [<- HN.out]; omega);have hmN : m < N := (by omega);obtain ⟨b, o, rfl, -, c0, -⟩ := HC.out wr (HB0.out.trans (hbx.mono HB0.out.size)) m hml;have HYE := Bx.mk (vxs_at l m hml);obtain ⟨y, hy⟩ : ∃ y, y = l[m] := ⟨_, rfl⟩
    rw [<- hy] at c0 HYE;have HYM := Bx.mk (show y.n ∈ vxs l by rw [hy]; exact List.mem_map.2 ⟨_, zM hml, rfl⟩);have hne := HNO.out _ HYM.out;have wj : IntKind.i64.wrap (((m + 1 : Nat) : Int) - 1) = (m : Int) := (by rw [IntWalk.i64_in _ (by omega)]; omega);have ej : ((m : Int) + 1).toNat = m + 1 := (by omega);have l1 := less_bytes y.n.pol x.n.pol;have l2 := less_bytes x.n.pol y.n.pol;have l3 := same_bytes y.n.pol x.n.pol;rw [zF hne] at l3;have HNE := Bx.mk hne;obtain ⟨Y, hY⟩ : ∃ Y, Y = bstr y.n.pol := ⟨_, rfl⟩
    obtain ⟨X, hX⟩ : ∃ X, X = bstr x.n.pol := ⟨_, rfl⟩
    rw [<- hY] at c0 l2 l1 l3;rw [<- hX] at e0 l2 l1 l3;clear hbx hrow hy hY hX hne;by_cases hlt : y.n.pol < x.n.pol
    ·rw [zT hlt] at l1;rw [zF (List.lt_asymm hlt)] at l2
     have HF := Bx.mk (show plc (vxs l) x.n.pol = m + 1 from plc_eq (by rw [vxs_len]; omega) (fun j hj => by
      rcases Nat.lt_or_ge j m with e | e
      ·have h1 := List.pairwise_iff_getElem.1 HSRT.out j m (by rw [vxs_len]; omega) (by rw [vxs_len]; omega) e;rw [<- getElem!_pos (vxs l) j, <- getElem!_pos (vxs l) m, HYE.out] at h1;exact List.lt_trans h1 hlt
      ·obtain rfl : j = m := by omega
       rw [HYE.out]; exact hlt) (fun h => hall.out (m + 1) (by rw [vxs_len, <- HN.out] at h; exact h) (zR _)))
     clear hlt;go_wp2_with fail
     go_quiet (fail)
     go_wp2
     go_meet;exact ⟨m + 1, by first | rfl | go_num, ⟨by omega, HF.out⟩, drewN_below HBW.out _⟩
    ·have hgt : x.n.pol < y.n.pol := by
      refine Classical.byContradiction fun h => ?_
      exact HNE.out (eqB hlt h)
     rw [zF hlt] at l1;rw [zT hgt] at l2
     have HF := Bx.mk (show ∀ i, i < N -> m <= i -> ¬ ((vxs l)[i]!).pol < x.n.pol from fun i hi hmi => by
      rcases Nat.lt_or_ge m i with e | e
      ·exact hall.out i hi (by omega)
      ·obtain rfl : i = m := by omega
       rw [HYE.out]; exact hlt)
     clear hlt hgt;go_wp2_with fail
     go_quiet (fail)
     go_wp2
     go_roundw
     case rel => exact ⟨m, by omega, HF, by go_num, drewN_below HBW.out _⟩
     case measure => simp [intOf]; try omega
 case rest =>
  obtain ⟨pl, rfl, hpl, hbc⟩ := hcut;have hw : Below w.heap.size w wc := HB0.out.trans (hbc.mono HB0.out.size);have hoc := HL.out.rd.below hw;rw [<- HN.out] at hoc;have hpn : pl <= l.length := by rw [<- HN.out]; exact hpl.out.1
  obtain ⟨u1, hu1, hr1⟩ := hoc.upto (P := Tryz.prog) (T := 61) encV_ok und_versE size_vers pl hpn;obtain ⟨u2, hu2, hr2⟩ := hoc.rest (P := Tryz.prog) (T := 61) encV_ok und_versE size_vers pl hpn;have HU1 := Bx.mk hu1;have HU2 := Bx.mk hu2;have HR1 := Bx.mk hr1;have HR2 := Bx.mk hr2;have HPC := Bx.mk hpn;have HINS := Bx.mk hpl.out.2;have HBF := Bx.mk hw;have HX5 := Bx.mk (show ∀ (W : World), Below wc.heap.size wc W -> W.heap[bx]? = some (.cells #[.string (bstr x.n.pol), .slice x.u.ad x.u.n x.u.c, .slice x.q.ad x.q.n x.q.c] 65 (0, 0)) from fun W hW => HX4.out W (hbc.trans (hW.mono hbc.size)));clear hoc hu1 hu2 hr1 hr2 hbc hpl hw hpn;go_upto_region 4 with fail
  refine wp_region_factsV 11 PutFC (· == 7) (PutF wc (.slice ad N lc) u1 u2 pl l x) (by kernel_rfl) (by kernel_rfl) (by rfl) (PutF.stable wc _ u1 u2 pl l x) ?_ ?_ ?_
  ·intro q oq j v d w1 w2 hb hoq hd hc hne hj h _;obtain rfl : q = 7 := by simpa using hb
   simp only [List.getElem?_cons_succ, List.getElem?_cons_zero, zO] at hoq
   subst hoq;have h4 := hd ⟨4, .data⟩ (by simp) rfl;exact PutF.big wc _ u1 u2 pl l x d j v w1 w2 h4 hc hne hj h
  ·intro i o hi9 ho9 xs w1 hb hd;have hcs : i = 0 \/ i = 1 \/ i = 2 \/ i = 3 \/ i = 4 \/ i = 5 \/ i = 6 \/ i = 7 \/ i = 8 \/ i = 9 \/ i = 10 := by omega
   simp only [List.take_succ_cons, List.take_zero, putFrom, Act.put, List.setIfInBounds_toArray, List.set_cons_succ, List.set_cons_zero, Nat.zero_add, Nat.reduceAdd]
   have HBB := Bx.mk hb;have HTL := Bx.mk (show (l.take pl).length <= 100000 by have h1 := HN.out; rw [List.length_take]; omega);clear hb;rcases hcs with rfl | rfl | rfl | rfl | rfl | rfl | rfl | rfl | rfl | rfl | rfl
   all_goals
    simp only [List.getElem?_cons_succ, List.getElem?_cons_zero, zO] at ho9
    subst ho9;simp [NeedsB, Region.binds, PutF, PutFC] at hd
   all_goals clear hi9
   ·have HS := Bx.mk HBB.out.size;go_wp2_with fail
    exact ⟨rfl, rfl, ⟨_, rfl, heap_alloc_new _ _, HS.out⟩, (Below.refl _ _).alloc (zR _) _⟩
   ·go_wp2_with fail
    exact ⟨rfl, rfl, rfl, Below.refl _ _⟩
   ·go_wp2_with fail
    exact ⟨rfl, rfl, rfl, Below.refl _ _⟩
   ·obtain ⟨hd1, hd2⟩ := hd;have hu1 := HU1.out;go_wp2_with fail
    exact ⟨rfl, rfl, rfl, Below.refl _ _⟩
   ·obtain ⟨⟨g0, h0, hg0, hl0⟩, h3⟩ := hd;have hsr := (HR1.out.below HBB.out).src encV_ok;rw [<- h3] at hsr;have hsz := HBB.out.size;clear h3;go_wp2_with (at_builtin; refine wpList_append_fresh rfl _ _ _ rfl wc.heap.size 65 i0 _ 3 64 und_vers hi0 hz0 hz1 hz2 rfl (by decide) g0 h0 hg0 hl0 hsz (xs 3) (l.take pl).length ((l.take pl).flatMap encV) rfl hsr ?ap1 ?ap2 ?_)
    case ap1 => have := HTL.out; unfold maxLen; omega
    case ap2 => have := HTL.out; omega
    intro v' w4 hown hb4 _;have HO4 := Bx.mk (Own.of (l := l.take pl) hown (by have := HPC.out; simp; try omega) rfl);have HB4 := Bx.mk hb4;clear hown hb4 hsr hsz;go_wp2_with fail
    exact ⟨rfl, rfl, HO4.out, HB4.out⟩
   ·have hrow := HX5.out _ HBB.out;have y0 := cell_of_row _ _ 0 _ _ _ hrow;have y1 := cell_of_row _ _ 1 _ _ _ hrow;have y2 := cell_of_row _ _ 2 _ _ _ hrow;simp only [List.getElem?_toArray, List.getElem?_cons_zero, List.getElem?_cons_succ] at y0 y1 y2
    clear hrow;go_wp2_with fail
    exact ⟨rfl, rfl, rfl, Below.refl _ _⟩
   ·go_wp2_with fail
    exact ⟨rfl, rfl, ⟨_, rfl, by rw [heap_alloc_new]; rfl⟩, (Below.refl _ _).alloc (zR _) _⟩
   ·obtain ⟨hd1, ⟨g5, h5, hb5⟩, -⟩ := hd;have hsr : SrcV w1 3 (.slice (some ⟨g5, 0, none⟩) 1 1) 1 ([x].flatMap encV) := src_new encV_ok hb5;rw [<- h5] at hsr;have hsz := HBB.out.size;have hd1' : w1.ownsRow wc.heap.size 65 3 (xs 4) (l.take pl).length ((l.take pl).flatMap encV) := hd1;have HD1 := Bx.mk hd1;clear h5 hb5 hd1;go_wp2_with (at_builtin; refine wpList_append_any rfl _ _ _ rfl wc.heap.size 65 i0 _ 3 64 und_vers hi0 hz0 hz1 hz2 rfl (by decide) _ (l.take pl).length ((l.take pl).flatMap encV) rfl hd1' _ 1 ([x].flatMap encV) rfl hsr ?bp1 ?bp2 hsz ?_)
    case bp1 => have := HTL.out; unfold maxLen; omega
    case bp2 => have := HTL.out; omega
    intro v' w4 ha;have HO4 := Bx.mk (Own.apd (m := [x]) HD1.out (by simp) (by simp) (by have := HPC.out; simp; try omega) (by simp) ha);have HB4 := Bx.mk ((Below.refl wc.heap.size w1).grown ha.grown HBB.out.size fun k hk => (HD1.out.lt k hk).1);clear ha hsr hsz hd1';go_wp2_with fail
    exact ⟨rfl, rfl, HO4.out, HB4.out⟩
   ·go_wp2_with fail
    exact ⟨rfl, rfl, rfl, Below.refl _ _⟩
   ·go_wp2_with fail
    exact ⟨rfl, rfl, rfl, Below.refl _ _⟩
   ·obtain ⟨hd1, hd2⟩ := hd;have hu2 := HU2.out;go_wp2_with fail
    exact ⟨rfl, rfl, rfl, Below.refl _ _⟩
  ·intro xs w1 hb hf;have f1 := hf 1 (by omega) (fun c hc => by cases hc);have f2 := hf 2 (by omega) (fun c hc => by cases hc);have f3 := hf 3 (by omega) (fun c hc => by cases hc);have f5 := hf 5 (by omega) (fun c hc => by cases hc);have f7 := hf 7 (by omega) (fun c hc => by cases hc);have f8 := hf 8 (by omega) (fun c hc => by cases hc);have f9 := hf 9 (by omega) (fun c hc => by cases hc);have f10 := hf 10 (by omega) (fun c hc => by cases hc);simp only [PutF] at f1 f2 f3 f5 f7 f8 f9 f10
   have HBB := Bx.mk hb;have HO := Bx.mk f7;clear hf f7 hb;simp only [List.take_succ_cons, List.take_zero, List.drop_succ_cons, List.drop_zero, putFrom, Act.put, List.setIfInBounds_toArray, List.set_cons_succ, List.set_cons_zero, Nat.zero_add, Nat.reduceAdd, f1, f2, f3, f5, f8, f9, f10]
   clear f1 f2 f3 f5 f8 f9 f10;generalize xs 0 = X0 at *;generalize xs 4 = X4 at *;generalize xs 6 = X6 at *;generalize hX7 : xs 7 = X7 at *;clear hX7 xs;have hsr := (HR2.out.below HBB.out).src encV_ok;have hsz := HBB.out.size;have HLL := Bx.mk (show (l.take pl ++ [x]).length + (l.drop pl).length <= 200000 by have h1 := HN.out; simp; omega);have hd1' : w1.ownsRow wc.heap.size 65 3 X7 (l.take pl ++ [x]).length ((l.take pl ++ [x]).flatMap encV) := HO.out;have HNEW := Bx.mk (show l.take pl ++ [x] ++ l.drop pl = insT l x by unfold insT; rw [HINS.out]; simp)
   have HMEM := Bx.mk (show ∀ y ∈ l.take pl ++ [x] ++ l.drop pl, VtAt w y from fun y hy => by
    rw [List.mem_append, List.mem_append, zS] at hy;rcases hy with (hy | rfl) | hy
    ·exact HL.out.at_ y (List.mem_of_mem_take hy)
    ·exact HX.out
    ·exact HL.out.at_ y (List.mem_of_mem_drop hy))
   generalize hA : l.take pl ++ [x] = A at *;generalize hD : l.drop pl = D at *;clear hA hD;go_wp2_with (at_builtin; refine wpList_append_any rfl _ _ _ rfl wc.heap.size 65 i0 _ 3 64 und_vers hi0 hz0 hz1 hz2 rfl (by decide) _ A.length (A.flatMap encV) rfl hd1' _ D.length (D.flatMap encV) rfl hsr ?cp1 ?cp2 hsz ?_)
   case cp1 => have := HLL.out; unfold maxLen; omega
   case cp2 => have := HLL.out; omega
   intro v' w4 ha;have HO4 := Bx.mk (Own.apd (m := D) HO.out rfl rfl rfl rfl ha);have HB4 := Bx.mk (HBF.out.trans ((HBB.out.grown ha.grown HBB.out.size fun k hk => (HO.out.lt k hk).1).mono HBF.out.size));clear ha hsr hsz hd1';go_wp2
   go_ret;exact ⟨_, rfl, by rw [<- HNEW.out]; exact HO4.out.mono HBF.out.size, HB4.out⟩
end Go.Proofs.YtmagjdocondmhaaGreat.Tr.Gr
namespace Go.Proofs.YtmagjdocondmhaaGreat.Tr.Gr
open Go Go.RowKit Slc St Mp Tr Rg
def mapS (ms : List (B × B)) (star above : Int) (l : List Vx) (p : B) : List Vx :=
 if 0 <= fndP l p then l.set (fndP l p).toNat ⟨(l[(fndP l p).toNat]!).pol, subL ms p, (l[(fndP l p).toNat]!).par⟩
 else if 0 <= star then insV l ⟨p, subL ms p, [above]⟩ else l
def mapL (ms : List (B × B)) (star above : Int) (l : List Vx) (ks : List B) : List Vx := ks.foldl (mapS ms star above) l
theorem mapL_snoc (ms : List (B × B)) (star above : Int) (l : List Vx) (ks : List B) (p : B) : mapL ms star above l (ks ++ [p]) = mapS ms star above (mapL ms star above l ks) p := by
 unfold mapL; rw [List.foldl_append]; rfl
def gmapL (g : List (List Vx)) (ms : List (B × B)) (ok : Bool) : List Vx :=
 if ok then mapL ms (fndP g[g.length - 1]! anyP) (fndP g[g.length - 2]! anyP) g[g.length - 1]! (srcL ms) else (g[g.length - 1]!).filter fun v => !decide (v.pol ∈ srcL ms)
def gmapP (g : List (List Vx)) (ms : List (B × B)) (ok : Bool) : List (List Vx) × Int :=
 if gvalidB g && !decide (g.length = 1) then (if g.length = 0 then ([], 0) else (pruneG (g.set (g.length - 1) (gmapL g ms ok)), 0)) else ([], 7)
theorem fndP_some {l : List Vx} {p : B} (h : 0 <= fndP l p) : ∃ k, k < l.length /\ fndP l p = (k : Int) /\ (l[k]!).pol = p /\ ∀ j, j < k -> (l[j]!).pol ≠ p := by
 obtain ⟨k, h1, h2, h3, h4⟩ := idxG_some h;exact ⟨k, h1, h2, of_decide_eq_true h3, fun j hj => of_decide_eq_false (h4 j hj)⟩
theorem fndP_none {l : List Vx} {p : B} (h : fndP l p < 0) : ∀ j, j < l.length -> (l[j]!).pol ≠ p := fun j hj => of_decide_eq_false (idxG_neg h j hj)
theorem fndP_has {l : List Vx} {p : B} {v : Vx} (hv : v ∈ l) (hp : v.pol = p) : 0 <= fndP l p := by
 rcases Int.lt_or_le (fndP l p) 0 with h | h
 ·obtain ⟨i, hi, rfl⟩ := List.getElem_of_mem hv;have := fndP_none h i hi;rw [getElem!_pos l i hi] at this;exact absurd hp this
 ·exact h
theorem fndP_lt {l : List Vx} {p : B} (h : 0 <= fndP l p) : fndP l p < (l.length : Int) := by
 obtain ⟨k, h1, h2, -⟩ := fndP_some h;omega
theorem gvalid_star {g : List (List Vx)} (h : gvalidB g = true) {k : Nat} (hk : k + 1 < g.length) (hs : 0 <= fndP g[k + 1]! anyP) : 0 <= fndP g[k]! anyP := by
 obtain ⟨j, hj, -, hp, -⟩ := fndP_some hs;have h1 := (gvalid_at h k hk).2 _ (show (g[k + 1]!)[j]! ∈ g[k + 1]! by rw [getElem!_pos _ j hj]; exact zM hj);have h2 := (gfit_par h1).2;unfold gfitB at h1;rw [Bool.and_eq_true] at h1;have h3 := h1.2;have hsp : specV (g[k + 1]!)[j]! = true := by unfold specV; exact zT hp
 rw [if_pos hsp] at h3;simp only [Bool.and_eq_true, decide_eq_true_eq] at h3
 obtain ⟨v, hv⟩ := List.length_eq_one_iff.1 h3.1;rw [hv] at h3 h2;have h4 := h2.2 v (by simp);have h5 : specV (g[k]!)[v.toNat]! = true := h3.2.1;rw [getElem!_pos (g[k]!) v.toNat (by omega)] at h5;exact fndP_has (zM (by omega)) (of_decide_eq_true h5)
theorem insV_mem {l : List Vx} {x v : Vx} (h : v ∈ insV l x) : v ∈ l \/ v = x := by
 unfold insV at h;rcases List.mem_append.1 h with q | q
 ·exact .inl (List.mem_of_mem_take q)
 ·rcases List.mem_cons.1 q with q | q
  ·exact .inr q
  ·exact .inl (List.mem_of_mem_drop q)
theorem mapS_par {ms : List (B × B)} {star above : Int} {l : List Vx} {p : B} {v : Vx} (h : v ∈ mapS ms star above l p) : (∃ u ∈ l, v.par = u.par) \/ (0 <= star /\ v.par = [above]) := by
 unfold mapS at h;split at h
 ·rename_i h0
  obtain ⟨k, hk, he, -⟩ := fndP_some h0;rcases List.mem_or_eq_of_mem_set h with q | rfl
  ·exact .inl ⟨v, q, rfl⟩
  ·left
   refine ⟨l[k]!, ?_, ?_⟩
   ·rw [getElem!_pos l k hk]; exact zM hk
   ·rw [he, Int.toNat_natCast]
 ·split at h
  ·rename_i h1
   rcases insV_mem h with q | rfl
   ·exact .inl ⟨v, q, rfl⟩
   ·exact .inr ⟨h1, rfl⟩
  ·exact .inl ⟨v, h, rfl⟩
theorem mapL_par {ms : List (B × B)} {star above : Int} : ∀ {ks : List B} {l : List Vx} {v : Vx}, v ∈ mapL ms star above l ks -> (∃ u ∈ l, v.par = u.par) \/ (0 <= star /\ v.par = [above])
 | [], l, v, h => .inl ⟨v, h, rfl⟩
 | p :: ks, l, v, h => by
  rcases mapL_par (ks := ks) (l := mapS ms star above l p) h with ⟨u, hu, e⟩ | q
  ·rcases mapS_par hu with ⟨u', hu', e'⟩ | ⟨q1, q2⟩
   ·exact .inl ⟨u', hu', e.trans e'⟩
   ·exact .inr ⟨q1, e.trans q2⟩
  ·exact .inr q
theorem mapS_len (ms : List (B × B)) (star above : Int) (l : List Vx) (p : B) : (mapS ms star above l p).length <= l.length + 1 := by
 unfold mapS;split
 ·rw [zL]; omega
 ·split
  ·rw [insV_len]; omega
  ·omega
theorem mapL_len (ms : List (B × B)) (star above : Int) : ∀ (ks : List B) (l : List Vx), (mapL ms star above l ks).length <= l.length + ks.length
 | [], l => by simp [mapL]
 | p :: ks, l => by
  have h1 := mapL_len ms star above ks (mapS ms star above l p);have h2 := mapS_len ms star above l p;have e : mapL ms star above l (p :: ks) = mapL ms star above (mapS ms star above l p) ks := rfl;rw [e, List.length_cons]; omega
theorem PG.setLast {g : List (List Vx)} (h : PG g) {k : Nat} (hk : k + 2 = g.length) {l : List Vx} (hl : l.length <= 100000) (hp : ∀ v ∈ l, ∀ p ∈ v.par, 0 <= p /\ p < ((g[k]!).length : Int)) : PG (g.set (k + 1) l) := by
 constructor
 ·intro j hj v hv p hpp;rw [zL] at hj
  have e1 : (g.set (k + 1) l)[j]! = g[j]! := by
   rw [getElem!_pos _ j (by simp; omega), getElem!_pos g j (by omega), List.getElem_set, if_neg (by omega)]
  rw [e1];by_cases e : j + 1 = k + 1
  ·have e2 : (g.set (k + 1) l)[j + 1]! = l := by
    rw [getElem!_pos _ (j + 1) (by simp; omega), List.getElem_set, if_pos (by omega)]
   rw [e2] at hv;have e3 : j = k := by omega
   subst e3;exact hp v hv p hpp
  ·have e2 : (g.set (k + 1) l)[j + 1]! = g[j + 1]! := by
    rw [getElem!_pos _ (j + 1) (by simp; omega), getElem!_pos g (j + 1) (by omega), List.getElem_set, if_neg (by omega)]
   rw [e2] at hv;exact h.par j hj v hv p hpp
 ·intro m hm;rcases List.mem_or_eq_of_mem_set hm with q | rfl
  ·exact h.len m q
  ·exact hl
theorem srcL_len (ms : List (B × B)) : (srcL ms).length <= ms.length := by
 unfold srcL;have h1 := setB_length ((ms.filter okM).map (·.1));have h2 := List.length_filter_le okM ms;rw [List.length_map] at h1;omega
theorem map_pg {g : List (List Vx)} (h : gvalidB g = true) (hg : 2 <= g.length) (hl : ∀ l ∈ g, l.length <= 50000) (ms : List (B × B)) (hm : ms.length <= 50000) (ok : Bool) : PG (g.set (g.length - 1) (gmapL g ms ok)) := by
 obtain ⟨k, hk⟩ : ∃ k, k + 2 = g.length := ⟨g.length - 2, by omega⟩
 have e1 : g.length - 1 = k + 1 := by omega
 have e2 : g.length - 2 = k := by omega
 have hpg := gvalid_pg h fun l hl' => by have := hl l hl'; omega
 have hll : (g[k + 1]!).length <= 50000 := hl _ (by rw [getElem!_pos g (k + 1) (by omega)]; exact zM _);rw [e1];unfold gmapL;rw [e1, e2];refine hpg.setLast hk ?_ ?_
 ·split
  ·have h1 := mapL_len ms (fndP g[k + 1]! anyP) (fndP g[k]! anyP) (srcL ms) g[k + 1]!;have h2 := srcL_len ms;omega
  ·have := List.length_filter_le (fun v : Vx => !decide (v.pol ∈ srcL ms)) g[k + 1]!;omega
 ·intro v hv p hp;split at hv
  ·rcases mapL_par hv with ⟨u, hu, e⟩ | ⟨q1, q2⟩
   ·rw [e] at hp; exact hpg.par k (by omega) u hu p hp
   ·rw [q2, zS] at hp;subst hp;have h3 := gvalid_star h (by omega) q1;exact ⟨h3, fndP_lt h3⟩
  ·exact hpg.par k (by omega) v (List.mem_filter.1 hv).1 p hp
end Go.Proofs.YtmagjdocondmhaaGreat.Tr.Gr
namespace Go.Proofs.YtmagjdocondmhaaGreat.Tr.Gr
open Go Go.RowKit Slc St Mp Tr
attribute [local go_sem] Oper.semAt_some
theorem emptyF_any (w : World) (a : Option Addr) (n c : Nat) (hn : n <= 100000) :
  Calls Tryz.prog 98 #[.agg #[.slice a n c]] w fun e w' => e = .returned (.bool (decide (n = 0))) /\ Below w.heap.size w w' := by
 have HB := Bx.mk ((Below.refl w.heap.size w).alloc (zR _) (.cells #[.slice a n c] 63));obtain ⟨q, hq⟩ : ∃ q, q = decide (n = 0) := ⟨_, rfl⟩
 have t1 : ((n : Int) == 0) = q := by rw [hq, Bool.eq_iff_iff]; simp
 have t2 : ((n : Int) = 0) = (q = true) := by rw [hq]; simp
 rw [<- hq];clear hq;go_enter Tryz.func98, Tryz.ntmps98;go_wp2_with fail
 go_ret;exact ⟨by first | rfl | simp [t1, t2], HB.out⟩
theorem idxL_any (w : World) (v : Value) (g : List Lv) (h : GQ w v g) (hn : g.length <= 100000) (hln : ∀ L ∈ g, L.vs.length <= 100000) :
  Calls Tryz.prog 119 #[v, .func (.func 98) #[] #[]] w fun e w' => (∃ r : Int, e = .returned (.int .i64 r) /\ (0 <= r ↔ (g.any fun L => decide (L.vs.length = 0)) = true)) /\ Below w.heap.size w w' := by
 obtain ⟨ad, c, rfl, -⟩ := h.rd.form;have HC := Bx.mk h.at1;have HLV := Bx.mk h.lv;have HLN := Bx.mk hln;obtain ⟨N, hN⟩ : ∃ N, N = g.length := ⟨_, rfl⟩
 have HN := Bx.mk hN;rw [<- hN] at hn |-;clear h hln hN;have eg : ∀ args W, (callFunc 98 args).run Tryz.prog W = .ok (.enter 98 args) W := enters_of Tryz.func98 (by kernel_rfl) rfl
 go_enter Tryz.func119, Tryz.ntmps119;go_wp2_with fail
 go_loopw [8] (fun i wr => ∃ k : Nat, k <= N /\ i = .int .i64 k /\ Bx ((g.take k).any (fun L => decide (L.vs.length = 0)) = false) /\ Bx (Below w.heap.size w wr)) (fun i _ => N - (intOf i).toNat)
 case atStart => exact ⟨0, by omega, rfl, ⟨rfl⟩, ⟨Below.refl _ _⟩⟩
 case round =>
  obtain ⟨k, hk, rfl, hF, hBw⟩ := hrel;by_cases hlt : k < N
  ·have hkl : k < g.length := by rw [<- HN.out]; exact hlt
   obtain ⟨b, o, rfl, hbl, c0⟩ := HC.out wr hBw.out k hkl;have hlv := HLV.out _ (zM hkl);have hll := HLN.out _ (zM hkl);have HTK := Bx.mk (zA hkl);have HME := Bx.mk (zM hkl);obtain ⟨L, hL⟩ : ∃ L, L = g[k] := ⟨_, rfl⟩
   rw [<- hL] at c0 hlv hll HTK HME;obtain ⟨la, lc, hs, -⟩ := hlv.rd.form;rw [hs] at c0;have hcf := emptyF_any wr la L.vs.length lc hll;obtain ⟨r, hr⟩ : ∃ r, r = decide (L.vs.length = 0) := ⟨_, rfl⟩
   rw [<- hr] at hcf;have HRX := Bx.mk hr;obtain ⟨LN, hLN⟩ : ∃ LN, LN = L.vs.length := ⟨_, rfl⟩
   have HLL := Bx.mk hLN;rw [<- hLN] at c0 hcf hll;clear hL hbl hr hs hlv hLN;go_wp2_with fail
   go_at_call 98;refine hcf.mono ?_;rintro e w2 ⟨rfl, hb2⟩;have HB2 := Bx.mk (hBw.out.trans (hb2.mono hBw.out.size));clear hcf hb2 c0
   cases r with
   | true =>
    have HF2 := Bx.mk (show (g.any fun L => decide (L.vs.length = 0)) = true by
     rw [List.any_eq_true]
     exact ⟨L, HME.out, HRX.out.symm⟩)
    clear hkl;go_wp2_with fail
    go_ret
    exact ⟨⟨_, rfl, by rw [HF2.out]; simp⟩, HB2.out⟩
   | false =>
    have HN2 := Bx.mk (show (g.take (k + 1)).any (fun L => decide (L.vs.length = 0)) = false by
     rw [HTK.out, List.any_append, hF.out, Bool.false_or];simp only [List.any_cons, List.any_nil, Bool.or_false]
     exact HRX.out.symm)
    clear hkl;go_wp2_with fail
    go_roundw
    case rel => exact ⟨k + 1, by omega, by go_num, HN2, HB2⟩
    case measure => simp [intOf]; omega
  ·obtain rfl : N = k := by omega
   have HF2 := Bx.mk (show (g.any fun L => decide (L.vs.length = 0)) = false by have := hF.out; rw [HN.out, List.take_length] at this; exact this);go_wp2_with fail
   go_ret;exact ⟨⟨_, rfl, by rw [HF2.out]; simp⟩, hBw.out⟩
theorem someL_any (w : World) (v : Value) (g : List Lv) (h : GQ w v g) (hn : g.length <= 100000) (hln : ∀ L ∈ g, L.vs.length <= 100000) :
  Calls Tryz.prog 97 #[v, .func (.func 98) #[] #[]] w fun e w' => e = .returned (.bool (g.any fun L => decide (L.vs.length = 0))) /\ Below w.heap.size w w' := by
 have HI := Bx.mk (idxL_any w v g h hn hln);obtain ⟨ad, c, rfl, -⟩ := h.rd.form;obtain ⟨R, hR⟩ : ∃ R, R = g.any fun L => decide (L.vs.length = 0) := ⟨_, rfl⟩
 rw [<- hR] at HI |-;clear h hR;go_enter Tryz.func97, Tryz.ntmps97;go_wp2_with fail
 go_at_call 119;refine HI.out.mono ?_;rintro e w' ⟨⟨r, rfl, hr⟩, hb⟩;have HR := Bx.mk hr;have HB := Bx.mk hb;clear hr hb;go_wp2_with fail
 go_ret;exact ⟨by simp [HR.out], HB.out⟩
end Go.Proofs.YtmagjdocondmhaaGreat.Tr.Gr
namespace Go.Proofs.YtmagjdocondmhaaGreat.Tr
open Go Go.RowKit Slc St Mp
attribute [local go_sem] Oper.semAt_some
theorem marks_step {L : List Bool} {N k : Nat} (hL : L.length = N) (hk : k < N) : (L.take k ++ List.replicate (N - k) false).set k L[k]! = L.take (k + 1) ++ List.replicate (N - (k + 1)) false := by
 have hlt : (L.take k).length = k := by rw [List.length_take]; omega
 rw [List.set_append_right _ _ (by omega), hlt, Nat.sub_self, zA (by omega), getElem!_pos L k (by omega), List.append_assoc];congr 1
 obtain ⟨j, hj⟩ : ∃ j, N - k = j + 1 := ⟨N - k - 1, by omega⟩
 rw [hj, show N - (k + 1) = j by omega, List.replicate_succ, List.set_cons_zero]; rfl
theorem TabP.below {w w' : World} {l : List (B × B)} {bm : Nat} {f : B -> Option Sg} (h : TabP w l bm f) (hb : Below w.heap.size w w') : TabP w' l bm f :=
 ⟨h.has_, fun p s hp => RdIn.below (h.rd p s hp) hb, by obtain ⟨q, h1, h2⟩ := h.mp; exact ⟨q, h1, h2.below hb⟩⟩
theorem TabP.look {w : World} {l : List (B × B)} {bm : Nat} {f : B -> Option Sg} (h : TabP w l bm f) (p : B) (hp : p.length <= 1000000) :
  ∃ va n vc, ((f p).getD nilS).val = .slice va n vc /\ (Instr.lookup 86 (.map (some bm)) (.string (bstr p)) true).run Tryz.prog w = .ok (.tuple #[.slice va n vc, .bool (decide (p ∈ srcL l))]) w /\
   (Instr.lookup 86 (.map (some bm)) (.string (bstr p)) false).run Tryz.prog w = .ok (.slice va n vc) w := by
 obtain ⟨q, _, ho⟩ := h.mp;have h1 := ho.lookS u_mapSS Sg.val nilS (Tryz.zeroValue34 _) rdS_mk rdS_inv (k := p) (by unfold maxLen; omega);rw [h.has_] at h1;exact ⟨_, _, _, rfl, h1.2, h1.1⟩
end Go.Proofs.YtmagjdocondmhaaGreat.Tr
namespace Go.Proofs.YtmagjdocondmhaaGreat.Tr
open Go Go.RowKit Slc St Mp
attribute [local go_sem] Oper.semAt_some
theorem subL_few {ms : List (B × B)} (h1 : ms.length <= 100000) (h2 : ∀ m ∈ ms, m.1.length <= 1000000 /\ m.2.length <= 1000000) (x : B) : Few (subL ms x) := by
 refine ⟨?_, fun b hb => ?_⟩
 ·have h3 := setB_length ((ms.filter fun m => decide (m.1 = x) && okM m).map (·.2));have h4 := List.length_filter_le (fun m : B × B => decide (m.1 = x) && okM m) ms;rw [List.length_map] at h3;unfold subL;omega
 ·unfold subL at hb;rw [setB_mem, List.mem_map] at hb;obtain ⟨m, hm, rfl⟩ := hb;exact (h2 m (List.mem_filter.1 hm).1).2
end Go.Proofs.YtmagjdocondmhaaGreat.Tr
namespace Go.Proofs.YtmagjdocondmhaaGreat.Tr.Gr
open Go Go.RowKit Slc St Mp Tr Rg
attribute [local go_sem] Oper.semAt_some
def PrP (w : World) (B : Nat) (v : Value) (g : List Lv) (e : Ending) (w' : World) : Prop :=
 ∃ v' g', e = .returned v' /\ GO w' B v' g' /\ gxs g' = pruneG (gxs g) /\ Fr (GB v g) w w' /\ ∀ k, GB v' g' k -> GB v g k \/ w.heap.size <= k
theorem marksA_at (l : List Vx) (j : Nat) (hj : j < l.length) : (marksA l)[j]! = decide (0 < (l[j]!).par.length) := by
 unfold marksA;rw [getElem!_pos _ j (by simpa using hj), getElem!_pos l j hj]; simp
theorem marksA_len (l : List Vx) : (marksA l).length = l.length := by simp [marksA]
theorem gs_len {g g2 : List Lv} {n : Nat} (h : gxs g2 = fwdG (gxs g) n) : g2.length = g.length := by
 have := congrArg List.length h;rw [gxs_len, fwdG_len, gxs_len] at this; exact this
theorem gs_len' {g : List (List Vx)} {g2 : List Lv} {n : Nat} (h : gxs g2 = bwdG g n) : g2.length = g.length := by
 have := congrArg List.length h;rw [gxs_len, bwdG_len] at this; exact this
theorem pg_len {g : List Lv} (h : PG (gxs g)) : ∀ L ∈ g, L.vs.length <= 100000 := fun L hL => by
 have := h.len (vxs L.vs) (List.mem_map.2 ⟨L, hL, rfl⟩);simpa [vxs] using this
theorem pg_par {g : List Lv} (h : PG (gxs g)) {k : Nat} (h1 : k + 1 < g.length) : ∀ x ∈ (g[k + 1]).vs, ∀ p ∈ x.n.par, 0 <= p /\ p < (((g[k]'(by omega)).vs.length : Nat) : Int) := fun x hx p hp => by
 have := h.par k (by rw [gxs_len]; exact h1) x.n (by rw [gxs_at' g (k + 1) h1]; exact List.mem_map.2 ⟨x, hx, rfl⟩) p hp;rw [gxs_at' g k (by omega)] at this;simpa [vxs] using this
theorem mb_in {w : World} {S : Nat -> Prop} {b n : Nat} {m : List Bool} (h : MB w b m) (hn : n = m.length) (hS : S b) : RdIn w S encM (.slice (some ⟨b, 0, none⟩) n n) m := by
 subst hn;exact ⟨h.rd (zR _), fun k hk => by simp only [Value.ownBlock, zO] at hk; subst hk; exact hS⟩
def mkB (n : Nat) (f : Nat -> Bool) : List Bool := (List.range n).map f
theorem mkB_len (n : Nat) (f : Nat -> Bool) : (mkB n f).length = n := by simp [mkB]
theorem mkB_set {n p : Nat} {f f' : Nat -> Bool} (hf : ∀ r, f' r = (decide (r = p) || f r)) : (mkB n f).set p true = mkB n f' := by
 apply List.ext_getElem
 ·simp [mkB]
 ·intro j h1 h2;rw [List.getElem_set];simp only [mkB, List.getElem_map, List.getElem_range]
  rw [hf];by_cases e : p = j
  ·subst e; rw [if_pos rfl]; simp
  ·rw [if_neg e, zF (fun q => e q.symm), Bool.false_or]
theorem mkB_cong {n : Nat} {f f' : Nat -> Bool} (hf : ∀ r, f' r = f r) : mkB n f' = mkB n f := by unfold mkB; exact List.map_congr_left fun r _ => hf r
def fI (bl : List Vx) (i : Nat) (r : Nat) : Bool := (bl.take i).any fun v => decide ((r : Int) ∈ v.par)
def fN (bl : List Vx) (i : Nat) (ps : List Int) (n : Nat) (r : Nat) : Bool := fI bl i r || decide ((r : Int) ∈ ps.take n)
theorem fI_zero (bl : List Vx) (r : Nat) : fI bl 0 r = false := by simp [fI]
theorem fN_zero (bl : List Vx) (i : Nat) (ps : List Int) (r : Nat) : fN bl i ps 0 r = fI bl i r := by simp [fN]
theorem fN_succ (bl : List Vx) (i : Nat) (ps : List Int) (n : Nat) (hn : n < ps.length) (p : Nat) (hp : ps[n] = (p : Int)) (r : Nat) : fN bl i ps (n + 1) r = (decide (r = p) || fN bl i ps n r) := by
 unfold fN;rw [zA hn, hp];by_cases e : r = p
 ·subst e; simp
 ·have e' : ¬ (r : Int) = (p : Int) := by omega
  rw [zF e, Bool.false_or];congr 1
  simp [e']
theorem fN_all (bl : List Vx) (i : Nat) (hi : i < bl.length) (r : Nat) : fI bl (i + 1) r = fN bl i (bl[i]!).par (bl[i]!).par.length r := by
 unfold fN fI;rw [zA hi, List.any_append, List.take_length, getElem!_pos bl i hi];simp
theorem marksB_eq (n : Nat) (bl : List Vx) : marksB n bl = mkB n (fI bl bl.length) := by
 unfold marksB mkB fI;rw [List.take_length]
theorem prune_any (w : World) (B : Nat) (v : Value) (g : List Lv) (h : GO w B v g) (hP : PG (gxs g)) (hn : g.length <= 100000) :
  Calls Tryz.prog 51 #[v] w fun e w' => PrP w B v g e w' := by
 obtain ⟨ib, hib, hib0, hib1, hib2⟩ := info_parts info_boo;obtain ⟨ad, c, rfl, -⟩ := h.own.rd.form;have HP := Bx.mk hP;have HS0 := Bx.mk (GStep.refl h);obtain ⟨N, hN⟩ : ∃ N, N = g.length := ⟨_, rfl⟩
 have HN := Bx.mk hN;obtain ⟨K, hK⟩ : ∃ K, K = N - 1 := ⟨_, rfl⟩
 have HKN := Bx.mk hK;obtain ⟨v, hv⟩ : ∃ v, v = Value.slice ad g.length c := ⟨_, rfl⟩
 have HV := Bx.mk hv;rw [<- hv] at HS0 h |-;have hvN : v = .slice ad N c := by rw [hv, hN]
 rw [<- hN] at hn;have HVN := Bx.mk hvN;obtain ⟨Q, hQ⟩ : ∃ Q, Q = fun (e : Ending) (w' : World) => PrP w B v g e w' := ⟨_, rfl⟩
 have HQ := Bx.mk hQ;rw [<- hQ];have hg0 := h;have HG0 := Bx.mk h;rw [hvN];clear hP h hN hK hv hvN hQ hg0;go_enter Tryz.func51, Tryz.ntmps51;go_wp2_with fail
 go_loopw [3] (fun i wr => ∃ (n : Nat) (g2 : List Lv), 1 <= n /\ n <= K + 1 /\ i = .int .i64 (n : Nat) /\ Bx (GStep w B v g wr g2) /\ Bx (gxs g2 = fwdG (gxs g) (n - 1))) (fun i _ => N - (intOf i).toNat)
 case atStart => exact ⟨1, g, by omega, by omega, rfl, HS0, ⟨rfl⟩⟩
 case round =>
  clear HS0;obtain ⟨n, g2, hn1, hnK, rfl, hS, hF⟩ := hrel;obtain ⟨wo, rfl⟩ : ∃ wo : World, wo = wr := ⟨_, rfl⟩
  by_cases hlt : n < N
  ·have HK2 := Bx.mk (show n < g2.length by rw [gs_len hF.out, <- HN.out]; exact hlt);have hpg2 : PG (gxs g2) := by rw [hF.out]; exact fwdG_pg HP.out (n - 1) (.inl (by rw [gxs_len, <- HN.out]; omega))
   have HPG2 := Bx.mk hpg2;have hgo := hS.out.go;rw [HVN.out] at hgo;obtain ⟨gb, rfl, l0, -⟩ := hgo.cellL n HK2.out;have hvl := hgo.gl.lv _ (zM HK2.out);have hll := pg_len hpg2 _ (zM HK2.out);obtain ⟨L, hL⟩ : ∃ L, L = g2[n]'HK2.out := ⟨_, rfl⟩
   rw [<- hL] at l0 hvl hll;have HL := Bx.mk hL;obtain ⟨la, lc, hls, -⟩ := hvl.rd.form;rw [hls] at l0 hvl;obtain ⟨LN, hLN⟩ : ∃ LN, LN = L.vs.length := ⟨_, rfl⟩
   have HLN := Bx.mk hLN;rw [<- hLN] at l0 hll;have HVL := Bx.mk hvl;have hmk := run_makeSlice (P := Tryz.prog) wo 75 4 ib (.bool false) Tryz.underlying75 hib hib0 .i64 .i64 (LN : Nat) (LN : Nat) (by omega) (by omega) (by rw [Int.toNat_natCast, hib1]; omega) (by rw [hib2]; omega) (by omega);simp only [Int.toNat_natCast, hib1, made_marks] at hmk
   obtain ⟨qm, hqm⟩ : ∃ q, q = wo.heap.size := ⟨_, rfl⟩
   obtain ⟨W1, hW1⟩ : ∃ W1, W1 = wo.alloc (.cells (Array.replicate LN (Value.bool false)) 4) := ⟨_, rfl⟩
   have hb1 : Below wo.heap.size wo W1 := by rw [hW1]; exact (Below.refl _ _).alloc (zR _) _
   have HB1 := Bx.mk hb1
   have HM1 := Bx.mk (show MB W1 qm ((marksA (vxs L.vs)).take 0 ++ List.replicate (LN - 0) false) by
    rw [hW1]; unfold MB
    rw [List.take_zero, List.nil_append, Nat.sub_zero, List.map_replicate, List.toArray_replicate]
    exact alloc_at hqm)
   have HQM := Bx.mk hqm;have HML := Bx.mk (show (marksA (vxs L.vs)).length = LN by rw [marksA_len, vxs_len, hLN]);have l1 := (hb1.cell (p := ⟨gb, n, none⟩) (World.block_lt_of_cell? wo _ l0)).trans l0;clear hgo hL hvl hls hLN hb1 hpg2;go_upto_region 5 with fail
   rw [<- hW1, <- hqm];clear hmk hW1 hqm l0;go_wp2_with fail
   clear l1;go_loopw [32] (fun i wz => ∃ j : Nat, j <= LN /\ i = .int .i64 j /\ Bx (MB wz qm ((marksA (vxs L.vs)).take j ++ List.replicate (LN - j) false)) /\ Bx (Below wo.heap.size wo wz)) (fun i _ => LN - (intOf i).toNat)
   case atStart => exact ⟨0, by omega, rfl, HM1, HB1⟩
   case round =>
    clear HM1 HB1;obtain ⟨j, hj, rfl, hM, hBw⟩ := hrel;by_cases hlt2 : j < LN
    ·have hjl : j < L.vs.length := by rw [<- HLN.out]; exact hlt2
     obtain ⟨b2, o2, rfl, -, c0, c1, c2⟩ := HVL.out.at3 wr hBw.out j hjl;have HXA := Bx.mk ((HVL.out.at_ _ (zM hjl)));have HXE := Bx.mk (vxs_at L.vs j hjl);obtain ⟨x, hx⟩ : ∃ x, x = L.vs[j] := ⟨_, rfl⟩
     rw [<- hx] at c0 c1 c2 HXA HXE;obtain ⟨pa, pc, hpq, -⟩ := RqIn.form HXA.out.2.1;obtain ⟨ua, uc, hup, -⟩ := HXA.out.1.1.form;obtain ⟨PN, hPN⟩ : ∃ PN, PN = x.n.par.length := ⟨_, rfl⟩
     have HPN := Bx.mk hPN;have hPNb : PN <= 100000 := (by rw [hPN]; exact HXA.out.2.2.2.2.1);rw [hup] at c1;rw [hpq, <- hPN] at c2;obtain ⟨bq, hbq⟩ : ∃ b, b = decide (0 < PN) := ⟨_, rfl⟩
     have t1 : decide ((PN : Int) > 0) = bq := (by rw [hbq, Bool.eq_iff_iff]; simp);have t2 : decide (0 < PN) = bq := hbq.symm;have hms := marks_step HML.out hlt2;rw [<- show bq = (marksA (vxs L.vs))[j]! by rw [marksA_at _ _ (by rw [vxs_len]; exact hjl), HXE.out, hbq, hPN]] at hms;have HMS := Bx.mk hms;obtain ⟨W2, hW2⟩ : ∃ W2, W2 = wr.alloc (.cells #[.string (bstr x.n.pol), .slice ua x.n.ex.length uc, .slice pa PN pc] 65) := ⟨_, rfl⟩
     have hb2 : Below wr.heap.size wr W2 := (by rw [hW2]; exact (Below.refl _ _).alloc (zR _) _);obtain ⟨q6, hq6⟩ : ∃ q, q = wr.heap.size := ⟨_, rfl⟩
     have hr6 : W2.heap[q6]? = some (.cells #[.string (bstr x.n.pol), .slice ua x.n.ex.length uc, .slice pa PN pc] 65 (0, 0)) := (by rw [hW2, hq6]; exact heap_alloc_new _ _);have hqlt := lt_of_some hM.out;have hM2 : MB W2 qm _ := (hb2.block qm hqlt).trans hM.out;have z1 := Go.Proofs.YtmagjdocondmhaaGreat.Rg.frozen_row (i := j) hM2;have mc := hM2.cell j (by rw [List.length_append, List.length_take, List.length_replicate, HML.out]; omega);have m6 := cell_of_row _ _ 2 _ _ _ hr6;simp only [List.getElem?_toArray, List.getElem?_cons_zero, List.getElem?_cons_succ] at m6
     obtain ⟨W3, hW3⟩ : ∃ W3, W3 = W2.setCell ⟨qm, j, none⟩ (.bool bq) := ⟨_, rfl⟩
     have HM3 := Bx.mk (show MB W3 qm ((marksA (vxs L.vs)).take (j + 1) ++ List.replicate (LN - (j + 1)) false) by
      have := hM2.set j bq;rw [HMS.out] at this
      rw [hW3]; exact this)
     have HB3 := Bx.mk (show Below wo.heap.size wo W3 by
      rw [hW3]
      exact (hBw.out.trans (hb2.mono hBw.out.size)).setCell (by show wo.heap.size <= qm; have := HQM.out; omega) _)
     have HW3 := Bx.mk hW3;clear hx hpq hup hPN hbq hr6 hM2 hb2 hms hqlt hjl hW3;go_upto_region 8 with fail
     rw [<- hW2, <- hq6];clear hW2 hq6 c0 c1 c2;go_wp2_with fail
     rw [<- HW3.out];go_roundw
     case rel => exact ⟨j + 1, by omega, by go_num, HM3, HB3⟩
     case measure => simp [intOf]; omega
    ·obtain rfl : j = LN := by omega
     have hMf : MB wr qm (marksA (vxs L.vs)) := by
      have := hM.out;rwa [Nat.sub_self, List.replicate_zero, List.append_nil, <- HML.out, List.take_length] at this
     have hSz := hS.out.below hBw.out;have HSZ := Bx.mk hSz;have hml : (marksA (vxs L.vs)).length = (g2[n]'HK2.out).vs.length := by rw [<- HL.out, marksA_len, vxs_len]
     have hcall := filter_any wr B v g2 hSz.go (by rw [gs_len hF.out, <- HN.out]; exact hn) (pg_len HPG2.out) n HK2.out (.slice (some ⟨qm, 0, none⟩) j j) (marksA (vxs L.vs)) (mb_in hMf HML.out.symm fun hk => by
      have := (hS.out.go.lt hk).2;have := HQM.out
      omega) hml (fun h1 x hx p hp => by
      rw [hml]
      exact pg_par HPG2.out h1 x hx p hp)
     rw [HVN.out] at hcall;clear hMf hSz hml;go_wp2_with fail
     go_at_call 96;refine hcall.mono ?_;rintro e w4 ⟨⟨u, rfl⟩, g3, hS3, hF3⟩;have HS4 := Bx.mk (show GStep w B v g w4 g3 from HSZ.out.trans (by rw [HVN.out]; exact hS3))
     have HF4 := Bx.mk (show gxs g3 = fwdG (gxs g) (n + 1 - 1) by
      rw [hF3, hF.out];obtain ⟨n', rfl⟩ : ∃ n', n = n' + 1 := ⟨n - 1, by omega⟩
      rw [Nat.add_sub_cancel, Nat.add_sub_cancel, fwdG, show fwdG (gxs g) n' = gxs g2 from hF.out.symm, gxs_at' g2 (n' + 1) HK2.out, <- HL.out])
     clear hcall hS3 hF3;go_wp2_with fail
     go_roundw
     case rel => exact ⟨n + 1, g3, by omega, by have := HKN.out; omega, by go_num, HS4, HF4⟩
     case measure => simp [intOf]; omega
  ·have hnk : n - 1 = K := by have := HKN.out; omega
   obtain ⟨H, hH⟩ : ∃ H, H = fwdG (gxs g) K := ⟨_, rfl⟩
   have HH := Bx.mk hH;have hlH : H.length = N := by rw [hH, fwdG_len, gxs_len, HN.out]
   have HHL := Bx.mk hlH
   have HPH := Bx.mk (show PG H by
    rw [hH];refine fwdG_pg HP.out K ?_;rw [gxs_len, <- HN.out]
    have := HKN.out; omega)
   have HF0 := Bx.mk (show gxs g2 = bwdG H 0 by rw [hF.out, hnk, hH]; rfl);have tz : decide ((n : Int) < (N : Int)) = false := zF (by omega);have tz2 : decide (n < N) = false := zF (by omega);clear hH hlH hnk hF;go_wp2_with fail
   clear tz tz2;go_loopw [7] (fun i wr => ∃ (n : Nat) (z : Int) (g3 : List Lv), n <= K /\ i = .int .i64 z /\ z = (N : Int) - 2 - n /\ Bx (GStep w B v g wr g3) /\ Bx (gxs g3 = bwdG H n)) (fun i _ => (intOf i + 1).toNat)
   case atStart => exact ⟨0, (N : Int) - 2, g2, by omega, rfl, by omega, hS, HF0⟩
   case round =>
    clear HF0 hS;obtain ⟨n', z, g3, hn', rfl, hz, hS, hF⟩ := hrel;by_cases hz0 : 0 <= z
    ·obtain ⟨wo, rfl⟩ : ∃ wo : World, wo = wr := ⟨_, rfl⟩
     obtain ⟨k, rfl⟩ : ∃ k : Nat, z = (k : Int) := ⟨z.toNat, by omega⟩
     have hkN : k + 1 < N := (by omega);have hk0N : k < N := (by omega);have HKK := Bx.mk (show k = N - 2 - n' by omega);have HZ := Bx.mk hz;have HK3 := Bx.mk (show k + 1 < g3.length by rw [gs_len' hF.out, HHL.out]; exact hkN);have HK30 := Bx.mk (show k < g3.length by have := HK3.out; omega);have hpg3 : PG (gxs g3) := (by rw [hF.out]; exact bwdG_pg HPH.out n' (.inl (by rw [HHL.out]; omega)));have HPG3 := Bx.mk hpg3;have hgo := hS.out.go;rw [HVN.out] at hgo;obtain ⟨gb, rfl, l0, -⟩ := hgo.cellL k HK30.out;obtain ⟨gb', he', x0, -⟩ := hgo.cellL (k + 1) HK3.out;simp only [zO, Addr.mk.injEq, and_true] at he'
     subst he';have hvl := hgo.gl.lv _ (zM HK3.out);have hvl0 := hgo.gl.lv _ (zM HK30.out);have hll := pg_len hpg3 _ (zM HK3.out);have hll0 := pg_len hpg3 _ (zM HK30.out);have HPR := Bx.mk (pg_par hpg3 HK3.out);obtain ⟨X, hX⟩ : ∃ L, L = g3[k + 1]'HK3.out := ⟨_, rfl⟩
     obtain ⟨L, hL⟩ : ∃ L, L = g3[k]'HK30.out := ⟨_, rfl⟩
     rw [<- hX] at x0 hvl hll HPR;rw [<- hL] at l0 hvl0 hll0 HPR;have HX := Bx.mk hX;have HL := Bx.mk hL;obtain ⟨xa, xc, hxs, -⟩ := hvl.rd.form;obtain ⟨la, lc, hls, -⟩ := hvl0.rd.form;rw [hxs] at x0 hvl;rw [hls] at l0;obtain ⟨LN, hLN⟩ : ∃ LN, LN = L.vs.length := ⟨_, rfl⟩
     obtain ⟨XN, hXN⟩ : ∃ XN, XN = X.vs.length := ⟨_, rfl⟩
     have HLN := Bx.mk hLN;have HXN := Bx.mk hXN;rw [<- hLN] at l0 hll0 HPR;rw [<- hXN] at x0 hll;have HVL := Bx.mk hvl;have hmk := run_makeSlice (P := Tryz.prog) wo 75 4 ib (.bool false) Tryz.underlying75 hib hib0 .i64 .i64 (LN : Nat) (LN : Nat) (by omega) (by omega) (by rw [Int.toNat_natCast, hib1]; omega) (by rw [hib2]; omega) (by omega);simp only [Int.toNat_natCast, hib1, made_marks] at hmk
     obtain ⟨qm, hqm⟩ : ∃ q, q = wo.heap.size := ⟨_, rfl⟩
     obtain ⟨W1, hW1⟩ : ∃ W1, W1 = wo.alloc (.cells (Array.replicate LN (Value.bool false)) 4) := ⟨_, rfl⟩
     have hb1 : Below wo.heap.size wo W1 := (by rw [hW1]; exact (Below.refl _ _).alloc (zR _) _);have HB1 := Bx.mk hb1
     have HM1 := Bx.mk (show MB W1 qm (mkB LN (fI (vxs X.vs) 0)) by
      have e : mkB LN (fI (vxs X.vs) 0) = List.replicate LN false := by
       unfold mkB;apply List.ext_getElem
       ·simp
       ·intro i h1 h2;simp [fI_zero]
      rw [hW1, e]; unfold MB
      rw [List.map_replicate, List.toArray_replicate]
      exact alloc_at hqm)
     have HQM := Bx.mk hqm;have x1 := (hb1.cell (p := ⟨gb, k + 1, none⟩) (World.block_lt_of_cell? wo _ x0)).trans x0;have hn'K : n' + 1 <= K := (by have := HKN.out; omega);clear hgo hL hX hvl hvl0 hls hxs hLN hXN hb1 hpg3 x0 hz;go_upto_region 15 with fail
     rw [<- hW1, <- hqm];clear hmk hW1 hqm l0;go_wp2_with fail
     clear x1;go_loopw [70] (fun i wz => ∃ j : Nat, j <= XN /\ i = .int .i64 j /\ Bx (MB wz qm (mkB LN (fI (vxs X.vs) j))) /\ Bx (Below wo.heap.size wo wz)) (fun i _ => XN - (intOf i).toNat)
     case atStart => exact ⟨0, by omega, rfl, HM1, HB1⟩
     case round =>
      clear HM1 HB1;obtain ⟨j, hj, rfl, hM, hBw⟩ := hrel;by_cases hlt2 : j < XN
      ·have hjl : j < X.vs.length := by rw [<- HXN.out]; exact hlt2
       obtain ⟨b2, o2, rfl, -, c0, c1, c2⟩ := HVL.out.at3 wr hBw.out j hjl;have HXA := Bx.mk ((HVL.out.at_ _ (zM hjl)));have HXE := Bx.mk (vxs_at X.vs j hjl);have hpr := HPR.out _ (zM hjl);obtain ⟨x, hx⟩ : ∃ x, x = X.vs[j] := ⟨_, rfl⟩
       rw [<- hx] at c0 c1 c2 HXA HXE hpr;have HPX := Bx.mk hpr;obtain ⟨pa, pc, hpq, -⟩ := RqIn.form HXA.out.2.1;obtain ⟨ua, uc, hup, -⟩ := HXA.out.1.1.form;have HPC := Bx.mk (Ri.cells (hpq ▸ HXA.out.2.1));obtain ⟨PN, hPN⟩ : ∃ PN, PN = x.n.par.length := ⟨_, rfl⟩
       have HPN := Bx.mk hPN;have hPNb : PN <= 100000 := (by rw [hPN]; exact HXA.out.2.2.2.2.1);rw [hup] at c1;rw [hpq, <- hPN] at c2;obtain ⟨W2, hW2⟩ : ∃ W2, W2 = wr.alloc (.cells #[.string (bstr x.n.pol), .slice ua x.n.ex.length uc, .slice pa PN pc] 65) := ⟨_, rfl⟩
       have hb2 : Below wr.heap.size wr W2 := (by rw [hW2]; exact (Below.refl _ _).alloc (zR _) _);obtain ⟨q10, hq10⟩ : ∃ q, q = wr.heap.size := ⟨_, rfl⟩
       have hr10 : W2.heap[q10]? = some (.cells #[.string (bstr x.n.pol), .slice ua x.n.ex.length uc, .slice pa PN pc] 65 (0, 0)) := by rw [hW2, hq10]; exact heap_alloc_new _ _
       have HM2 := Bx.mk (show MB W2 qm (mkB LN (fN (vxs X.vs) j x.n.par 0)) by
        rw [mkB_cong (fun r => fN_zero _ _ _ r)]
        exact (hb2.block qm (lt_of_some hM.out)).trans hM.out)
       have HB2 := Bx.mk (hBw.out.trans (hb2.mono hBw.out.size));have m10 := cell_of_row _ _ 2 _ _ _ hr10;simp only [List.getElem?_toArray, List.getElem?_cons_zero, List.getElem?_cons_succ] at m10
       clear hx hpq hup hPN hr10 hb2 hjl hpr;go_upto_region 18 with fail
       rw [<- hW2, <- hq10];clear hW2 hq10 c0 c1 c2;go_wp2_with fail
       clear m10;go_loopw [77] (fun i wy => ∃ n : Nat, n <= PN /\ i = .int .i64 n /\ Bx (MB wy qm (mkB LN (fN (vxs X.vs) j x.n.par n))) /\ Bx (Below wo.heap.size wo wy)) (fun i _ => PN - (intOf i).toNat)
       case atStart => exact ⟨0, by omega, rfl, HM2, HB2⟩
       case round =>
        clear HM2 HB2;obtain ⟨n, hn2, rfl, hM3, hB3⟩ := hrel;by_cases hlt3 : n < PN
        ·have hnl : n < x.n.par.length := by rw [<- HPN.out]; exact hlt3
         obtain ⟨b4, o4, rfl, -, d0⟩ := HPC.out wr hB3.out n hnl;have hpi := HPX.out _ (zM hnl);obtain ⟨p, hp⟩ : ∃ p : Nat, x.n.par[n] = (p : Int) := ⟨(x.n.par[n]).toNat, by omega⟩
         have HFS := Bx.mk (fun r => fN_succ (vxs X.vs) j x.n.par n hnl p hp r);rw [hp] at d0 hpi;have hpl : p < LN := (by omega);have z1 := Go.Proofs.YtmagjdocondmhaaGreat.Rg.frozen_row (i := p) hM3.out;have mc := hM3.out.cell p (by rw [mkB_len]; exact hpl);obtain ⟨W5, hW5⟩ : ∃ W5, W5 = wr.setCell ⟨qm, p, none⟩ (.bool true) := ⟨_, rfl⟩
         have HM5 := Bx.mk (show MB W5 qm (mkB LN (fN (vxs X.vs) j x.n.par (n + 1))) by
          have := hM3.out.set p true;rw [mkB_set HFS.out] at this
          rw [hW5]; exact this)
         have HB5 := Bx.mk (show Below wo.heap.size wo W5 by
          rw [hW5]
          exact hB3.out.setCell (by show wo.heap.size <= qm; have := HQM.out; omega) _)
         have HW5 := Bx.mk hW5;clear hp hpi hnl hW5;go_wp2_with fail
         rw [<- HW5.out];go_roundw
         case rel => exact ⟨n + 1, by omega, by go_num, HM5, HB5⟩
         case measure => simp [intOf]; omega
        ·obtain rfl : n = PN := by omega
         have HME := Bx.mk (show MB wr qm (mkB LN (fI (vxs X.vs) (j + 1))) by
          have := hM3.out;rw [HPN.out, <- HXE.out] at this
          rwa [mkB_cong (fun r => fN_all (vxs X.vs) j (by rw [vxs_len, <- HXN.out]; exact hlt2) r)])
         go_wp2_with fail
         go_roundw
         case rel => exact ⟨j + 1, by omega, by go_num, HME, hB3⟩
         case measure => simp [intOf]; omega
      ·obtain rfl : j = XN := by omega
       have hMf : MB wr qm (marksB LN (vxs X.vs)) := by
        rw [marksB_eq, vxs_len, <- HXN.out]; exact hM.out
       have hSz := hS.out.below hBw.out;have HSZ := Bx.mk hSz;have hmll : (marksB LN (vxs X.vs)).length = LN := (by rw [marksB_eq, mkB_len]);have hml : (marksB LN (vxs X.vs)).length = (g3[k]'HK30.out).vs.length := by rw [hmll, <- HL.out]; exact HLN.out
       have hcall := filter_any wr B v g3 hSz.go (by rw [gs_len' hF.out, HHL.out]; exact hn) (pg_len HPG3.out) k HK30.out (.slice (some ⟨qm, 0, none⟩) LN LN) (marksB LN (vxs X.vs)) (mb_in hMf hmll.symm fun hk => by
        have := (hS.out.go.lt hk).2;have := HQM.out
        omega) hml (fun h1 x hx p hp => by
        rw [hml]
        exact pg_par HPG3.out h1 x hx p hp)
       rw [HVN.out] at hcall;clear hMf hSz hml hmll;go_wp2_with fail
       go_at_call 96;refine hcall.mono ?_;rintro e w4 ⟨⟨u, rfl⟩, g4, hS4, hF4⟩;have HS4 := Bx.mk (show GStep w B v g w4 g4 from HSZ.out.trans (by rw [HVN.out]; exact hS4))
       have HF4 := Bx.mk (show gxs g4 = bwdG H (n' + 1) by
        rw [hF4, bwdG, <- hF.out, HHL.out, <- HKK.out, gxs_at' g3 k HK30.out, gxs_at' g3 (k + 1) HK3.out, <- HL.out, <- HX.out, vxs_len, <- HLN.out])
       clear hcall hS4 hF4;go_wp2_with fail
       go_roundw
       case rel => exact ⟨n' + 1, (k : Int) - 1, g4, hn'K, by first | rfl | go_num, by have := HZ.out; omega, HS4, HF4⟩
       case measure => first | (simp [intOf]; done) | (simp [intOf]; omega)
    ·have hnk : n' = K := by have := HKN.out; omega
     have hgo := hS.out.go;have hln3 : g3.length = N := by rw [gs_len' hF.out, HHL.out]
     have hpg3 : PG (gxs g3) := by
      rw [hF.out];refine bwdG_pg HPH.out n' ?_;rw [HHL.out];have := HKN.out; omega
     have hcall := someL_any wr v g3 hgo.gl.q (by rw [hln3]; exact hn) (pg_len hpg3);rw [HVN.out] at hcall;obtain ⟨EM, hEM⟩ : ∃ E, E = g3.any fun L => decide (L.vs.length = 0) := ⟨_, rfl⟩
     rw [<- hEM] at hcall
     have HPRN := Bx.mk (show pruneG (gxs g) = if EM then [] else gxs g3 by
      unfold pruneG;simp only
      rw [gxs_len, <- HN.out, <- HKN.out, <- HH.out, hEM, <- hnk, <- hF.out]
      have e : ((gxs g3).any fun l => decide (l.length = 0)) = g3.any fun L => decide (L.vs.length = 0) := by
       rw [List.any_map];congr 1
       funext L
       simp [vxs]
      rw [e])
     clear hnk hgo hln3 hpg3 hEM hz;go_wp2_with fail
     go_at_call 97;refine hcall.mono ?_;rintro e w5 ⟨rfl, hb5⟩;have HS5 := Bx.mk (hS.out.below hb5);clear hcall hb5
     cases EM with
     | true =>
      go_wp2_with fail
      rw [HQ.out]
      exact ⟨.slice none 0 0, [], rfl, GO.nil _ _, by rw [HPRN.out]; rfl, HS5.out.fr, fun q hq => by
       rcases hq with hq | ⟨L, hL, -⟩
       ·cases hq
       ·cases hL⟩
     | false =>
      go_wp2_with fail
      rw [HQ.out];exact ⟨v, g3, by rw [HVN.out]; rfl, HS5.out.go, by rw [HPRN.out]; rfl, HS5.out.fr, HS5.out.nb⟩
end Go.Proofs.YtmagjdocondmhaaGreat.Tr.Gr
