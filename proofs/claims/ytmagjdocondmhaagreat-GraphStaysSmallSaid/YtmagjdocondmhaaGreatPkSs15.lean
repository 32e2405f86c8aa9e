/-
pgraph.insert.
-/
import Derived.Test.YtmagjdocondmhaaGreatPkSs14
import Derived.Test.YtmagjdocondmhaaGreatPkSs02
import Derived.Test.YtmagjdocondmhaaGreatPkSs10
import Derived.Deep.DeepCutAuto
import Derived.Deep.QuietTactic
import Derived.Deep.CutBlock
namespace Go.Proofs.YtmagjdocondmhaaGreat.Tr.Gr
open Go Go.RowKit Go.Proofs.YtmagjdocondmhaaGreat.Slc Go.Proofs.YtmagjdocondmhaaGreat.St Go.Proofs.YtmagjdocondmhaaGreat.Mp Go.Proofs.YtmagjdocondmhaaGreat.Tr Go.Proofs.YtmagjdocondmhaaGreat.Rg
set_option linter.unusedVariables false
set_option linter.unusedSimpArgs false
attribute [local go_sem] Oper.semAt_some

/-- the place of a policy in a level -/
def plc (l : List Vx) (p : B) : Nat := (l.takeWhile fun x => decide (x.pol < p)).length
theorem plc_eq {p : B} : ∀ {l : List Vx} {k : Nat}, k ≤ l.length → (∀ j, j < k → (l[j]!).pol < p) → (k < l.length → ¬ (l[k]!).pol < p) → plc l p = k
  | [], k, hk, _, _ => by simp at hk; subst hk; rfl
  | x :: l, 0, _, _, h => by
    have := h (by simp)
    have h1 : ¬ x.pol < p := this
    unfold plc
    rw [List.takeWhile_cons, if_neg (by simpa using h1)]; rfl
  | x :: l, k + 1, hk, h1, h2 => by
    have h0 : x.pol < p := h1 0 (by omega)
    have ih : plc l p = k := plc_eq (by simpa using hk) (fun j hj => by simpa using h1 (j + 1) (by omega)) (fun hl => by simpa using h2 (by simpa using hl))
    unfold plc at ih ⊢
    rw [List.takeWhile_cons, if_pos (by simpa using h0), List.length_cons, ih]
theorem plc_le (l : List Vx) (p : B) : plc l p ≤ l.length := by
  unfold plc
  exact (List.takeWhile_sublist _).length_le
def insV (l : List Vx) (x : Vx) : List Vx := l.take (plc l x.pol) ++ x :: l.drop (plc l x.pol)
def insT (l : List Vt) (x : Vt) : List Vt := l.take (plc (vxs l) x.n.pol) ++ x :: l.drop (plc (vxs l) x.n.pol)
theorem insT_vxs (l : List Vt) (x : Vt) : vxs (insT l x) = insV (vxs l) x.n := by
  unfold insT insV vxs
  simp [List.map_take, List.map_drop]
theorem insV_len (l : List Vx) (x : Vx) : (insV l x).length = l.length + 1 := by
  unfold insV
  have := plc_le l x.pol
  rw [List.length_append, List.length_cons, List.length_take, List.length_drop]; omega
theorem insT_mem {l : List Vt} {x y : Vt} (h : y ∈ insT l x) : y ∈ l ∨ y = x := by
  unfold insT at h
  rcases List.mem_append.1 h with q | q
  · exact .inl (List.mem_of_mem_take q)
  · rcases List.mem_cons.1 q with q | q
    · exact .inr q
    · exact .inl (List.mem_of_mem_drop q)
/-- the facts of the region that inserts -/
def InF (W : World) (Bk gb k a : Nat) (sa : Option Addr) (sn sc : Nat) (l : List Vt) (x : Vt) : Nat → Value → World → Prop
  | 0, v, _ => v = .pointer (some ⟨gb, k, none⟩)
  | 1, v, _ => v = .pointer (some ⟨gb, k, none⟩)
  | 2, v, _ => v = .pointer (some ⟨gb, k, none⟩)
  | 3, v, _ => v = .pointer (some ⟨gb, k, none⟩)
  | 4, v, _ => v = .slice sa sn sc
  | 5, v, _ => v = .int .i64 (a : Nat)
  | 6, v, _ => v = .agg #[.string (bstr x.n.pol), .slice x.u.ad x.u.n x.u.c, .slice x.q.ad x.q.n x.q.c]
  | 7, v, w => ∃ b, v = .slice (some ⟨b, 0, none⟩) 1 1 ∧ W.heap.size ≤ b ∧ w.heap[b]? = some (.cells (encV x).toArray 65 (0, 0))
  | 8, v, w => (∃ ad n c, v = .slice ad n c) ∧ (∀ j, v.ownBlock = some j → (Value.slice sa sn sc).ownBlock = some j ∨ W.heap.size ≤ j) ∧ Slc.Own w Bk 65 3 encV v (l.take a ++ x :: l.drop a)
  | 9, v, _ => v = .pointer (some ⟨gb, k, none⟩)
  | 10, v, _ => v = .pointer (some ⟨gb, k, none⟩)
  | _, _, _ => True
theorem InF.below {W : World} {Bk gb k a : Nat} {sa : Option Addr} {sn sc : Nat} {l : List Vt} {x : Vt} (j : Nat) (v : Value) (w w' : World) (h : InF W Bk gb k a sa sn sc l x j v w) (hb : Below w.heap.size w w') : InF W Bk gb k a sa sn sc l x j v w' := by
  match j with
  | 0 | 1 | 2 | 3 | 4 | 5 | 6 | 9 | 10 => exact h
  | 7 => obtain ⟨b, h1, h2, h3⟩ := h; exact ⟨b, h1, h2, (hb.block b (lt_of_some h3)).trans h3⟩
  | 8 => exact ⟨h.1, h.2.1, h.2.2.below hb⟩
  | _ + 11 => exact trivial
structure InC (W : World) (ob : Option Nat) (d : Nat → Bool) (w : World) : Prop where
  gr : W.grownBy w ob
  be : d 8 = false → Below W.heap.size W w
def InG (W : World) (ob : Option Nat) (i : Nat) (w1 w2 : World) : Prop := w1.grownBy w2 ob
set_option maxRecDepth 100000 in
set_option maxHeartbeats 8000000 in
theorem ginsert_any (w : World) (B gb c : Nat) (g : List Lv) (h : GO w B (.slice (some ⟨gb, 0, none⟩) g.length c) g) (k : Nat) (hk : k < g.length) (x : Vt) (hx : VtIn w (fun j => ¬ GB (.slice (some ⟨gb, 0, none⟩) g.length c) g j) x) (hn : (g[k]).vs.length ≤ 90000) :
    Calls Tryz.prog 65 #[.pointer (some ⟨gb, k, none⟩), verV x] w fun e w' => (∃ u, e = .returned u) ∧ ∃ L', GStep w B (.slice (some ⟨gb, 0, none⟩) g.length c) g w' (g.set k L') ∧ L'.vs = insT (g[k]).vs x := by
  have mixed : Tryz.prog.follows .mixedOrders = true := by kernel_rfl
  obtain ⟨gb', hgb', l0, hgfr⟩ := h.cellL k hk
  simp only [Option.some.injEq, Addr.mk.injEq, and_true] at hgb'
  subst hgb'
  have HG := Bx.mk h
  have HK := Bx.mk hk
  have HX := Bx.mk hx
  have hvl := h.gl.lv _ (List.getElem_mem hk)
  have hown := h.lv _ (List.getElem_mem hk)
  have hao := h.ao _ (List.getElem_mem hk)
  obtain ⟨L, hL⟩ : ∃ L, L = g[k]'HK.out := ⟨_, rfl⟩
  rw [← hL] at l0 hvl hown hao hn ⊢
  have HL := Bx.mk hL
  obtain ⟨la, lc, hls, -⟩ := hvl.rd.form
  have HLS := Bx.mk hls
  obtain ⟨M, hM⟩ : ∃ M, M = L.vs.length := ⟨_, rfl⟩
  have HM := Bx.mk hM
  rw [← hM] at hls hn
  rw [hls] at l0 hvl hown hao
  have HVL := Bx.mk (show VL w (.slice la L.vs.length lc) L.vs by rw [← hM]; exact hvl)
  have HOWN := Bx.mk hown
  have HAO := Bx.mk hao
  have hgbl := World.block_lt_of_cell? w _ l0
  have HGBL := Bx.mk hgbl
  obtain ⟨W1, hW1⟩ : ∃ W1, W1 = w.alloc (.cells #[.string (bstr x.n.pol), .slice x.u.ad x.u.n x.u.c, .slice x.q.ad x.q.n x.q.c] 65) := ⟨_, rfl⟩
  obtain ⟨q3, hq3⟩ : ∃ q, q = w.heap.size := ⟨_, rfl⟩
  have HQ3 := Bx.mk hq3
  have hb1 : Below w.heap.size w W1 := by rw [hW1]; exact (Below.refl _ _).alloc (Nat.le_refl _) _
  have HB1 := Bx.mk hb1
  have HR3 := Bx.mk (show W1.heap[q3]? = some (.cells #[.string (bstr x.n.pol), .slice x.u.ad x.u.n x.u.c, .slice x.q.ad x.q.n x.q.c] 65 (0, 0)) by rw [hW1, hq3]; exact heap_alloc_new _ _)
  have HS1 := Bx.mk (show W1.heap.size = q3 + 1 by rw [hW1, hq3]; simp)
  have L0 := Bx.mk l0
  have HLFZ := Bx.mk hgfr
  unfold verV
  simp only [Sl.val]
  clear h hk hx hvl hown hao hL hls hM hb1 l0 hgfr
  go_enter Tryz.func65, Tryz.ntmps65
  go_upto_region 1 with fail
  rw [← hW1, ← hq3]
  clear hW1 hq3
  go_upto_block 0 with fail
  go_cut [4] (fun av wx => av = .int .i64 (plc (vxs L.vs) x.n.pol : Nat) ∧ Bx (Below W1.heap.size W1 wx))
  case first =>
    go_wp2_with fail
    go_loopw [4] (fun i wr => ∃ a : Nat, a ≤ M ∧ i = .int .i64 a ∧ Bx (∀ j, j < a → ((vxs L.vs)[j]!).pol < x.n.pol) ∧ Bx (Below W1.heap.size W1 wr)) (fun i _ => M - (intOf i).toNat)
    case atStart => exact ⟨0, by omega, rfl, ⟨fun j hj => by omega⟩, ⟨Below.refl _ _⟩⟩
    case round =>
      obtain ⟨a, ha, rfl, hF, hBw⟩ := hrel
      have hbw : Below w.heap.size w wr := HB1.out.trans (hBw.out.mono HB1.out.size)
      have l1 : wr.cell? ⟨gb, k, none⟩ = some (.slice la M lc) := (hbw.cell (p := ⟨gb, k, none⟩) HGBL.out).trans L0.out
      have hr3 := (hBw.out.block q3 (lt_of_some HR3.out)).trans HR3.out
      have m0 := cell_of_row _ _ 0 _ _ _ hr3
      simp only [List.getElem?_toArray, List.getElem?_cons_zero, List.getElem?_cons_succ] at m0
      clear hr3
      by_cases hlt : a < M
      · have hal : a < L.vs.length := by rw [← HM.out]; exact hlt
        obtain ⟨b, o, rfl, hbl, c0, -, -⟩ := HVL.out.at3 wr hbw a hal
        have HALB := Bx.mk hal
        have HXA := Bx.mk (show (vxs L.vs)[a]! = (L.vs[a]'HALB.out).n from vxs_at L.vs a hal)
        have tg : decide ((a : Int) < (M : Int)) = true := decide_eq_true (by omega)
        have s1 := less_bytes (L.vs[a]).n.pol x.n.pol
        obtain ⟨pp, hpp⟩ : ∃ pp, pp = (L.vs[a]'HALB.out).n.pol := ⟨_, rfl⟩
        rw [← hpp] at c0 s1
        have HPP := Bx.mk (show ((vxs L.vs)[a]!).pol = pp by rw [HXA.out, hpp])
        obtain ⟨Y, hY⟩ : ∃ Y, Y = bstr x.n.pol := ⟨_, rfl⟩
        obtain ⟨X, hX⟩ : ∃ X, X = bstr pp := ⟨_, rfl⟩
        rw [← hY] at m0 s1
        rw [← hX] at c0 s1
        clear hbl hal hpp hY hX hbw
        by_cases hc : pp < x.n.pol
        · rw [decide_eq_true hc] at s1
          have HF2 := Bx.mk (show ∀ j, j < a + 1 → ((vxs L.vs)[j]!).pol < x.n.pol from fun j hj => by
            by_cases e : j = a
            · subst e; rw [HPP.out]; exact hc
            · exact hF.out j (by omega))
          clear hc
          go_wp2_with fail
          go_quiet (fail)
          go_wp2_with fail
          go_roundw
          case rel => exact ⟨a + 1, by omega, by go_num, HF2, ⟨below_drawn hBw.out _⟩⟩
          case measure => simp [intOf]; omega
        · rw [decide_eq_false hc] at s1
          have HP := Bx.mk (show plc (vxs L.vs) x.n.pol = a from plc_eq (by rw [vxs_len, ← HM.out]; omega) hF.out (fun _ => by rw [HPP.out]; exact hc))
          clear hc
          go_wp2_with fail
          go_quiet (fail)
          go_wp2_with fail
          go_meet
          exact ⟨by rw [HP.out], ⟨below_drawn hBw.out _⟩⟩
      · have tg : decide ((a : Int) < (M : Int)) = false := decide_eq_false (by omega)
        have tg2 : decide (a < M) = false := decide_eq_false hlt
        have HP := Bx.mk (show plc (vxs L.vs) x.n.pol = a from plc_eq (by rw [vxs_len, ← HM.out]; omega) hF.out (fun q => by rw [vxs_len, ← HM.out] at q; omega))
        clear hbw
        go_wp2_with fail
        go_quiet (fail)
        go_wp2_with fail
        go_meet
        exact ⟨by rw [HP.out], ⟨below_drawn hBw.out _⟩⟩
  case rest =>
  obtain ⟨rfl, hBc⟩ := hcut
  obtain ⟨a, ha⟩ : ∃ a, a = plc (vxs L.vs) x.n.pol := ⟨_, rfl⟩
  have HA := Bx.mk ha
  have hal := plc_le (vxs L.vs) x.n.pol
  rw [vxs_len, ← HM.out, ← ha] at hal
  rw [← ha]
  have HAL := Bx.mk hal
  have hbw : Below w.heap.size w wc := HB1.out.trans (hBc.out.mono HB1.out.size)
  have HBW := Bx.mk hbw
  have HRC := Bx.mk ((hBc.out.block q3 (lt_of_some HR3.out)).trans HR3.out)
  have HLC := Bx.mk (show wc.cell? ⟨gb, k, none⟩ = some (.slice la M lc) from (hbw.cell (p := ⟨gb, k, none⟩) HGBL.out).trans L0.out)
  have HOC := Bx.mk (HOWN.out.below hbw)
  have HGC := Bx.mk (HG.out.below hbw)
  have HXC := Bx.mk (show VtIn wc (fun j => ¬ GB (.slice (some ⟨gb, 0, none⟩) g.length c) g j) x from VtIn.below HX.out hbw)
  have HQ3C := Bx.mk (show (Value.slice la M lc).ownBlock ≠ some q3 ∧ (Value.slice la M lc).ownBlock ≠ some gb from ⟨fun e => by have := (HOWN.out.lt q3 e).2; have := HQ3.out; omega, fun e => HAO.out gb e rfl⟩)
  clear ha hal hbw
  go_wp2_with fail
  refine wp_region_factsH 11 (fun _ => none) (fun i => i == 8) (fun i z w' => InF wc B gb k a la M lc L.vs x i (z i) w') (InC wc (Value.slice la M lc).ownBlock) (InG wc (Value.slice la M lc).ownBlock) ?_ mixed (by kernel_rfl) (by rfl) ?_ ?_ ?_ ?_ ?_ ?_ ?_
  · exact ⟨⟨rfl, rfl, rfl, Nat.le_refl _, fun _ _ _ => rfl⟩, fun _ => ⟨rfl, rfl, rfl, Nat.le_refl _, fun _ _ => rfl⟩⟩
  · intro i oi z y w1 _ _ e _ hh
    show InF _ _ _ _ _ _ _ _ _ _ i (y i) w1
    rw [← e]; exact hh
  · exact fun i z w1 w2 hh hb => InF.below i _ _ _ hh hb
  · intro d i w1 w2 hh hb _ hB
    refine ⟨grown_bel hh.gr hB, fun e => ?_⟩
    have hi8 : ¬ i = 8 := by simpa using hb
    have e2 : d 8 = false := by unfold mark at e; rw [if_neg (fun q => hi8 q.symm)] at e; exact e
    exact (hh.be e2).trans (hB.mono (hh.be e2).size)
  · intro d i oi w1 w2 _ _ hh hb _ hg
    have hi8 : i = 8 := by simpa using hb
    subst hi8
    exact ⟨grown_same hh.gr hg, fun e => by simp [mark] at e⟩
  · intro b ob' i z d w1 w2 hb _ _ _ hne _ _ _ _ hh hg
    have hb8 : b = 8 := by simpa using hb
    subst hb8
    match i, hne, hh with
    | 0, _, hh | 1, _, hh | 2, _, hh | 3, _, hh | 4, _, hh | 5, _, hh | 6, _, hh | 9, _, hh | 10, _, hh => exact hh
    | 7, _, hh =>
      obtain ⟨b, h1, h2, h3⟩ := hh
      exact ⟨b, h1, h2, (hg.block b (lt_of_some h3) (fun e => by have := (HOC.out.lt b e.symm).2; omega)).trans h3⟩
    | 8, hne, _ => exact absurd rfl hne
    | _ + 11, _, _ => exact trivial
  · intro i o hi ho d z w7 hcl hdi hrd hCC hd
    have hc : i = 0 ∨ i = 1 ∨ i = 2 ∨ i = 3 ∨ i = 4 ∨ i = 5 ∨ i = 6 ∨ i = 7 ∨ i = 8 ∨ i = 9 ∨ i = 10 := by omega
    have hgc := hCC.gr
    have l1 : w7.cell? ⟨gb, k, none⟩ = some (.slice la M lc) := by
      have h1 := HLC.out
      have h2 := hgc.block gb (Nat.lt_of_lt_of_le HGBL.out HBW.out.size) (fun e => HQ3C.out.2 e.symm)
      unfold World.cell? at h1 ⊢
      rw [h2]; exact h1
    have hr3 := (hgc.block q3 (lt_of_some HRC.out) (fun e => HQ3C.out.1 e.symm)).trans HRC.out
    have m0 := cell_of_row _ _ 0 _ _ _ hr3
    have m1 := cell_of_row _ _ 1 _ _ _ hr3
    have m2 := cell_of_row _ _ 2 _ _ _ hr3
    simp only [List.getElem?_toArray, List.getElem?_cons_zero, List.getElem?_cons_succ] at m0 m1 m2
    have HCC := Bx.mk hCC
    clear hcl hrd hCC hr3 hgc
    have HDI := Bx.mk hdi
    simp only [List.take_succ_cons, List.take_zero, putFrom]
    rcases hc with rfl | rfl | rfl | rfl | rfl | rfl | rfl | rfl | rfl | rfl | rfl
    all_goals
      simp only [List.getElem?_cons_succ, List.getElem?_cons_zero, Option.some.injEq] at ho
      subst ho
      simp [NeedsB, Region.binds, InF] at hd
      clear hi hdi
    case inr.inr.inr.inr.inr.inr.inr.inl =>
      go_wp2_with fail
      exact ⟨rfl, rfl, ⟨w7.heap.size, rfl, HCC.out.gr.size, heap_alloc_new _ _⟩, (Below.refl _ _).alloc (Nat.le_refl _) _⟩
    case inr.inr.inr.inr.inr.inr.inr.inr.inl =>
      obtain ⟨h4, h5, b, h7, hbz, hbr⟩ := hd
      have how := HOC.out.below (HCC.out.be HDI.out)
      have hcall := gins_any w7 B (.slice la M lc) L.vs how (by rw [← HM.out]; omega) a (by rw [← HM.out]; exact HAL.out) x b hbr (fun e => by have := (HOC.out.lt b e).2; omega) (by
        have h1 := HG.out.lt (k := gb) (.inl rfl)
        have h2 := HBW.out.size
        have h3 := (HCC.out.be HDI.out).size
        omega)
      clear how hbr hbz m0 m1 m2
      go_wp2_with fail
      go_at_call 106
      refine hcall.mono ?_
      rintro e w8 ⟨v', rfl, ⟨sa, sn, sc, rfl⟩, hvb, hvo, hvg⟩
      clear hcall
      go_wp2_with fail
      exact ⟨rfl, rfl, ⟨⟨_, _, _, rfl⟩, fun j hj => (hvb j hj).imp id fun q => by have := HCC.out.gr.size; omega, hvo⟩, hvg⟩
    all_goals
      go_wp2_with fail
      exact ⟨rfl, rfl, rfl, Below.refl _ _⟩
  · intro d z w7 hdn hCC hf
    have f8 := hf 8 (by omega) (fun c hc => by cases hc)
    have f10 := hf 10 (by omega) (fun c hc => by cases hc)
    obtain ⟨⟨sa, sn, sc, f8e⟩, f8b, f8o⟩ := f8
    have f10' : z 10 = .pointer (some ⟨gb, k, none⟩) := f10
    have hgr := hCC.gr
    clear hf hCC hdn f10
    rw [f8e] at f8b f8o
    have hlv : (g[k]'HK.out).s.val.ownBlock = (Value.slice la M lc).ownBlock := by rw [← HL.out, HLS.out, HM.out]
    have hst := HGC.out.setL2 k HK.out (by rw [hlv]; exact hgr) ⟨insT L.vs x, ⟨sa, sn, sc⟩⟩ (by
        have h1 := f8o
        rw [HA.out] at h1
        exact h1) (fun j hj => by rw [hlv]; exact f8b j hj) (fun y hy => by
        rcases insT_mem hy with q | rfl
        · exact HGC.out.nm _ (List.getElem_mem HK.out) y (by rw [← HL.out]; exact q)
        · exact HXC.out)
    obtain ⟨gb', cap', hv', hl', hfz, hcl, hgs⟩ := hst
    simp only [Value.slice.injEq, Option.some.injEq, Addr.mk.injEq, and_true, true_and] at hv'
    obtain ⟨rfl, rfl⟩ := hv'
    rw [← HL.out, HLS.out, ← HM.out] at hcl
    simp only [Sl.val] at hgs
    have z1 := hfz k
    have HGS := Bx.mk (((GStep.refl HG.out).below HBW.out).trans hgs)
    clear f8b f8o hlv hgs hfz hgr hl'
    simp only [List.take_succ_cons, List.take_zero, List.drop_succ_cons, List.drop_zero, putFrom, Nat.zero_add, Nat.reduceAdd, f10', f8e]
    clear f10' f8e
    generalize z 0 = z0, z 1 = z1, z 2 = z2, z 3 = z3, z 4 = z4, z 5 = z5, z 6 = z6, z 7 = z7, z 9 = z9
    simp only [Act.put, List.setIfInBounds_toArray, List.set_cons_succ, List.set_cons_zero]
    go_wp2_with fail
    go_end0
    exact ⟨⟨_, rfl⟩, _, HGS.out, rfl⟩
end Go.Proofs.YtmagjdocondmhaaGreat.Tr.Gr
