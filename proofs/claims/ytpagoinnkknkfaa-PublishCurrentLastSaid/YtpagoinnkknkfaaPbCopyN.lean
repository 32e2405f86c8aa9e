/-
  copies.Name, copies.Entry.
-/
import Derived.Test.YtpagoinnkknkfaaPbClone
namespace Go.Proofs.Ytpagoinnkknkfaa.Pb
open Go Go.RowKit Go.Proofs.Ytpagoinnkknkfaa.Slc
set_option linter.unusedVariables false
set_option linter.unusedSimpArgs false

/-- a copy under way: us are the slices of attributes, the first k copied -/
structure Cp (wr : World) (p : Nat) (v1 : Value) (n : Nm) (vs us : List Sl) (k : Nat) : Prop where
  own : Own wr (p + 2) 70 1 encV1 v1 us
  len : us.length = n.length
  done : ∀ j (hj : j < k) (h : j < n.length), RdIn wr (fun b => p + 2 ≤ b ∧ v1.ownBlock ≠ some b) encA (us[j]'(by omega)).val [n[j]]
  todo : ∀ j (hj : k ≤ j) (h : j < n.length), us[j]? = vs[j]?

/-- the facts of the round's region -/
def CpF (W : World) (p : Nat) (v1 : Value) (k : Nat) (U : Value) (l : List Attr) : Nat → Value → World → Prop
  | 0, x, _ => x = .pointer (some ⟨p, 0, none⟩)
  | 1, x, _ => x = v1
  | 2, x, _ => x = .int .i64 k
  | 3, x, _ => x = U
  | 4, x, w => Own w W.heap.size 69 3 encA x l
  | _, _, _ => True
theorem CpF.stable (W : World) (p : Nat) (v1 : Value) (k : Nat) (U : Value) (l : List Attr) (i : Nat) (x : Value) (w w' : World) (h : CpF W p v1 k U l i x w) (hb : Below w.heap.size w w') : CpF W p v1 k U l i x w' := by
  match i with
  | 0 | 1 | 2 | 3 => exact h
  | 4 => exact Own.below (t := 69) h hb
  | _ + 5 => exact trivial

set_option maxRecDepth 10000 in
set_option maxHeartbeats 4000000 in
theorem copyN_any (w : World) (v : Value) (n : Nm) (hv : NameAt w v n) (hn : Nm.Ok n) :
    Calls Try.prog 42 #[.agg #[v]] w fun e w' => ∃ u : Sl, e = .returned (.agg #[u.val]) ∧ NameIn w' (fun k => w.heap.size ≤ k) u.val n ∧ Below w.heap.size w w' := by
  obtain ⟨vs, hr, hl, hx⟩ := hv
  obtain ⟨ad, c, rfl, -⟩ := hr.form
  have hL : vs.length ≤ 1000 := by rw [hl]; exact hn.1
  obtain ⟨p, hp⟩ : ∃ p, p = w.heap.size := ⟨_, rfl⟩
  obtain ⟨W0, hW0⟩ : ∃ W0, W0 = (w.alloc (.cells #[.slice ad vs.length c] 36)).alloc (.cells #[.slice none 0 0] 36) := ⟨_, rfl⟩
  have hBW0 : Below w.heap.size w W0 := by rw [hW0]; exact ((Below.refl _ _).alloc (Nat.le_refl _) _).alloc (by simp) _
  have hZ : W0.heap.size = p + 2 := by rw [hW0, hp]; simp
  have b0 : W0.heap[p]? = some (.cells #[.slice ad vs.length c] 36 (0, 0)) := by
    rw [hW0, hp, heap_alloc_old _ _ (by simp)]; exact heap_alloc_new _ _
  have b1 : W0.heap[p + 1]? = some (.cells #[.slice none 0 0] 36 (0, 0)) := by
    rw [hW0, hp]
    have := heap_alloc_new (w.alloc (.cells #[.slice ad vs.length c] 36)) (.cells #[.slice none 0 0] 36)
    rwa [World.size_alloc] at this
  have hclone := cloneR_any W0 _ vs (hr.below hBW0) (by omega)
  have HL := Bx.mk hl
  have HX := Bx.mk (show ∀ W, Below w.heap.size w W → ∀ i (h : i < n.length), Rd W encA (vs[i]'(by rw [HL.out]; exact h)).val [n[i]] from fun W hW i h => (hx i h).below hW)
  have HBW0 := Bx.mk hBW0
  have HZ := Bx.mk hZ
  have hc0 := cell_of_row _ _ 0 _ _ _ b0
  simp only [List.getElem?_toArray, List.getElem?_cons_zero] at hc0
  have fr0 : ∀ i, W0.frozen? ⟨p, i, none⟩ = false := fun i => by simp [World.frozen?, b0]
  have HP := Bx.mk hp
  have B0 := Bx.mk b0
  have B1 := Bx.mk b1
  clear hr hx hn b0 b1 hBW0 hl hZ
  go_enter Try.func42, Try.ntmps42
  go_wp2_with fail
  rw [← hW0, ← hp]
  clear hW0 hp
  go_wp2_with fail
  go_at_call 58
  refine hclone.mono ?_
  rintro e w1 ⟨v1, rfl, hown1, hb1⟩
  rw [HZ.out] at hown1 hb1
  have hfr1 : ∀ i, w1.frozen? ⟨p, i, none⟩ = false := fun i => (hb1.frozen (p := ⟨p, i, none⟩) (by simp)).trans (fr0 i)
  have hcl1 : w1.cell? ⟨p, 0, none⟩ = some (.slice ad vs.length c) := (hb1.cell (p := ⟨p, 0, none⟩) (by simp)).trans hc0
  obtain ⟨a1, c1, hv1, -⟩ := hown1.rd.form
  have HOWN1 := Bx.mk hown1
  have HB1 := Bx.mk hb1
  subst hv1
  have hpz : p < w1.heap.size := World.block_lt_of_cell? w1 _ hcl1
  have hvl : ∃ L, L = vs.length := ⟨_, rfl⟩
  have HW1 := Bx.mk (show Below p w (w1.setCell ⟨p, 0, none⟩ (.slice a1 vs.length c1)) from by
    have h0 : Below p w w1 := by
      have := HBW0.out.trans (hb1.mono (by rw [HP.out]; omega))
      rwa [← HP.out] at this
    exact h0.setCell (p := ⟨p, 0, none⟩) (Nat.le_refl _) _)
  have HB1' := Bx.mk (show (w1.setCell ⟨p, 0, none⟩ (.slice a1 vs.length c1)).heap[p + 1]? = some (.cells #[.slice none 0 0] 36 (0, 0)) by
    rw [heap_setCell_other _ _ _ _ (by simp), hb1.block _ (by omega), B1.out])
  have HC1 := Bx.mk (show (w1.setCell ⟨p, 0, none⟩ (.slice a1 vs.length c1)).cell? ⟨p, 0, none⟩ = some (.slice a1 vs.length c1) by
    rw [World.cell?_setCell_same' _ _ _ (by rw [hcl1]; rfl)])
  have HCP := Bx.mk (show Cp (w1.setCell ⟨p, 0, none⟩ (.slice a1 vs.length c1)) p (.slice a1 vs.length c1) n vs vs 0 from
    ⟨HOWN1.out.keep fun k hk _ => heap_setCell_other _ _ _ _ (by have := (HOWN1.out.lt k hk).1; simp; omega), HL.out, fun j hj => by omega, fun j _ _ => rfl⟩)
  have HSZ := Bx.mk (show p + 2 ≤ (w1.setCell ⟨p, 0, none⟩ (.slice a1 vs.length c1)).heap.size by have := hb1.size; have := HZ.out; simp; omega)
  clear hown1 hb1 hclone fr0 hc0 hvl
  go_wp2
  go_loopw [12] (fun i wr => ∃ (k : Nat) (us : List Sl), k ≤ vs.length ∧ i = .int .i64 k ∧ Cp wr p (.slice a1 vs.length c1) n vs us k ∧ wr.cell? ⟨p, 0, none⟩ = some (.slice a1 vs.length c1) ∧ Bx (wr.heap[p + 1]? = some (.cells #[.slice none 0 0] 36 (0, 0)) ∧ p + 2 ≤ wr.heap.size ∧ Below p w wr)) (fun i _ => vs.length - (intOf i).toNat)
  case atStart => exact ⟨0, vs, by omega, rfl, HCP.out, HC1.out, ⟨HB1'.out, HSZ.out, HW1.out⟩⟩
  case round =>
    obtain ⟨k, us, hk, rfl, hcp, hc1, hq⟩ := hrel
    have HCPk := Bx.mk hcp
    have hpr : p < wr.heap.size := World.block_lt_of_cell? wr _ hc1
    by_cases hlt : k < vs.length
    · have hul : us.length = vs.length := by rw [hcp.len, HL.out]
      obtain ⟨g, cap, hgv, hgB, hgl, hgf, -, -⟩ := hcp.own.set1 encV1_ok k 0 (by omega) (by omega) (.slice none 0 0) ⟨none, 0, 0⟩ rfl
      simp only [Value.slice.injEq] at hgv
      obtain ⟨rfl, hgn, rfl⟩ := hgv
      have hcell := Own.cell encV1_ok hcp.own k (by omega) 0 (by omega) _ rfl
      rw [Nat.mul_one, Nat.add_zero] at hcell
      have htodo := hcp.todo k (Nat.le_refl _) (by have := HL.out; omega)
      rw [List.getElem?_eq_getElem (by omega), List.getElem?_eq_getElem hlt] at htodo
      have huk : us[k]'(by omega) = vs[k] := Option.some.inj htodo
      rw [huk] at hcell
      have hkn : k < n.length := by have := HL.out; omega
      have HXk := Bx.mk (show ∀ W, Below w.heap.size w W → Rd W encA (vs[k]).val [n[k]] from fun W hW => HX.out W hW k hkn)
      have HBw := Bx.mk (show ∀ W, Below wr.heap.size wr W → Below w.heap.size w W from fun W hW => by rw [← HP.out]; exact hq.out.2.2.trans (hW.mono (by omega)))
      have HCALL := Bx.mk (show ∀ W, Below wr.heap.size wr W → Calls Try.prog 59 #[(vs[k]).val] W fun e w' => ∃ v', e = .returned v' ∧ Own w' W.heap.size 69 3 encA v' [n[k]] ∧ Below W.heap.size W w' from fun W hW => cloneA_any W _ [n[k]] (HXk.out W (HBw.out W hW)) (by simp))
      have hk0 : (k : Int) < vs.length := by omega
      obtain ⟨ua, un, uc, hu⟩ : ∃ a n c, (vs[k]).val = .slice a n c := ⟨_, _, _, rfl⟩
      rw [hu] at hcell HCALL
      clear hu hcp huk htodo hgn hul HXk
      go_wp2_with fail
      refine wp_region_facts 5 (CpF wr p (.slice (some ⟨g, 0, none⟩) vs.length c1) k (.slice ua un uc) [n[k]]) (by kernel_rfl) (by kernel_rfl) (by rfl) (CpF.stable _ _ _ _ _ _) ?_ ?_
      · intro i o hi ho x w2 hb hd
        have hc : i = 0 ∨ i = 1 ∨ i = 2 ∨ i = 3 ∨ i = 4 := by omega
        simp only [List.take_succ_cons, List.take_zero, putFrom]
        have hc2 := (hb.cell (p := ⟨p, 0, none⟩) hpr).trans hc1
        have hcall := HCALL.out w2 hb
        clear hcell hc1
        rcases hc with rfl | rfl | rfl | rfl | rfl
        all_goals
          simp only [List.getElem?_cons_succ, List.getElem?_cons_zero, Option.some.injEq] at ho
          subst ho
          simp [Needs, Region.binds, CpF] at hd
          try obtain ⟨hd1, hd⟩ := hd
          try obtain ⟨hd2, hd⟩ := hd
        all_goals go_wp2_with fail
        all_goals first
          | (exact ⟨rfl, rfl, rfl, Below.refl _ _⟩)
          | (go_at_call 59; (with_reducible refine hcall.mono ?_); rintro e w3 ⟨v', rfl, ho3, hb3⟩; go_wp2_with fail; exact ⟨rfl, rfl, Own.mono (t := 69) ho3 hb.size, hb3⟩)
      · intro x w2 hb hf
        have f0 := hf 0 (by omega)
        have f1 := hf 1 (by omega)
        have f2 := hf 2 (by omega)
        have f3 := hf 3 (by omega)
        have f4 := hf 4 (by omega)
        simp only [CpF] at f0 f1 f2 f3 f4
        clear hf
        simp only [List.take_succ_cons, List.take_zero, List.drop_succ_cons, List.drop_zero, putFrom, Nat.zero_add, Nat.reduceAdd, f0, f1, f2, f3]
        clear f0 f1 f2 f3
        obtain ⟨xa, xc, hxf, -⟩ := f4.rd.form
        have HNEW := Bx.mk f4
        rw [hxf] at HNEW ⊢
        clear f4 hxf x
        have HCP2 := Bx.mk (show Cp (w2.setCell ⟨g, k, none⟩ (.slice xa [n[k]].length xc)) p (.slice (some ⟨g, 0, none⟩) vs.length c1) n vs (us.set k ⟨xa, [n[k]].length, xc⟩) (k + 1) from by
          obtain ⟨g', cap', hgv', -, -, -, hst, hgr⟩ := (HCPk.out.own.below hb).set1 encV1_ok k 0 (by rw [HCPk.out.len]; exact hkn) (by omega) (.slice xa [n[k]].length xc) ⟨xa, [n[k]].length, xc⟩ rfl
          simp only [Value.slice.injEq, Option.some.injEq, Addr.mk.injEq] at hgv'
          obtain ⟨⟨hgg, -, -⟩, -, -⟩ := hgv'
          subst hgg
          rw [Nat.mul_one, Nat.add_zero] at hst hgr
          refine ⟨hst, by rw [List.length_set]; exact HCPk.out.len, fun j hj h => ?_, fun j hj h => ?_⟩
          · by_cases e : j = k
            · subst e
              rw [List.getElem_set_self]
              refine ⟨HNEW.out.rd.keep (by simp) fun i hi _ => heap_setCell_other _ _ _ _ ?_, fun i hi => ?_⟩
              · have := (HNEW.out.lt i hi).1; simp; omega
              · have := (HNEW.out.lt i hi).1
                have h1 := hq.out.2.1
                refine ⟨by omega, fun e => ?_⟩
                simp only [Value.ownBlock, Option.some.injEq] at e
                omega
            · rw [List.getElem_set_ne (by omega)]
              refine ((HCPk.out.done j (by omega) h).keep hb.size fun i _ hi => hb.block i hi).keep (by simp) fun i hi _ => heap_setCell_other _ _ _ _ ?_
              intro e; exact hi.2 (congrArg some e.symm)
          · rw [List.getElem?_set_ne (by omega)]; exact HCPk.out.todo j (by omega) h)
        have HC2 := Bx.mk (show (w2.setCell ⟨g, k, none⟩ (.slice xa [n[k]].length xc)).cell? ⟨p, 0, none⟩ = some (.slice (some ⟨g, 0, none⟩) vs.length c1) from by
          have : (w2.setCell ⟨g, k, none⟩ (.slice xa [n[k]].length xc)).heap[p]? = w2.heap[p]? := heap_setCell_other _ _ _ _ (by simp; omega)
          unfold World.cell?
          rw [this]
          exact (hb.cell (p := ⟨p, 0, none⟩) hpr).trans hc1)
        have HQ2 := Bx.mk (show (w2.setCell ⟨g, k, none⟩ (.slice xa [n[k]].length xc)).heap[p + 1]? = some (.cells #[.slice none 0 0] 36 (0, 0)) ∧ p + 2 ≤ (w2.setCell ⟨g, k, none⟩ (.slice xa [n[k]].length xc)).heap.size ∧ Below p w (w2.setCell ⟨g, k, none⟩ (.slice xa [n[k]].length xc)) from by
          have h1 := hq.out.2.1
          have h2 := hb.size
          refine ⟨?_, by simp; omega, ?_⟩
          · rw [heap_setCell_other _ _ _ _ (by simp; omega), hb.block _ (by omega)]; exact hq.out.1
          · exact (hq.out.2.2.trans (hb.mono (by omega))).setCell (p := ⟨g, k, none⟩) (by simp; omega) _)
        have hgc : (w2.cell? ⟨g, k, none⟩) = some (.slice ua un uc) := (hb.cell (p := ⟨g, k, none⟩) hgl).trans hcell
        have hgfr : w2.frozen? ⟨g, k, none⟩ = false := (hb.frozen (p := ⟨g, k, none⟩) hgl).trans (hgf k)
        clear hcell hc1 hgf hb hgl hgB
        go_wp2
        go_roundw
        case rel => exact ⟨k + 1, us.set k ⟨xa, [n[k]].length, xc⟩, by omega, by go_num, HCP2.out, HC2.out, HQ2⟩
        case measure => simp [intOf]; omega
    · obtain rfl : k = vs.length := by omega
      have bq := hq.out.1
      have m0 := cell_of_row _ _ 0 _ _ _ bq
      simp only [List.getElem?_toArray, List.getElem?_cons_zero] at m0
      have fr : ∀ i, wr.frozen? ⟨p + 1, i, none⟩ = false := fun i => by simp [World.frozen?, bq]
      have HFIN := Bx.mk (show Below w.heap.size w (wr.setCell ⟨p + 1, 0, none⟩ (.slice a1 vs.length c1)) from by
        rw [← HP.out]
        exact hq.out.2.2.setCell (p := ⟨p + 1, 0, none⟩) (by simp) _)
      have HNM := Bx.mk (show NameIn (wr.setCell ⟨p + 1, 0, none⟩ (.slice a1 vs.length c1)) (fun k => w.heap.size ≤ k) (.slice a1 vs.length c1) n from by
        have hkeep : ∀ k, p + 2 ≤ k → (wr.setCell ⟨p + 1, 0, none⟩ (.slice a1 vs.length c1)).heap[k]? = wr.heap[k]? := fun k hk => heap_setCell_other _ _ _ _ (by simp; omega)
        refine ⟨us, ⟨hcp.own.rd.keep (by simp) fun k hk _ => hkeep k (hcp.own.lt k hk).1, fun k hk => by have := (hcp.own.lt k hk).1; have := HP.out; omega⟩, hcp.len, fun i hi => ?_⟩
        have hd := hcp.done i (by have := HL.out; omega) hi
        exact (hd.keep (by simp) fun k hk _ => hkeep k hk.1).mono fun k _ hk => by have := hk.1; have := HP.out; omega)
      clear bq hq hcp
      go_wp2
      refine bodyPost_ret (v := .agg #[.slice a1 vs.length c1]) (by simp [results, Try.results42, go_sem, m0, fr]) rfl ⟨⟨a1, vs.length, c1⟩, rfl, HNM.out, HFIN.out⟩

set_option maxRecDepth 10000 in
set_option maxHeartbeats 2000000 in
theorem copyE_any (w : World) (x : Et) (hx : EtAt w x) :
    Calls Try.prog 46 #[entV x] w fun e w' => ∃ u : Sl, e = .returned (entV ⟨x.e, u⟩) ∧ NameIn w' (fun k => w.heap.size ≤ k) u.val x.e.iss ∧ Below w.heap.size w w' := by
  obtain ⟨p, hp⟩ : ∃ p, p = w.heap.size := ⟨_, rfl⟩
  obtain ⟨W0, hW0⟩ : ∃ W0, W0 = (w.alloc (encBox x)).alloc (.cells #[.int .i64 0, .int .i64 0, .int .i64 0, .int .i64 0, .slice none 0 0] 44) := ⟨_, rfl⟩
  have hBW0 : Below w.heap.size w W0 := by rw [hW0]; exact ((Below.refl _ _).alloc (Nat.le_refl _) _).alloc (by simp) _
  have hZ : W0.heap.size = p + 2 := by rw [hW0, hp]; simp
  have b0 : W0.heap[p]? = some (encBox x) := by
    rw [hW0, hp, heap_alloc_old _ _ (by simp)]; exact heap_alloc_new _ _
  have b1 : W0.heap[p + 1]? = some (.cells #[.int .i64 0, .int .i64 0, .int .i64 0, .int .i64 0, .slice none 0 0] 44 (0, 0)) := by
    rw [hW0, hp]
    have := heap_alloc_new (w.alloc (encBox x)) (.cells #[.int .i64 0, .int .i64 0, .int .i64 0, .int .i64 0, .slice none 0 0] 44)
    rwa [World.size_alloc] at this
  have hcall := copyN_any W0 x.u.val x.e.iss (hx.1.below hBW0) hx.2
  have HBW0 := Bx.mk hBW0
  have HZ := Bx.mk hZ
  have HP := Bx.mk hp
  unfold encBox at b0 hW0
  have HB0 := Bx.mk b0
  have HB1 := Bx.mk b1
  have q0 := cell_of_row _ _ 0 _ _ _ b0
  have q1 := cell_of_row _ _ 1 _ _ _ b0
  have q2 := cell_of_row _ _ 2 _ _ _ b0
  have q3 := cell_of_row _ _ 3 _ _ _ b0
  have q4 := cell_of_row _ _ 4 _ _ _ b0
  simp only [List.getElem?_toArray, List.getElem?_cons_zero, List.getElem?_cons_succ] at q0 q1 q2 q3 q4
  obtain ⟨ua, un, uc, hu⟩ : ∃ a n c, x.u.val = .slice a n c := ⟨_, _, _, rfl⟩
  have hev : ∀ u : Sl, entV ⟨x.e, u⟩ = .agg #[.int .i64 x.e.s, .int .i64 x.e.t, .int .i64 x.e.r, .int .i64 x.e.v, u.val] := fun u => rfl
  have HEV := Bx.mk hev
  have hxv : entV x = .agg #[.int .i64 x.e.s, .int .i64 x.e.t, .int .i64 x.e.r, .int .i64 x.e.v, x.u.val] := rfl
  rw [hxv, hu]
  rw [hu] at hcall q4 hW0 HB0
  clear b0 b1 hBW0 hZ hev hxv hu hx
  generalize x.e.s = S at *
  generalize x.e.t = T at *
  generalize x.e.r = R at *
  generalize x.e.v = V at *
  go_enter Try.func46, Try.ntmps46
  go_wp2_with fail
  rw [← hW0, ← hp]
  clear hW0 hp
  go_wp2_with fail
  go_at_call 42
  refine hcall.mono ?_
  rintro e w1 ⟨u, rfl, hnm, hb1⟩
  rw [HZ.out] at hnm hb1
  have hz1 := hb1.size
  have B0 : w1.heap[p]? = _ := (hb1.block p (by omega)).trans HB0.out
  have B1 : w1.heap[p + 1]? = _ := (hb1.block (p + 1) (by omega)).trans HB1.out
  have c0 := cell_of_row _ _ 0 _ _ _ B0
  have c1 := cell_of_row _ _ 1 _ _ _ B0
  have c2 := cell_of_row _ _ 2 _ _ _ B0
  have c3 := cell_of_row _ _ 3 _ _ _ B0
  have c4 := cell_of_row _ _ 4 _ _ _ B0
  have d0 := cell_of_row _ _ 0 _ _ _ B1
  have d1 := cell_of_row _ _ 1 _ _ _ B1
  have d2 := cell_of_row _ _ 2 _ _ _ B1
  have d3 := cell_of_row _ _ 3 _ _ _ B1
  have d4 := cell_of_row _ _ 4 _ _ _ B1
  simp only [List.getElem?_toArray, List.getElem?_cons_zero, List.getElem?_cons_succ] at c0 c1 c2 c3 c4 d0 d1 d2 d3 d4
  have fr0 : ∀ i, w1.frozen? ⟨p, i, none⟩ = false := fun i => by simp [World.frozen?, B0]
  have fr1 : ∀ i, w1.frozen? ⟨p + 1, i, none⟩ = false := fun i => by simp [World.frozen?, B1]
  obtain ⟨va, vn, vc⟩ := u
  simp only [Sl.val] at hnm HEV ⊢
  have HNM := Bx.mk hnm
  have HBW1 := Bx.mk (HBW0.out.trans (hb1.mono (by have := HP.out; omega)))
  have HLE := Bx.mk (show w.heap.size ≤ p ∧ w.heap.size ≤ p + 1 by have := HP.out; omega)
  clear hnm hb1 B0 B1 hcall q0 q1 q2 q3 q4 hz1
  go_wp2
  refine bodyPost_ret (v := .agg #[.int .i64 S, .int .i64 T, .int .i64 R, .int .i64 V, .slice va vn vc]) (by simp [results, Try.results46, go_sem, c0, c1, c2, c3, c4, d0, d1, d2, d3, d4, fr0, fr1]) rfl ⟨⟨va, vn, vc⟩, by rw [HEV.out], ?_, ?_⟩
  · refine (HNM.out.keep (by simp) fun k hk _ => ?_).mono fun k _ hk => Nat.le_trans HLE.out.1 (by omega)
    repeat rw [heap_setCell_other _ _ _ _ (by simp; omega)]
  · exact (((((HBW1.out.setCell (p := ⟨p, 4, none⟩) HLE.out.1 _).setCell (p := ⟨p + 1, 0, none⟩) HLE.out.2 _).setCell (p := ⟨p + 1, 1, none⟩) HLE.out.2 _).setCell (p := ⟨p + 1, 2, none⟩) HLE.out.2 _).setCell (p := ⟨p + 1, 3, none⟩) HLE.out.2 _).setCell (p := ⟨p + 1, 4, none⟩) HLE.out.2 _
end Go.Proofs.Ytpagoinnkknkfaa.Pb
