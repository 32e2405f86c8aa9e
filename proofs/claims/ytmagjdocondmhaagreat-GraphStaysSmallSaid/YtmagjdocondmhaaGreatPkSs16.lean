/-
pgraph.Valid.
-/
import Derived.Test.YtmagjdocondmhaaGreatPkSs07
import Derived.Deep.CutBlock
import Derived.Deep.DeepCutAuto
namespace Go.Proofs.YtmagjdocondmhaaGreat.Tr.Gr
open Go Go.RowKit Go.Proofs.YtmagjdocondmhaaGreat.Slc Go.Proofs.YtmagjdocondmhaaGreat.St Go.Proofs.YtmagjdocondmhaaGreat.Mp Go.Proofs.YtmagjdocondmhaaGreat.Tr
set_option linter.unusedVariables false
set_option linter.unusedSimpArgs false
attribute [local go_sem] Oper.semAt_some

def topB (l : List Vx) : Bool := decide (l.length = 1) && (specV l[0]! && (onlyB (l[0]!).ex && decide ((l[0]!).par.length = 0)))
def ordB (l : List Vx) (i : Nat) : Bool := decide (i = 0) || decide ((l[i - 1]!).pol < (l[i]!).pol)
def lvlB (ab l : List Vx) : Bool := (List.range l.length).all (fun i => gfitB l[i]! ab && ordB l i) && (decide (l.length ≠ 0) && (List.range ab.length).all (fun (j : Nat) => l.any fun v => decide ((j : Int) ∈ v.par)))
def gvalidB (g : List (List Vx)) : Bool := decide (g.length = 0) || (topB g[0]! && (List.range (g.length - 1)).all fun k => lvlB g[k]! g[k + 1]!)
theorem gxs_len (g : List Lv) : (gxs g).length = g.length := by simp [gxs]
theorem gxs_at (g : List Lv) (i : Nat) (h : i < g.length) : (gxs g)[i]! = vxs (g[i]).vs := by
  rw [getElem!_pos (gxs g) i (by simpa [gxs] using h)]; simp [gxs]
/-- the parents that the first vertices name -/
def parJ (l : List Vx) (i : Nat) : Int → Option Bool := fun j => if (l.take i).any (fun v => decide (j ∈ v.par)) then some true else none
theorem parJ_zero (l : List Vx) : parJ l 0 = fun _ => none := by funext j; simp [parJ]
def parP (f : Int → Option Bool) (ps : List Int) (k : Nat) : Int → Option Bool := fun j => if j ∈ ps.take k then some true else f j
theorem parP_zero (f : Int → Option Bool) (ps : List Int) : parP f ps 0 = f := by funext j; simp [parP]
theorem parP_succ (f : Int → Option Bool) (ps : List Int) (k : Nat) (hk : k < ps.length) : parP f ps (k + 1) = fun j => if j = ps[k] then some true else parP f ps k j := by
  funext j
  unfold parP
  rw [List.take_succ_eq_append_getElem hk]
  by_cases e : j = ps[k]
  · rw [if_pos e, if_pos (by rw [List.mem_append]; right; simp [e])]
  · rw [if_neg e]
    by_cases e2 : j ∈ ps.take k
    · rw [if_pos e2, if_pos (List.mem_append.2 (.inl e2))]
    · rw [if_neg e2, if_neg (by rw [List.mem_append]; simp [e, e2])]
theorem parP_all (l : List Vx) (i : Nat) (hi : i < l.length) : parP (parJ l i) (l[i]!).par (l[i]!).par.length = parJ l (i + 1) := by
  funext j
  unfold parP parJ
  rw [List.take_length, List.take_succ_eq_append_getElem hi, List.any_append, getElem!_pos l i hi]
  by_cases e : j ∈ (l[i]).par
  · simp [e]
  · simp [e]
def keysJ (A : Nat) (f : Int → Option Bool) : List Int := ((List.range A).filter fun (i : Nat) => (f (i : Int)).isSome).map fun (i : Nat) => (i : Int)
theorem keysJ_mem {A : Nat} {f : Int → Option Bool} (h : ∀ j, (f j).isSome = true → 0 ≤ j ∧ j < (A : Int)) (j : Int) : j ∈ keysJ A f ↔ (f j).isSome = true := by
  unfold keysJ
  rw [List.mem_map]
  constructor
  · rintro ⟨i, hi, rfl⟩
    exact (List.mem_filter.1 hi).2
  · intro hj
    obtain ⟨h0, h1⟩ := h j hj
    refine ⟨j.toNat, List.mem_filter.2 ⟨List.mem_range.2 (by omega), ?_⟩, by omega⟩
    have : ((j.toNat : Nat) : Int) = j := by omega
    rw [this]; exact hj
theorem keysJ_nodup (A : Nat) (f : Int → Option Bool) : (keysJ A f).Nodup := by
  unfold keysJ
  refine (List.nodup_range.filter _).map _ ?_ 
  intro a b h e
  exact h (Int.ofNat.inj e)
theorem keysJ_len (A : Nat) (f : Int → Option Bool) : (keysJ A f).length ≤ A ∧ (((keysJ A f).length = A) ↔ ∀ j, j < A → (f (j : Nat)).isSome = true) := by
  unfold keysJ
  rw [List.length_map]
  have h1 := List.length_filter_le (fun (i : Nat) => (f (i : Int)).isSome) (List.range A)
  rw [List.length_range] at h1
  refine ⟨h1, ?_⟩
  have h2 := @List.length_filter_eq_length_iff Nat (fun (i : Nat) => (f (i : Int)).isSome) (List.range A)
  rw [List.length_range] at h2
  rw [h2]
  simp
theorem parJ_some (l : List Vx) (i : Nat) (j : Int) : (parJ l i j).isSome = (l.take i).any fun v => decide (j ∈ v.par) := by
  unfold parJ
  cases (l.take i).any fun v => decide (j ∈ v.par) <;> simp
theorem fit_in {v : Vx} {ab : List Vx} (h : gfitB v ab = true) : ∀ p ∈ v.par, 0 ≤ p ∧ p < (ab.length : Int) := by
  unfold gfitB at h
  rw [Bool.and_eq_true, Bool.not_eq_true'] at h
  have hb := h.1
  unfold badV at hb
  simp only [Bool.or_eq_false_iff, Bool.not_eq_false', decide_eq_false_iff_not] at hb
  exact par_in hb.2.1 hb.2.2.1 hb.2.2.2
theorem lvl_keys {ab l : List Vx} (h : ∀ i, i < l.length → (gfitB l[i]! ab && ordB l i) = true) : ∀ j, (parJ l l.length j).isSome = true → 0 ≤ j ∧ j < (ab.length : Int) := by
  intro j hj
  rw [parJ_some, List.take_length, List.any_eq_true] at hj
  obtain ⟨v, hv, hm⟩ := hj
  obtain ⟨i, hi, rfl⟩ := List.getElem_of_mem hv
  have := h i hi
  rw [Bool.and_eq_true, getElem!_pos l i hi] at this
  exact fit_in this.1 j (of_decide_eq_true hm)
theorem lvl_good {ab l : List Vx} (h : ∀ i, i < l.length → (gfitB l[i]! ab && ordB l i) = true) (hl : 0 < l.length) : lvlB ab l = decide ((keysJ ab.length (parJ l l.length)).length = ab.length) := by
  unfold lvlB
  have h1 : ((List.range l.length).all fun i => gfitB l[i]! ab && ordB l i) = true := by
    rw [List.all_eq_true]; intro i hi; exact h i (List.mem_range.1 hi)
  rw [h1, decide_eq_true (show l.length ≠ 0 by omega), Bool.true_and, Bool.true_and]
  rw [Bool.eq_iff_iff, List.all_eq_true, decide_eq_true_eq, (keysJ_len _ _).2]
  simp only [List.mem_range, parJ_some, List.take_length]
theorem lvl_bad {ab l : List Vx} {i : Nat} (hi : i < l.length) (h : (gfitB l[i]! ab && ordB l i) = false) : lvlB ab l = false := by
  unfold lvlB
  rw [Bool.and_eq_false_iff]; left
  rw [List.all_eq_false]
  exact ⟨i, List.mem_range.2 hi, by rw [h]; simp⟩
theorem lvl_nil {ab : List Vx} {l : List Vx} (h : l.length = 0) : lvlB ab l = false := by
  unfold lvlB
  rw [h]; simp
theorem i64_small {p : Int} {n : Nat} (h : 0 ≤ p ∧ p < (n : Int)) (hn : n ≤ 100000) : I64 p := by unfold I64; omega
set_option maxRecDepth 100000 in
set_option maxHeartbeats 8000000 in
theorem gvalid_q (w : World) (v : Value) (g : List Lv) (h : GQ w v g) (hn : g.length ≤ 100000) (hln : ∀ L ∈ g, L.vs.length ≤ 100000) :
    Calls Tryz.prog 15 #[v] w fun e w' => e = .returned (.bool (gvalidB (gxs g))) ∧ Below w.heap.size w w' := by
  obtain ⟨R, hR⟩ : ∃ R, R = gvalidB (gxs g) := ⟨_, rfl⟩
  rw [← hR]
  obtain ⟨ad, c, rfl, -⟩ := h.rd.form
  have HG := Bx.mk h
  have HLN := Bx.mk hln
  have HGX := Bx.mk (fun k hk => gxs_at g k hk)
  have HR := Bx.mk hR
  have hfrom := fun hp : 1 ≤ g.length => h.rd.rest encL_ok und_levs (fun W => (show (sizeOf (Tryz.prog.elem 23)).run Tryz.prog W = .ok 1 W by kernel_rfl)) 1 hp
  obtain ⟨N, hN⟩ : ∃ N, N = g.length := ⟨_, rfl⟩
  have HN := Bx.mk hN
  rw [← hN] at hn ⊢
  clear h hln hR hN
  by_cases hz : N = 0
  · have HF := Bx.mk (show R = true by rw [HR.out]; unfold gvalidB; rw [gxs_len, ← HN.out, decide_eq_true hz]; rfl)
    subst hz
    clear hfrom
    go_enter Tryz.func15, Tryz.ntmps15
    go_wp2_with fail
    go_ret
    exact ⟨by rw [HF.out]; rfl, Below.refl _ _⟩
  have hNp : 0 < N := by omega
  have t0 : ((N : Int) == 0) = false := by simp; omega
  have HRR := Bx.mk (show R = (topB (gxs g)[0]! && (List.range (N - 1)).all fun k => lvlB (gxs g)[k]! (gxs g)[k + 1]!) by
    rw [HR.out]; unfold gvalidB; rw [gxs_len, ← HN.out, decide_eq_false hz]; rfl)
  have hfr := hfrom (by rw [← HN.out]; exact hNp)
  have HFR := Bx.mk hfr
  clear hfrom hfr
  have hg0 : 0 < g.length := by rw [← HN.out]; exact hNp
  obtain ⟨b, o, rfl, hbl, t00⟩ := HG.out.at1 w (Below.refl _ _) 0 hg0
  have HGC := Bx.mk (show ∀ W, Below w.heap.size w W → ∀ k (hk : k < g.length), W.cell? ⟨b, o + k, none⟩ = some (g[k]).s.val from fun W hW k hk => by
    obtain ⟨b', o', e, -, h⟩ := HG.out.at1 W hW k hk
    simp only [Option.some.injEq, Addr.mk.injEq, and_true] at e
    obtain ⟨rfl, rfl⟩ := e
    exact h)
  have HL0 := Bx.mk (HG.out.lv g[0] (List.getElem_mem hg0))
  have HLL0 := Bx.mk (HLN.out g[0] (List.getElem_mem hg0))
  have HX0 := Bx.mk (HGX.out 0 hg0)
  obtain ⟨L0, hL0⟩ : ∃ L, L = g[0] := ⟨_, rfl⟩
  rw [← hL0] at t00 HL0 HLL0 HX0
  obtain ⟨a0, c0, hs0, -⟩ := HL0.out.rd.form
  rw [hs0] at t00
  rw [HX0.out] at HRR
  obtain ⟨M0, hM0⟩ : ∃ M, M = L0.vs.length := ⟨_, rfl⟩
  have HM0 := Bx.mk hM0
  rw [← hM0] at t00
  have HV0 := Bx.mk (show VQ w (.slice a0 L0.vs.length c0) L0.vs from hs0 ▸ HL0.out)
  have hM0b : M0 ≤ 100000 := by rw [hM0]; exact HLL0.out
  simp only [Nat.add_zero] at t00
  clear hL0 hg0 hs0 hM0 hbl hz
  have hNi : (0 : Int) < (N : Int) := by omega
  by_cases hone : M0 = 1
  rotate_left
  · have HF := Bx.mk (show R = false by rw [HRR.out]; unfold topB; rw [vxs_len, ← HM0.out, decide_eq_false hone]; rfl)
    have t1 : ((M0 : Int) != 1) = true := by simp; omega
    have t2 : ((M0 : Int) == 1) = false := by simp; omega
    clear hone
    go_enter Tryz.func15, Tryz.ntmps15
    go_wp2_with fail
    go_ret
    exact ⟨by rw [HF.out]; rfl, Below.refl _ _⟩
  have t1 : ((M0 : Int) != 1) = false := by simp; omega
  have t2 : ((M0 : Int) == 1) = true := by simp; omega
  have h01 : 0 < L0.vs.length := by rw [← HM0.out]; omega
  obtain ⟨b0, o0, rfl, -, x0, x1, x2⟩ := HV0.out.at3 w (Below.refl _ _) 0 h01
  have HBLT := World.block_lt_of_cell? w _ x0
  have HX := Bx.mk (show ∀ W, Below w.heap.size w W → W.cell? ⟨b0, o0 + 0 * 3, none⟩ = w.cell? ⟨b0, o0 + 0 * 3, none⟩ ∧ W.cell? ⟨b0, o0 + 0 * 3 + 1, none⟩ = w.cell? ⟨b0, o0 + 0 * 3 + 1, none⟩ ∧ W.cell? ⟨b0, o0 + 0 * 3 + 2, none⟩ = w.cell? ⟨b0, o0 + 0 * 3 + 2, none⟩ from
    fun W hW => ⟨hW.cell (p := ⟨b0, o0 + 0 * 3, none⟩) HBLT, hW.cell (p := ⟨b0, o0 + 0 * 3 + 1, none⟩) HBLT, hW.cell (p := ⟨b0, o0 + 0 * 3 + 2, none⟩) HBLT⟩)
  clear HBLT
  have HA0 := Bx.mk (HV0.out.at_ L0.vs[0] (List.getElem_mem h01))
  have HE0 := Bx.mk (vxs_at L0.vs 0 h01)
  obtain ⟨y, hy⟩ : ∃ y, y = L0.vs[0] := ⟨_, rfl⟩
  rw [← hy] at x0 x1 x2 HA0 HE0
  have HTOP := Bx.mk (show topB (vxs L0.vs) = (specV y.n && (onlyB y.n.ex && decide (y.n.par.length = 0))) by
    unfold topB; rw [vxs_len, ← HM0.out, decide_eq_true hone, Bool.true_and, HE0.out])
  obtain ⟨pa, pc, hpq, -⟩ := RqIn.form HA0.out.2.1
  obtain ⟨ua, uc, hup, -⟩ := HA0.out.1.form
  have hsy := gspec_any y w
  have hon := fun W (hW : Below w.heap.size w W) => gonly_q W _ y.n.ex (HA0.out.1.below hW)
  unfold verV at hsy
  rw [hup] at x1 hsy hon
  rw [hpq] at x2 hsy
  obtain ⟨PN, hPN⟩ : ∃ PN, PN = y.n.par.length := ⟨_, rfl⟩
  have HPN := Bx.mk hPN
  have hPNb : PN ≤ 100000 := by rw [hPN]; exact HA0.out.2.2.2.2
  rw [← hPN] at x2 hsy HTOP
  obtain ⟨SY, hSY⟩ : ∃ s, s = specV y.n := ⟨_, rfl⟩
  obtain ⟨OY, hOY⟩ : ∃ s, s = onlyB y.n.ex := ⟨_, rfl⟩
  rw [← hSY] at hsy HTOP
  rw [← hOY] at hon HTOP
  have HON := Bx.mk hon
  clear hy hpq hup hSY hOY hon hPN h01
  simp only [Nat.zero_mul, Nat.add_zero] at x0 x1 x2 HX
  rw [x0, x1, x2] at HX
  generalize bstr y.n.pol = YS at *
  have hM1 : (0 : Int) < (M0 : Int) := by omega
  go_enter Tryz.func15, Tryz.ntmps15
  go_wp2_with fail
  go_at_call 41
  refine hsy.mono ?_
  rintro e w1 ⟨rfl, hb1⟩
  clear hsy x0 x1 x2 t00
  have HB1 := Bx.mk hb1
  clear hb1
  obtain ⟨x0, x1, x2⟩ := HX.out w1 HB1.out
  cases SY with
  | false =>
    have HF := Bx.mk (show R = false by rw [HRR.out, HTOP.out]; rfl)
    go_wp2_with fail
    go_ret
    exact ⟨by rw [HF.out]; rfl, HB1.out⟩
  | true =>
  have hon := HON.out w1 HB1.out
  go_wp2_with fail
  go_at_call 42
  refine hon.mono ?_
  rintro e w1' ⟨rfl, rfl⟩
  clear hon
  cases OY with
  | false =>
    have HF := Bx.mk (show R = false by rw [HRR.out, HTOP.out]; rfl)
    go_wp2_with fail
    go_ret
    exact ⟨by rw [HF.out]; rfl, HB1.out⟩
  | true =>
  by_cases hpz : PN = 0
  rotate_left
  · have HF := Bx.mk (show R = false by rw [HRR.out, HTOP.out, decide_eq_false hpz]; rfl)
    have t3 : decide ((PN : Int) > 0) = true := decide_eq_true (by omega)
    have t4 : decide (0 < PN) = true := decide_eq_true (by omega)
    go_wp2_with fail
    go_ret
    exact ⟨by rw [HF.out]; rfl, HB1.out⟩
  have t3 : decide ((PN : Int) > 0) = false := decide_eq_false (by omega)
  have HRA := Bx.mk (show R = (List.range (N - 1)).all fun k => lvlB (gxs g)[k]! (gxs g)[k + 1]! by rw [HRR.out, HTOP.out, decide_eq_true hpz]; rfl)
  obtain ⟨u, hsl0, hru⟩ := HFR.out
  obtain ⟨K, hK⟩ : ∃ K, K = N - 1 := ⟨_, rfl⟩
  have hKl : (g.drop 1).length = K := by rw [List.length_drop, ← HN.out, hK]
  obtain ⟨au, cu, hu, -⟩ := hru.form
  rw [hKl] at hu
  subst hu
  have hsl : ∀ W, (Instr.slice 23 (.slice (some ⟨b, o, none⟩) N c) (some (.int .i64 1)) none none).run Tryz.prog W = .ok (.slice au K cu) W := fun W => by
    have := hsl0 W
    rw [← HN.out] at this
    exact this
  have HUC := Bx.mk (show ∀ W, Below w.heap.size w W → ∀ k (hk : k < K) (h1 : k + 1 < g.length), ∃ b' o', au = some ⟨b', o', none⟩ ∧ W.cell? ⟨b', o' + k, none⟩ = some (g[k + 1]).s.val from fun W hW k hk h1 => by
    have h2 := (ls_cells (n := K) (c := cu) (l := g.drop 1) hru).2 W (fun k hk _ => hW.block k hk) k (by rw [hKl]; exact hk)
    obtain ⟨b', o', e, -, h⟩ := h2
    refine ⟨b', o', e, ?_⟩
    rw [h, List.getElem_drop]
    simp only [Nat.add_comm])
  have HKN := Bx.mk hK
  have hKb : K ≤ 100000 := by omega
  have hmm := @run_makeMap Tryz.prog
  obtain ⟨mb, hmb⟩ : ∃ mb, mb = w1.heap.size := ⟨_, rfl⟩
  have HM0' := Bx.mk (show OwnF (w1.alloc (.map #[] 0)) kI rdB edB mb 0 (fun _ => none) by rw [hmb]; exact OwnF.made w1 kI rdB edB)
  have HB2 := Bx.mk (show Below w.heap.size w (w1.alloc (.map #[] 0)) from HB1.out.trans (((Below.refl _ _).alloc (Nat.le_refl _) _).mono HB1.out.size))
  have HMB := Bx.mk (show w.heap.size ≤ mb by rw [hmb]; exact HB1.out.size)
  rw [← HKN.out] at HRA
  clear hsl0 hru hKl hK HFR HRR HTOP HON HPN HA0 HV0 HL0 HX HM0 HE0 HLL0 HX0 hM0b hone
  go_wp2_with fail
  rw [← hmb]
  clear hmb hmm x0 x1 x2
  go_loopw [49] (fun i wr => ∃ k : Nat, k ≤ K ∧ i = .int .i64 k ∧ Bx (∀ j, j < k → lvlB (gxs g)[j]! (gxs g)[j + 1]! = true) ∧ Bx (∃ n f, OwnF wr kI rdB edB mb n f) ∧ Bx (Below w.heap.size w wr)) (fun i _ => K - (intOf i).toNat)
  case atStart => exact ⟨0, by omega, rfl, ⟨fun j hj => by omega⟩, ⟨_, _, HM0'.out⟩, HB2⟩
  case round =>
    clear HM0' HB2
    obtain ⟨k, hk, rfl, hF, hMP, hBw⟩ := hrel
    by_cases hlt : k < K
    · have hk1 : k + 1 < g.length := by have := HN.out; have := HKN.out; omega
      have hk0 : k < g.length := by omega
      have hkN : k < N := by have := HN.out; omega
      obtain ⟨b', o', rfl, l0⟩ := HUC.out wr hBw.out k hlt hk1
      have a0 := HGC.out wr hBw.out k hk0
      have HVL := Bx.mk (HG.out.lv _ (List.getElem_mem hk1))
      have HVA := Bx.mk (HG.out.lv _ (List.getElem_mem hk0))
      have HXL := Bx.mk (HGX.out _ hk1)
      have HXA := Bx.mk (HGX.out _ hk0)
      have hll := HLN.out _ (List.getElem_mem hk1)
      have hla := HLN.out _ (List.getElem_mem hk0)
      obtain ⟨L, hL⟩ : ∃ L, L = g[k + 1] := ⟨_, rfl⟩
      obtain ⟨A, hA⟩ : ∃ A, A = g[k] := ⟨_, rfl⟩
      rw [← hL] at l0 HVL HXL hll
      rw [← hA] at a0 HVA HXA hla
      clear hL hA hk1 hk0
      obtain ⟨la, lc, hls, -⟩ := HVL.out.rd.form
      obtain ⟨aa, ac, has, -⟩ := HVA.out.rd.form
      rw [hls] at l0 HVL
      rw [has] at a0 HVA
      obtain ⟨M, hM⟩ : ∃ M, M = L.vs.length := ⟨_, rfl⟩
      have HM := Bx.mk hM
      obtain ⟨AN, hAN⟩ : ∃ AN, AN = A.vs.length := ⟨_, rfl⟩
      have HAN := Bx.mk hAN
      rw [← hM] at l0 hll
      rw [← hAN] at a0 hla
      have HLB := Bx.mk (show lvlB (vxs A.vs) (vxs L.vs) = false → R = false from fun h => by
        rw [HRA.out, List.all_eq_false]
        exact ⟨k, List.mem_range.2 hlt, by rw [HXA.out, HXL.out, h]; simp⟩)
      have HLG := Bx.mk (show lvlB (vxs A.vs) (vxs L.vs) = true → ∀ j, j < k + 1 → lvlB (gxs g)[j]! (gxs g)[j + 1]! = true from fun h j hj => by
        by_cases e : j = k
        · subst e; rw [HXA.out, HXL.out]; exact h
        · exact hF.out j (by omega))
      obtain ⟨W1, hW1⟩ : ∃ W1, W1 = wr.alloc (.cells #[.slice la M lc] 63) := ⟨_, rfl⟩
      have hb1 : Below wr.heap.size wr W1 := by rw [hW1]; exact (Below.refl _ _).alloc (Nat.le_refl _) _
      obtain ⟨q6, hq6⟩ : ∃ q, q = wr.heap.size := ⟨_, rfl⟩
      have hr6 : W1.heap[q6]? = some (.cells #[.slice la M lc] 63 (0, 0)) := by rw [hW1, hq6]; exact heap_alloc_new _ _
      have ha1 := (hb1.cell (p := ⟨b, o + k, none⟩) (World.block_lt_of_cell? wr _ a0)).trans a0
      obtain ⟨nn, ff, hown⟩ := hMP.out
      have hmlt : mb < wr.heap.size := hown.lt
      obtain ⟨W2, hcl, hown2, hg2⟩ := (hown.below hb1).clearM u_mapIB
      have hr6' : W2.heap[q6]? = some (.cells #[.slice la M lc] 63 (0, 0)) := (hg2.block q6 (lt_of_some hr6) (by simp only [ne_eq, Option.some.injEq]; omega)).trans hr6
      have HOW2 := Bx.mk hown2
      have hbw2 : Below w.heap.size w W2 := (hBw.out.trans (hb1.mono hBw.out.size)).grown hg2 (Nat.le_trans hBw.out.size hb1.size) (fun k hk => by simp only [Option.some.injEq] at hk; have := HMB.out; omega)
      have HBW2 := Bx.mk hbw2
      have HR6 := Bx.mk hr6'
      have HQ6 := Bx.mk (show mb < q6 by rw [hq6]; exact hmlt)
      have HVL2 := Bx.mk (show ∀ W, Below w.heap.size w W → VQ W (.slice la L.vs.length lc) L.vs from fun W hW => HVL.out.below hW)
      have HVA2 := Bx.mk (show ∀ W, Below w.heap.size w W → VQ W (.slice aa A.vs.length ac) A.vs from fun W hW => HVA.out.below hW)
      have m6 := cell_of_row _ _ 0 _ _ _ hr6'
      simp only [List.getElem?_toArray, List.getElem?_cons_zero] at m6
      clear hown hmlt hown2 hg2 hr6 hr6' hM hAN hls has hb1 hbw2
      go_upto_region 10 with fail
      rw [← hW1, ← hq6]
      clear hW1 hq6 l0 a0
      go_wp2_with fail
      clear HVA m6 hcl ha1
      have HOW3 := Bx.mk (show OwnF W2 kI rdB edB mb (0 * 100000) (parJ (vxs L.vs) 0) by rw [parJ_zero, Nat.zero_mul]; exact HOW2.out)
      clear HOW2
      go_loopw [63] (fun i wx => ∃ m : Nat, m ≤ M ∧ i = .int .i64 m ∧ Bx (∀ j, j < m → (gfitB (vxs L.vs)[j]! (vxs A.vs) && ordB (vxs L.vs) j) = true) ∧ Bx (OwnF wx kI rdB edB mb (m * 100000) (parJ (vxs L.vs) m)) ∧ Bx (Below w.heap.size w wx) ∧ Bx (wx.heap[q6]? = some (.cells #[.slice la M lc] 63 (0, 0)))) (fun i _ => M - (intOf i).toNat)
      case atStart => exact ⟨0, by omega, rfl, ⟨fun j hj => by omega⟩, HOW3, HBW2, HR6⟩
      case round =>
        clear HOW3 HBW2 HR6
        obtain ⟨m, hm, rfl, hFm, hOm, hBm, hQm⟩ := hrel
        by_cases hltm : m < M
        · have hml : m < L.vs.length := by rw [← HM.out]; exact hltm
          have hVLx := HVL2.out wr hBm.out
          obtain ⟨b2, o2, rfl, -, c0, c1, c2⟩ := hVLx.at3 wr (Below.refl _ _) m hml
          have HVX := Bx.mk hVLx
          have HXM := Bx.mk (vxs_at L.vs m hml)
          have HXQ := Bx.mk (HVL.out.at_ L.vs[m] (List.getElem_mem hml))
          obtain ⟨x, hx⟩ : ∃ x, x = L.vs[m] := ⟨_, rfl⟩
          rw [← hx] at c0 c1 c2 HXM HXQ
          obtain ⟨pa', pc', hpq, -⟩ := RqIn.form HXQ.out.2.1
          obtain ⟨ua', uc', hup, -⟩ := HXQ.out.1.form
          have HPC := Bx.mk (Ri.cells (hpq ▸ HXQ.out.2.1))
          obtain ⟨PM, hPM⟩ : ∃ PM, PM = x.n.par.length := ⟨_, rfl⟩
          have HPM := Bx.mk hPM
          have hPMb : PM ≤ 100000 := by rw [hPM]; exact HXQ.out.2.2.2.2
          rw [hup] at c1
          rw [hpq, ← hPM] at c2
          obtain ⟨W3, hW3⟩ : ∃ W3, W3 = wr.alloc (.cells #[.string (bstr x.n.pol), .slice ua' x.n.ex.length uc', .slice pa' PM pc'] 65) := ⟨_, rfl⟩
          have hb3 : Below wr.heap.size wr W3 := by rw [hW3]; exact (Below.refl _ _).alloc (Nat.le_refl _) _
          obtain ⟨q9, hq9⟩ : ∃ q, q = wr.heap.size := ⟨_, rfl⟩
          have hr9 : W3.heap[q9]? = some (.cells #[.string (bstr x.n.pol), .slice ua' x.n.ex.length uc', .slice pa' PM pc'] 65 (0, 0)) := by rw [hW3, hq9]; exact heap_alloc_new _ _
          have hBW3 := hBm.out.trans (hb3.mono hBm.out.size)
          have HB3 := Bx.mk hBW3
          have hr6 := (hb3.block q6 (lt_of_some hQm.out)).trans hQm.out
          have HR6 := Bx.mk hr6
          have HOM := Bx.mk (hOm.out.below hb3)
          have HR9 := Bx.mk hr9
          have hfit := fun (e : Ext W3) => gfits_any e.out x _ A.vs (HXQ.out.below (hBW3.trans (e.bel.mono hBW3.size))) (HVA2.out e.out (hBW3.trans (e.bel.mono hBW3.size))) (by rw [← HAN.out]; exact hla)
          unfold verV at hfit
          rw [hup, hpq, ← HPM.out, ← HAN.out] at hfit
          have n0 := fun (e : Ext W3) => cell_of_row _ _ 0 _ _ _ ((e.bel.block q9 (lt_of_some hr9)).trans hr9)
          have n1 := fun (e : Ext W3) => cell_of_row _ _ 1 _ _ _ ((e.bel.block q9 (lt_of_some hr9)).trans hr9)
          have n2 := fun (e : Ext W3) => cell_of_row _ _ 2 _ _ _ ((e.bel.block q9 (lt_of_some hr9)).trans hr9)
          have n6 := fun (e : Ext W3) => cell_of_row _ _ 0 _ _ _ ((e.bel.block q6 (lt_of_some hr6)).trans hr6)
          simp only [List.getElem?_toArray, List.getElem?_cons_zero, List.getElem?_cons_succ] at n0 n1 n2 n6
          have HPV := Bx.mk (fun (e : Ext W3) (j : Nat) (hj : j < L.vs.length) => hVLx.at3 e.out (hb3.trans (e.bel.mono hb3.size)) j hj)
          obtain ⟨F, hF'⟩ : ∃ F, F = gfitB x.n (vxs A.vs) := ⟨_, rfl⟩
          rw [← hF'] at hfit
          have HFF := Bx.mk hF'
          obtain ⟨O, hO⟩ : ∃ O, O = ordB (vxs L.vs) m := ⟨_, rfl⟩
          have HOO := Bx.mk hO
          have hcur : (bstr x.n.pol) = bstr ((vxs L.vs)[m]!).pol := by rw [HXM.out]
          have HCUR := Bx.mk hcur
          clear hx hpq hup hPM hr9 hr6 hVLx hBW3 hF' hO hcur hml
          go_upto_region 15 with fail
          rw [← hW3, ← hq9]
          clear hW3 hq9 c0 c1 c2
          go_cut [87] (fun cc wz => cc = .bool (!(F && O)) ∧ Below W3.heap.size W3 wz)
          case first =>
            as_aux_lemma =>
              cases F with
              | false =>
                refine wp_region_self (by kernel_rfl) (by kernel_rfl) ?_
                repeat (go_big_quiet_step ((go_at_call 43; exact ext_of (hfit _))))
                refine wpQuiet_nil ?_
                rintro _ ⟨e1, rfl⟩
                go_wp2_with fail
                go_meet
                exact ⟨rfl, e1.bel⟩
              | true =>
              rcases Nat.eq_zero_or_pos m with hm0 | hm0
              · have tg : decide ((m : Int) > 0) = false := decide_eq_false (by omega)
                have tg2 : decide (0 < m) = false := decide_eq_false (by omega)
                have HOT := Bx.mk (show O = true by rw [HOO.out]; unfold ordB; rw [decide_eq_true hm0]; rfl)
                refine wp_region_self (by kernel_rfl) (by kernel_rfl) ?_
                repeat (go_big_quiet_step ((go_at_call 43; exact ext_of (hfit _))))
                refine wpQuiet_nil ?_
                rintro _ ⟨e1, rfl⟩
                go_wp2_with fail
                go_meet
                exact ⟨by rw [HOT.out]; rfl, e1.bel⟩
              · obtain ⟨j, hj⟩ : ∃ j, j = m - 1 := ⟨_, rfl⟩
                have hjl : j < L.vs.length := by have := HM.out; omega
                have wj : IntKind.i64.wrap ((m : Int) - 1) = (j : Int) := by rw [IntWalk.i64_in _ (by omega)]; omega
                have tg : decide ((m : Int) > 0) = true := decide_eq_true (by omega)
                have tg2 : decide (0 < m) = true := decide_eq_true hm0
                have hjM : j < M := by omega
                have HXJ := Bx.mk (vxs_at L.vs j hjl)
                have p0 : ∀ e : Ext W3, e.out.cell? ⟨b2, o2 + j * 3, none⟩ = some (.string (bstr (L.vs[j]).n.pol)) := fun e => by
                  obtain ⟨b3, o3, he, -, h, -⟩ := HPV.out e j hjl
                  simp only [Option.some.injEq, Addr.mk.injEq, and_true] at he
                  obtain ⟨rfl, rfl⟩ := he
                  exact h
                have HOT := Bx.mk (show O = decide ((L.vs[j]).n.pol < x.n.pol) by
                  rw [HOO.out]; unfold ordB
                  rw [decide_eq_false (show ¬ m = 0 by omega), Bool.false_or, HXM.out, ← hj, HXJ.out])
                have l1 := less_bytes (L.vs[j]).n.pol x.n.pol
                have l2 := less_bytes x.n.pol (L.vs[j]).n.pol
                have l3 := same_bytes (L.vs[j]).n.pol x.n.pol
                obtain ⟨pp, hpp⟩ : ∃ pp, pp = (L.vs[j]).n.pol := ⟨_, rfl⟩
                rw [← hpp] at p0 HOT l1 l2 l3
                have HEQ := Bx.mk (fun (h1 : ¬ pp < x.n.pol) (h2 : ¬ x.n.pol < pp) => eqB h1 h2)
                clear hpp hj hm0
                by_cases hc : pp < x.n.pol
                · have HO2 := Bx.mk (show O = true by rw [HOT.out]; exact decide_eq_true hc)
                  rw [decide_eq_true hc] at l1
                  rw [decide_eq_false (List.lt_asymm hc)] at l2
                  rw [decide_eq_false (fun e => by rw [e] at hc; exact List.lt_irrefl _ hc)] at l3
                  generalize bstr pp = X at *
                  generalize bstr x.n.pol = Y at *
                  clear hc
                  refine wp_region_self (by kernel_rfl) (by kernel_rfl) ?_
                  repeat (go_big_quiet_step ((go_at_call 43; exact ext_of (hfit _))))
                  refine wpQuiet_nil ?_
                  rintro _ ⟨e1, rfl⟩
                  go_wp2_with fail
                  go_meet
                  exact ⟨by rw [HO2.out]; rfl, e1.bel⟩
                · have HO2 := Bx.mk (show O = false by rw [HOT.out]; exact decide_eq_false hc)
                  rw [decide_eq_false hc] at l1
                  by_cases h2 : x.n.pol < pp
                  · rw [decide_eq_true h2] at l2
                    rw [decide_eq_false (fun e => hc (by rw [e] at h2; exact absurd h2 (List.lt_irrefl _)))] at l3
                    generalize bstr pp = X at *
                    generalize bstr x.n.pol = Y at *
                    clear hc h2
                    refine wp_region_self (by kernel_rfl) (by kernel_rfl) ?_
                    repeat (go_big_quiet_step ((go_at_call 43; exact ext_of (hfit _))))
                    refine wpQuiet_nil ?_
                    rintro _ ⟨e1, rfl⟩
                    go_wp2_with fail
                    go_meet
                    exact ⟨by rw [HO2.out]; rfl, e1.bel⟩
                  · rw [decide_eq_false h2] at l2
                    rw [decide_eq_true (HEQ.out hc h2)] at l3
                    generalize bstr pp = X at *
                    generalize bstr x.n.pol = Y at *
                    clear hc h2
                    refine wp_region_self (by kernel_rfl) (by kernel_rfl) ?_
                    repeat (go_big_quiet_step ((go_at_call 43; exact ext_of (hfit _))))
                    refine wpQuiet_nil ?_
                    rintro _ ⟨e1, rfl⟩
                    go_wp2_with fail
                    go_meet
                    exact ⟨by rw [HO2.out]; rfl, e1.bel⟩
          case rest =>
          obtain ⟨rfl, hbz⟩ := hcut
          clear n0 n1 n2 n6 hfit
          have HBZ := Bx.mk (HB3.out.trans (hbz.mono HB3.out.size))
          have HR6z := Bx.mk ((hbz.block q6 (lt_of_some HR6.out)).trans HR6.out)
          have HR9z := Bx.mk ((hbz.block q9 (lt_of_some HR9.out)).trans HR9.out)
          have HOMz := Bx.mk (HOM.out.below hbz)
          clear hbz HOM HR6 HR9 HPV
          cases hFO : (F && O) with
          | false =>
            have HF0 := Bx.mk (HLB.out (lvl_bad (i := m) (by rw [vxs_len, ← HM.out]; exact hltm) (by rw [HXM.out, ← HFF.out, ← HOO.out]; exact hFO)))
            clear hFO
            go_wp2_with fail
            go_ret
            exact ⟨by rw [HF0.out]; rfl, HBZ.out⟩
          | true =>
          have HGO := Bx.mk (show ∀ j, j < m + 1 → (gfitB (vxs L.vs)[j]! (vxs A.vs) && ordB (vxs L.vs) j) = true from fun j hj => by
            by_cases e : j = m
            · subst e; rw [HXM.out, ← HFF.out, ← HOO.out]; exact hFO
            · exact hFm.out j (by omega))
          have HPI := Bx.mk (show ∀ p ∈ x.n.par, I64 p from fun p hp => by
            have h1 := HGO.out m (by omega)
            rw [HXM.out, Bool.and_eq_true] at h1
            have h2 := fit_in h1.1 p hp
            rw [vxs_len, ← HAN.out] at h2
            exact i64_small h2 hla)
          have m9 := cell_of_row _ _ 2 _ _ _ HR9z.out
          simp only [List.getElem?_toArray, List.getElem?_cons_zero, List.getElem?_cons_succ] at m9
          have HOP := Bx.mk (show OwnF wc kI rdB edB mb (m * 100000 + 0) (parP (parJ (vxs L.vs) m) x.n.par 0) by rw [parP_zero, Nat.add_zero]; exact HOMz.out)
          clear hFO HOMz
          go_wp2_with fail
          clear m9
          go_loopw [91] (fun i wy => ∃ n : Nat, n ≤ PM ∧ i = .int .i64 n ∧ Bx (OwnF wy kI rdB edB mb (m * 100000 + n) (parP (parJ (vxs L.vs) m) x.n.par n)) ∧ Bx (Below w.heap.size w wy) ∧ Bx (wy.heap[q6]? = some (.cells #[.slice (some ⟨b2, o2, none⟩) M lc] 63 (0, 0)))) (fun i _ => PM - (intOf i).toNat)
          case atStart => exact ⟨0, by omega, rfl, HOP, HBZ, HR6z⟩
          case round =>
            clear HOP HBZ HR6z HR9z
            obtain ⟨n, hn', rfl, hO, hBy, hQy⟩ := hrel
            by_cases hltn : n < PM
            · have hnl : n < x.n.par.length := by rw [← HPM.out]; exact hltn
              obtain ⟨b4, o4, rfl, -, d0⟩ := HPC.out wr hBy.out n hnl
              have hpi := HPI.out _ (List.getElem_mem hnl)
              have HPS := Bx.mk (parP_succ (parJ (vxs L.vs) m) x.n.par n hnl)
              obtain ⟨p, hp⟩ : ∃ p, p = x.n.par[n] := ⟨_, rfl⟩
              rw [← hp] at d0 hpi HPS
              obtain ⟨w4, hrun, hown4, hg4⟩ := hO.out.putI u_mapIB (by unfold maxLen; omega) (k := p) hpi true (.bool true) (rdB_mk _)
              rw [← HPS.out] at hown4
              have HO4 := Bx.mk hown4
              have HQ4 := Bx.mk ((hg4.block q6 (lt_of_some hQy.out) (by simp only [ne_eq, Option.some.injEq]; have := HQ6.out; omega)).trans hQy.out)
              have HB4 := Bx.mk (hBy.out.grown hg4 hBy.out.size (fun k hk => by simp only [Option.some.injEq] at hk; have := HMB.out; omega))
              clear hown4 hg4 hp hnl hpi
              go_wp2_with fail
              go_roundw
              case rel => exact ⟨n + 1, by omega, by go_num, ⟨by rw [← Nat.add_assoc]; exact HO4.out⟩, HB4, HQ4⟩
              case measure => simp [intOf]; omega
            · obtain rfl : n = PM := by omega
              have HOE := Bx.mk (show OwnF wr kI rdB edB mb ((m + 1) * 100000) (parJ (vxs L.vs) (m + 1)) by
                have := hO.out
                rw [HPM.out, ← HXM.out, parP_all _ _ (by rw [vxs_len, ← HM.out]; exact hltm)] at this
                exact this.mono (by rw [HXM.out, ← HPM.out]; omega))
              go_wp2_with fail
              go_roundw
              case rel => exact ⟨m + 1, by omega, by go_num, HGO, HOE, hBy, hQy⟩
              case measure => simp [intOf]; omega
        · obtain rfl : m = M := by omega
          have hlL : (vxs L.vs).length = m := by rw [vxs_len, ← HM.out]
          have hlA : (vxs A.vs).length = AN := by rw [vxs_len, ← HAN.out]
          have m6 := cell_of_row _ _ 0 _ _ _ hQm.out
          simp only [List.getElem?_toArray, List.getElem?_cons_zero] at m6
          rcases Nat.eq_zero_or_pos m with e | e
          · have t5 : ((m : Int) == 0) = true := by simp; omega
            have HF0 := Bx.mk (HLB.out (lvl_nil (by rw [hlL]; exact e)))
            have e' : (m : Int) = 0 := by omega
            clear hlL hlA
            go_wp2_with fail
            go_ret
            exact ⟨by rw [HF0.out]; rfl, hBm.out⟩
          · have t5 : ((m : Int) == 0) = false := by simp; omega
            have hfit := hFm.out
            rw [← hlL] at hfit
            have hg := lvl_good hfit (by rw [hlL]; exact e)
            have hks := lvl_keys hfit
            rw [hlA] at hg hks
            rw [hlL] at hg hks
            have hlen := fun ty => hOm.out.lenI u_mapIB (keysJ AN (parJ (vxs L.vs) m)) (keysJ_nodup _ _) (keysJ_mem hks) ty
            have hle := (keysJ_len AN (parJ (vxs L.vs) m)).1
            obtain ⟨KL, hKL⟩ : ∃ KL, KL = (keysJ AN (parJ (vxs L.vs) m)).length := ⟨_, rfl⟩
            rw [← hKL] at hlen hle hg
            have HGD := Bx.mk hg
            clear hKL hg hks hfit hlL hlA
            by_cases hlt3 : KL < AN
            · have t6 : decide ((KL : Int) < (AN : Int)) = true := decide_eq_true (by omega)
              have HF0 := Bx.mk (HLB.out (by rw [HGD.out]; exact decide_eq_false (by omega)))
              go_wp2_with fail
              go_ret
              exact ⟨by rw [HF0.out]; rfl, hBm.out⟩
            · have t6 : decide ((KL : Int) < (AN : Int)) = false := decide_eq_false (by omega)
              have HG0 := Bx.mk (HLG.out (by rw [HGD.out]; exact decide_eq_true (by omega)))
              go_wp2_with fail
              go_roundw
              case rel => exact ⟨k + 1, by omega, by go_num, HG0, ⟨_, _, hOm.out⟩, hBm⟩
              case measure => simp [intOf]; omega
    · obtain rfl : k = K := by omega
      have HFT := Bx.mk (show R = true by
        rw [HRA.out, List.all_eq_true]
        intro j hj
        exact hF.out j (List.mem_range.1 hj))
      go_wp2_with fail
      go_ret
      exact ⟨by rw [HFT.out]; rfl, hBw.out⟩
end Go.Proofs.YtmagjdocondmhaaGreat.Tr.Gr
