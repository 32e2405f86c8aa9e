/-
  The reference's hash: one block.
-/
/-
  The reference's hash: Sum.
-/
import Derived.Test.YtbfgkcgnhgfkmaaGreatHsB
import Derived.Test.YtbfgkcgnhgfkmaaGreatHsPlain
import Derived.Test.YtbfgkcgnhgfkmaaGreatDkRepP
import Derived.Test.YtbfgkcgnhgfkmaaGreatTail
import Derived.Test.YtbfgkcgnhgfkmaaGreatHsE
namespace Go.Proofs.YtbfgkcgnhgfkmaaGreat.Hs
open Go Go.RowKit Go.Proofs.YtbfgkcgnhgfkmaaGreat.Slc
open Go.Proofs.YtbfgkcgnhgfkmaaGreat.Dk (Fr ptr bstr bstr_size bstr_list)
set_option linter.unusedVariables false
set_option linter.unusedSimpArgs false

def encW (x : Int) : List Value := [.int .u32 x]
theorem encW_ok : Enc 1 encW := ⟨fun c => rfl, fun c u hu => by simp [encW] at hu; subst hu; rfl, by decide⟩
theorem und_u32s : Tryz.prog.underlying 111 = some (.slice 110) := by kernel_rfl
theorem tl7 (x : Int) : bits .or .u32 (x / 128) (x * 33554432 % 4294967296) = turnZ x 7 := rfl
theorem tl18 (x : Int) : bits .or .u32 (x / 262144) (x * 16384 % 4294967296) = turnZ x 18 := rfl
theorem tl17 (x : Int) : bits .or .u32 (x / 131072) (x * 32768 % 4294967296) = turnZ x 17 := rfl
theorem tl19 (x : Int) : bits .or .u32 (x / 524288) (x * 8192 % 4294967296) = turnZ x 19 := rfl
theorem tl6 (x : Int) : bits .or .u32 (x / 64) (x * 67108864 % 4294967296) = turnZ x 6 := rfl
theorem tl11 (x : Int) : bits .or .u32 (x / 2048) (x * 2097152 % 4294967296) = turnZ x 11 := rfl
theorem tl25 (x : Int) : bits .or .u32 (x / 33554432) (x * 128 % 4294967296) = turnZ x 25 := rfl
theorem tl2 (x : Int) : bits .or .u32 (x / 4) (x * 1073741824 % 4294967296) = turnZ x 2 := rfl
theorem tl13 (x : Int) : bits .or .u32 (x / 8192) (x * 524288 % 4294967296) = turnZ x 13 := rfl
theorem tl22 (x : Int) : bits .or .u32 (x / 4194304) (x * 1024 % 4294967296) = turnZ x 22 := rfl

theorem A8_eq (x0 x1 x2 x3 x4 x5 x6 x7 : Int) (v : List Int) (hv : v.length = 8) : A8 [x0, x1, x2, x3, x4, x5, x6, x7] v 8 = [(x0 + v.getD 0 0) % 4294967296, (x1 + v.getD 1 0) % 4294967296, (x2 + v.getD 2 0) % 4294967296, (x3 + v.getD 3 0) % 4294967296, (x4 + v.getD 4 0) % 4294967296, (x5 + v.getD 5 0) % 4294967296, (x6 + v.getD 6 0) % 4294967296, (x7 + v.getD 7 0) % 4294967296] := by
  obtain ⟨y0, y1, y2, y3, y4, y5, y6, y7, rfl⟩ := ex8 v hv
  simp only [A8, List.set_cons_zero, List.set_cons_succ, List.getD_cons_zero, List.getD_cons_succ]
  simp only [Int.add_comm]
theorem bidx (l : B) (k : Nat) (h : k < l.length) (w : World) : (Instr.index 9 (.string (bstr l)) (.int .i64 (k : Int))).run Tryz.prog w = .ok (.int .u8 (byZ l k)) w := by
  have := Dk.idx_name l k h w
  rw [this, byZ, List.getD_eq_getElem?_getD, List.getElem?_eq_getElem h]
  rfl

/-- what the blocks of the call hold -/
structure Rb (w wr : World) (k g : Nat) (W : List Int) : Prop where
  bk : wr.heap[k]? = some (.cells (ks.map (Value.int .u32)).toArray 110 (0, 0))
  bg : wr.heap[g]? = some (.cells (W.map wd).toArray 127 (0, 0))
  hk : w.heap.size ≤ k
  hg : k < g
  bel : Below w.heap.size w wr
theorem Rb.drewN {w wr : World} {k g : Nat} {W : List Int} (b : Rb w wr k g W) (n : Nat) : Rb w (wr.drewN n) k g W := ⟨b.bk, b.bg, b.hk, b.hg, ⟨b.bel.os, b.bel.tape, b.bel.output, b.bel.size, b.bel.block⟩⟩
theorem Rb.set {w wr : World} {k g : Nat} {W : List Int} (b : Rb w wr k g W) (i : Nat) (x : Int) : Rb w (wr.setCell ⟨g, i, none⟩ (.int .u32 x)) k g (W.set i x) := by
  have hg := b.hg
  have hk := b.hk
  refine ⟨?_, rowset b.bg i x, b.hk, b.hg, b.bel.setCell (by simp; omega) _⟩
  rw [heap_setCell_other _ _ _ _ (by simp; omega)]; exact b.bk
theorem Rb.start (w : World) : Rb w ((w.alloc (.cells (ks.map (Value.int .u32)).toArray 110)).alloc (.cells ((zs 64).map wd).toArray 127)) w.heap.size (w.heap.size + 1) (zs 64) := by
  have s1 : (w.alloc (.cells (ks.map (Value.int .u32)).toArray 110)).heap.size = w.heap.size + 1 := by simp
  refine ⟨?_, ?_, Nat.le_refl _, by omega, ((Below.refl _ _).alloc (Nat.le_refl _) _).alloc (by simp) _⟩
  · rw [heap_alloc_old _ _ (by simp)]; exact heap_alloc_new _ _
  · rw [← s1]; exact heap_alloc_new _ _
theorem row_cell' {wr : World} {g : Nat} {L : List Int} {t : TypeId} (h : wr.heap[g]? = some (.cells (L.map (Value.int .u32)).toArray t (0, 0))) (k : Nat) (hk : k < L.length) : wr.cell? ⟨g, k, none⟩ = some (.int .u32 (L.getD k 0)) := row_cell h k hk

theorem nrm1 (T S J : Int) : (T % 4294967296 + (S + J) % 4294967296) % 4294967296 = (T + S + J) % 4294967296 := by omega
theorem nrm5 (a T : Int) : (a + T % 4294967296) % 4294967296 = (a + T) % 4294967296 := by omega
theorem rd_row {w : World} {g : Nat} {L : List Int} {t : TypeId} {n : Nat} (h : w.heap[g]? = some (.cells (L.map wd).toArray t (0, 0))) (hn : n = L.length) : Rd w encW (.slice (some ⟨g, 0, none⟩) n n) L := by
  subst hn
  refine .inr ⟨g, 0, L.length, rfl, lt_of_block h, Nat.le_refl _, fun j u hj => ?_⟩
  have hf : L.flatMap encW = L.map wd := by
    clear h hj
    induction L with
    | nil => rfl
    | cons x l ih => simp only [List.flatMap_cons, List.map_cons, ih]; rfl
  rw [hf] at hj
  rw [show 0 + j = j by omega, cell_of_row _ _ j _ _ _ h]
  simpa using hj

set_option maxRecDepth 100000 in
set_option maxHeartbeats 2000000 in
theorem round_any (w : World) (h : List Int) (v : Value) (l : B) (hh : h.length = 8) (hv : Rd w encW v h) (hl : l.length = 64) :
    Calls Tryz.prog 80 #[v, .string (bstr l)] w fun e w' => ∃ u, e = .returned u ∧ Rd w' encW u (blockZ h l) ∧ Below w.heap.size w w' := by
  obtain ⟨bb, o, cc, rfl, hcc, hbb, hcell⟩ := hv.cells encW_ok (by omega)
  obtain ⟨x0, x1, x2, x3, x4, x5, x6, x7, hx⟩ := ex8 h hh
  rw [hh]
  have HC := Lib.hid hcell
  have HL := Lib.hid hl
  have HX := Bx.mk hx
  have HH := Lib.hid hh
  have HS := Lib.hid (Rb.start w)
  have hix := fun j (hj : j < 64) => bidx l j (by omega)
  have HIX := Lib.hid hix
  clear hcell hh hv hl hcc hx hix
  generalize hbl : bstr l = bl at *
  have HBL := Bx.mk hbl
  clear hbl
  go_enter Tryz.func80, Tryz.ntmps80
  go_wp2_with (refine wpList_buildFlat rfl 111 110 64 _ rfl .u32 ks Tryz.underlying111 (by kernel_rfl) (by kernel_rfl) (by kernel_rfl) (by decide) (by decide) (by kernel_rfl) ?_)
  generalize hks : (ks.map (Value.int .u32)).toArray = KS at *
  have HKS := Bx.mk hks
  clear hks
  go_wp2_with fail
  go_loopw [7] (fun i wr => ∃ k : Nat, k ≤ 16 ∧ i = .int .i64 (k : Int) ∧ Rb w wr w.heap.size (w.heap.size + 1) (W1 l k)) (fun i _ => 16 - (intOf i).toNat)
  case atStart => exact ⟨0, by omega, rfl, HS.out⟩
  case round =>
    obtain ⟨k, hk, rfl, hb⟩ := hrel
    by_cases hlt : k < 16
    · have c0 := HIX.out (4 * k) (by omega)
      have c1 := HIX.out (4 * k + 1) (by omega)
      have c2 := HIX.out (4 * k + 2) (by omega)
      have c3 := HIX.out (4 * k + 3) (by omega)
      rw [show ((4 * k : Nat) : Int) = 4 * (k : Int) by omega] at c0
      rw [show ((4 * k + 1 : Nat) : Int) = 4 * (k : Int) + 1 by omega] at c1
      rw [show ((4 * k + 2 : Nat) : Int) = 4 * (k : Int) + 2 by omega] at c2
      rw [show ((4 * k + 3 : Nat) : Int) = 4 * (k : Int) + 3 by omega] at c3
      obtain ⟨y0, z0⟩ := byZ_bd l (4 * k)
      obtain ⟨y1, z1⟩ := byZ_bd l (4 * k + 1)
      obtain ⟨y2, z2⟩ := byZ_bd l (4 * k + 2)
      obtain ⟨y3, z3⟩ := byZ_bd l (4 * k + 3)
      have d0 := row_cell hb.bg k (by rw [W1_len]; omega)
      have d1 := frozen_of_row _ _ k _ _ hb.bg
      have d2 := lt_of_block hb.bg
      have HB := Lib.hid ((hb.set k (wordZ (byZ l (4 * k)) (byZ l (4 * k + 1)) (byZ l (4 * k + 2)) (byZ l (4 * k + 3)))).drewN 1)
      have HW := Bx.mk (show W1 l (k + 1) = (W1 l k).set k (wordZ (byZ l (4 * k)) (byZ l (4 * k + 1)) (byZ l (4 * k + 2)) (byZ l (4 * k + 3))) from rfl)
      clear hb
      generalize byZ l (4 * k) = a0 at *
      generalize byZ l (4 * k + 1) = a1 at *
      generalize byZ l (4 * k + 2) = a2 at *
      generalize byZ l (4 * k + 3) = a3 at *
      go_wp2_with fail
      go_region
      go_wp2
      go_roundw
      case rel => exact ⟨k + 1, by omega, by go_num, by rw [HW.out]; exact HB.out⟩
      case measure => simp [intOf]; omega
    · obtain rfl : k = 16 := by omega
      have HB1 := Lib.hid hb
      have HM := Lib.hid (W1_len l 16)
      clear hb
      generalize hME : W1 l 16 = M at *
      have HME := Bx.mk hME
      clear hME
      obtain ⟨wo, rfl⟩ : ∃ wo : World, wo = wr := ⟨_, rfl⟩
      go_wp2
      go_loopw [8, 9, 10, 11, 12] (fun i _ _ _ _ wr => ∃ k : Nat, k ≤ 48 ∧ i = .int .i64 ((16 + k : Nat) : Int) ∧ Rb w wr w.heap.size (w.heap.size + 1) (W2 M k)) (fun i _ _ _ _ _ => 64 - (intOf i).toNat)
      case atStart => exact ⟨0, by omega, rfl, HB1.out⟩
      case round =>
        obtain ⟨k, hk, rfl, hb⟩ := hrel
        by_cases hlt : k < 48
        · have hM := W2_len M HM.out k
          have c0 := row_cell hb.bg k (by omega)
          have c1 := row_cell hb.bg (k + 1) (by omega)
          have c2 := row_cell hb.bg (k + 9) (by omega)
          have c3 := row_cell hb.bg (k + 14) (by omega)
          have d0 := row_cell hb.bg (16 + k) (by omega)
          have d1 := frozen_of_row _ _ (16 + k) _ _ hb.bg
          have d2 := lt_of_block hb.bg
          have HB := Lib.hid hb
          have HW := Bx.mk (show W2 M (k + 1) = (W2 M k).set (16 + k) (((W2 M k).getD k 0 + sigA ((W2 M k).getD (k + 1) 0) + (W2 M k).getD (k + 9) 0 + sigB ((W2 M k).getD (k + 14) 0)) % 4294967296) from rfl)
          clear hb hM
          generalize (W2 M k).getD k 0 = a0 at *
          generalize (W2 M k).getD (k + 1) 0 = a1 at *
          generalize (W2 M k).getD (k + 9) 0 = a2 at *
          generalize (W2 M k).getD (k + 14) 0 = a3 at *
          generalize (W2 M k).getD (16 + k) 0 = a4 at *
          obtain ⟨x, hx⟩ : ∃ x : Int, x = ((16 + k : Nat) : Int) := ⟨_, rfl⟩
          rw [← hx]
          have xa : 16 ≤ x := by omega
          have xb : x < 64 := by omega
          have e0 : (x - 16).toNat = k := by omega
          have e1 : (x - 15).toNat = k + 1 := by omega
          have e2 : (x - 7).toNat = k + 9 := by omega
          have e3 : (x - 2).toNat = k + 14 := by omega
          have e4 : x.toNat = 16 + k := by omega
          have HXX := Bx.mk hx
          clear hx
          have v0 : IntKind.i64.wrap (x - 16) = x - 16 := IntWalk.i64_in _ (by omega)
          have v1 : IntKind.i64.wrap (x - 15) = x - 15 := IntWalk.i64_in _ (by omega)
          have v2 : IntKind.i64.wrap (x - 7) = x - 7 := IntWalk.i64_in _ (by omega)
          have v3 : IntKind.i64.wrap (x - 2) = x - 2 := IntWalk.i64_in _ (by omega)
          have u0 : 0 ≤ x - 16 := by omega
          have u1 : 0 ≤ x - 15 := by omega
          have u2 : 0 ≤ x - 7 := by omega
          have u3 : 0 ≤ x - 2 := by omega
          have u4 : 0 ≤ x := by omega
          have p1 : 15 ≤ x := by omega
          have p2 : 7 ≤ x := by omega
          have p3 : 2 ≤ x := by omega
          have r0 : x - 16 < 64 := by omega
          have r1 : x - 15 < 64 := by omega
          have r2 : x - 7 < 64 := by omega
          have r3 : x - 2 < 64 := by omega
          go_wp2_with fail
          go_quiet (fail)
          go_wp2_with fail
          go_region
          go_wp2
          go_roundw
          case rel => exact ⟨k + 1, by omega, by rw [HXX.out]; go_num, by rw [HW.out]; exact (HB.out.drewN _).set (16 + k) _⟩
          case measure => rw [HXX.out]; simp [intOf]; omega
        · obtain rfl : k = 48 := by omega
          have HB2 := Lib.hid hb
          have HN := Lib.hid (W2_len M HM.out 48)
          have hlb := hb.bel.size
          have hcw : ∀ j, j < 8 → wr.cell? ⟨bb, o + j, none⟩ = some (.int .u32 (h.getD j 0)) := by
            intro j hj
            have := HC.out wr (fun z hz => hb.bel.block z (by simp [Value.ownBlock] at hz; omega)) j (by rw [HH.out]; exact hj) 0 _ (by omega) rfl
            rw [show o + (j * 1 + 0) = o + j by omega] at this
            rw [this, List.getD_eq_getElem?_getD, List.getElem?_eq_getElem (by rw [HH.out]; exact hj)]
            rfl
          have c0 := hcw 0 (by omega)
          have c1 := hcw 1 (by omega)
          have c2 := hcw 2 (by omega)
          have c3 := hcw 3 (by omega)
          have c4 := hcw 4 (by omega)
          have c5 := hcw 5 (by omega)
          have c6 := hcw 6 (by omega)
          have c7 := hcw 7 (by omega)
          rw [HX.out] at c0 c1 c2 c3 c4 c5 c6 c7
          simp only [List.getD_cons_zero, List.getD_cons_succ, Nat.add_zero] at c0 c1 c2 c3 c4 c5 c6 c7
          clear hb hcw
          generalize hNE : W2 M 48 = N at *
          have HNE := Bx.mk hNE
          clear hNE
          obtain ⟨wo2, rfl⟩ : ∃ wo : World, wo = wr := ⟨_, rfl⟩
          go_wp2_with fail
          go_quiet (fail)
          have HB3 := Lib.hid (HB2.out.drewN nq)
          clear c0 c1 c2 c3 c4 c5 c6 c7
          go_wp2_with fail
          go_loopw [13, 14, 15, 16, 17, 18, 19, 20, 21, 22, 23, 24, 25] (fun s0 s1 s2 s3 s4 s5 s6 s7 i _ _ _ _ wr => ∃ k : Nat, k ≤ 64 ∧ i = .int .i64 (k : Int) ∧ s0 = .int .u32 ((R8 h N k).getD 0 0) ∧ s1 = .int .u32 ((R8 h N k).getD 1 0) ∧ s2 = .int .u32 ((R8 h N k).getD 2 0) ∧ s3 = .int .u32 ((R8 h N k).getD 3 0) ∧ s4 = .int .u32 ((R8 h N k).getD 4 0) ∧ s5 = .int .u32 ((R8 h N k).getD 5 0) ∧ s6 = .int .u32 ((R8 h N k).getD 6 0) ∧ s7 = .int .u32 ((R8 h N k).getD 7 0) ∧ Rb w wr w.heap.size (w.heap.size + 1) N) (fun _ _ _ _ _ _ _ _ i _ _ _ _ _ => 64 - (intOf i).toNat)
          case atStart =>
            refine ⟨0, by omega, rfl, ?_, ?_, ?_, ?_, ?_, ?_, ?_, ?_, HB3.out⟩ <;> (rw [R8, HX.out]; rfl)
          case round =>
            obtain ⟨k, hk, rfl, rfl, rfl, rfl, rfl, rfl, rfl, rfl, rfl, hb⟩ := hrel
            by_cases hlt : k < 64
            · have cK := row_cell' hb.bk k (by show k < 64; omega)
              have cW := row_cell hb.bg k (by rw [HN.out]; omega)
              have HB := Lib.hid hb
              have es := (show R8 h N (k + 1) = step8 (R8 h N k) (ks.getD k 0) (N.getD k 0) from rfl)
              rw [step8] at es
              have HS8 := Bx.mk es
              clear hb es
              generalize R8 h N k = V at *
              generalize V.getD 0 0 = y0 at *
              generalize V.getD 1 0 = y1 at *
              generalize V.getD 2 0 = y2 at *
              generalize V.getD 3 0 = y3 at *
              generalize V.getD 4 0 = y4 at *
              generalize V.getD 5 0 = y5 at *
              generalize V.getD 6 0 = y6 at *
              generalize V.getD 7 0 = y7 at *
              generalize ks.getD k 0 = kk at *
              generalize N.getD k 0 = ww at *
              go_wp2_with fail
              go_quiet (fail)
              go_wp2_with fail
              go_roundw
              case rel =>
                refine ⟨k + 1, by omega, by go_num, ?_, ?_, ?_, ?_, ?_, ?_, ?_, ?_, HB.out.drewN _⟩
                · rw [HS8.out]; exact congrArg (Value.int .u32) (nrm1 _ _ _)
                · rw [HS8.out]; rfl
                · rw [HS8.out]; rfl
                · rw [HS8.out]; rfl
                · rw [HS8.out]; exact congrArg (Value.int .u32) (nrm5 _ _)
                · rw [HS8.out]; rfl
                · rw [HS8.out]; rfl
                · rw [HS8.out]; rfl
              case measure => simp [intOf]; omega
            · obtain rfl : k = 64 := by omega
              have HB4 := Lib.hid hb
              have HVL := Lib.hid (R8_len h N HH.out 64)
              have hlb := hb.bel.size
              have hcw : ∀ j, j < 8 → wr.cell? ⟨bb, o + j, none⟩ = some (.int .u32 (h.getD j 0)) := by
                intro j hj
                have := HC.out wr (fun z hz => hb.bel.block z (by simp [Value.ownBlock] at hz; omega)) j (by rw [HH.out]; exact hj) 0 _ (by omega) rfl
                rw [show o + (j * 1 + 0) = o + j by omega] at this
                rw [this, List.getD_eq_getElem?_getD, List.getElem?_eq_getElem (by rw [HH.out]; exact hj)]
                rfl
              have c0 := hcw 0 (by omega)
              have c1 := hcw 1 (by omega)
              have c2 := hcw 2 (by omega)
              have c3 := hcw 3 (by omega)
              have c4 := hcw 4 (by omega)
              have c5 := hcw 5 (by omega)
              have c6 := hcw 6 (by omega)
              have c7 := hcw 7 (by omega)
              rw [HX.out] at c0 c1 c2 c3 c4 c5 c6 c7
              simp only [List.getD_cons_zero, List.getD_cons_succ, Nat.add_zero] at c0 c1 c2 c3 c4 c5 c6 c7
              clear hb hcw
              generalize hVE : R8 h N 64 = V at *
              have HVE := Bx.mk hVE
              clear hVE
              have HAE := Bx.mk (A8_eq x0 x1 x2 x3 x4 x5 x6 x7 V HVL.out)
              generalize V.getD 0 0 = y0 at *
              generalize V.getD 1 0 = y1 at *
              generalize V.getD 2 0 = y2 at *
              generalize V.getD 3 0 = y3 at *
              generalize V.getD 4 0 = y4 at *
              generalize V.getD 5 0 = y5 at *
              generalize V.getD 6 0 = y6 at *
              generalize V.getD 7 0 = y7 at *
              obtain ⟨wo3, rfl⟩ : ∃ wo : World, wo = wr := ⟨_, rfl⟩
              go_wp2_with fail
              have m0 : ∀ e : Ext wo3, e.out.cell? ⟨bb, o, none⟩ = some (.int .u32 x0) := fun e => (e.cell (by omega)).trans c0
              have m1 : ∀ e : Ext wo3, e.out.cell? ⟨bb, o + 1, none⟩ = some (.int .u32 x1) := fun e => (e.cell (by omega)).trans c1
              have m2 : ∀ e : Ext wo3, e.out.cell? ⟨bb, o + 2, none⟩ = some (.int .u32 x2) := fun e => (e.cell (by omega)).trans c2
              have m3 : ∀ e : Ext wo3, e.out.cell? ⟨bb, o + 3, none⟩ = some (.int .u32 x3) := fun e => (e.cell (by omega)).trans c3
              have m4 : ∀ e : Ext wo3, e.out.cell? ⟨bb, o + 4, none⟩ = some (.int .u32 x4) := fun e => (e.cell (by omega)).trans c4
              have m5 : ∀ e : Ext wo3, e.out.cell? ⟨bb, o + 5, none⟩ = some (.int .u32 x5) := fun e => (e.cell (by omega)).trans c5
              have m6 : ∀ e : Ext wo3, e.out.cell? ⟨bb, o + 6, none⟩ = some (.int .u32 x6) := fun e => (e.cell (by omega)).trans c6
              have m7 : ∀ e : Ext wo3, e.out.cell? ⟨bb, o + 7, none⟩ = some (.int .u32 x7) := fun e => (e.cell (by omega)).trans c7
              refine wp_region_ext_tail 40 (Ext.self wo3) (by kernel_rfl) (by kernel_rfl) rfl rfl ?_
              simp only [List.take_succ_cons, List.take_zero, List.drop_succ_cons, List.drop_zero]
              repeat (go_big_quiet_step (fail))
              refine wpQuiet_nil ?_
              rintro _ ⟨e1, rfl⟩
              have HBE := Lib.hid (HB4.out.bel.trans (e1.bel.mono HB4.out.bel.size))
              clear m0 m1 m2 m3 m4 m5 m6 m7 c0 c1 c2 c3 c4 c5 c6 c7
              go_wp2_with fail
              go_ret
              refine ⟨_, rfl, ?_, HBE.out.alloc HBE.out.size _⟩
              have hfin : blockZ h l = [(x0 + y0) % 4294967296, (x1 + y1) % 4294967296, (x2 + y2) % 4294967296, (x3 + y3) % 4294967296, (x4 + y4) % 4294967296, (x5 + y5) % 4294967296, (x6 + y6) % 4294967296, (x7 + y7) % 4294967296] := by
                have e1 : blockZ h l = A8 h (R8 h (W2 (W1 l 16) 48) 64) 8 := rfl
                rw [e1, HME.out, HNE.out, HVE.out, HX.out]
                exact HAE.out
              rw [hfin]
              exact rd_row (heap_alloc_new _ _) rfl
end Go.Proofs.YtbfgkcgnhgfkmaaGreat.Hs

namespace Go.Proofs.YtbfgkcgnhgfkmaaGreat.Hs
open Go Go.RowKit Go.Proofs.YtbfgkcgnhgfkmaaGreat.Slc
open Go.Proofs.YtbfgkcgnhgfkmaaGreat.Dk (Fr ptr bstr bstr_size bstr_list)
set_option linter.unusedVariables false
set_option linter.unusedSimpArgs false

/-- the tail while it is written -/
def tailZ (n : Nat) : Nat → B
  | 0 => (zr (9 + zn n)).set 0 128
  | i + 1 => (tailZ n i).set (9 + zn n - 1 - i) (byA (8 * n) i)
theorem tailZ_len (n : Nat) : ∀ i, (tailZ n i).length = 9 + zn n
  | 0 => by simp [tailZ, zr]
  | i + 1 => by rw [tailZ, List.length_set]; exact tailZ_len n i
theorem set_zr (k : Nat) (D : B) (x : UInt8) : ([128] ++ zr (k + 1) ++ D).set (1 + k) x = [128] ++ zr k ++ ([x] ++ D) := by
  rw [zr_succ, show 1 + k = k + 1 by omega]
  simp only [List.cons_append, List.nil_append, List.set_cons_succ, List.append_assoc]
  congr 1
  rw [List.set_append_right _ _ (by simp [zr])]
  simp [zr]
theorem be8 (m : Nat) : be m 8 = [byA m 7, byA m 6, byA m 5, byA m 4, byA m 3, byA m 2, byA m 1, byA m 0] := rfl
theorem tailZ_eq (n : Nat) : ∀ i, i ≤ 8 → tailZ n i = [128] ++ zr (zn n + (8 - i)) ++ (be (8 * n) 8).drop (8 - i)
  | 0, _ => by
    rw [tailZ, show 9 + zn n = (zn n + 8) + 1 by omega]
    simp [zr, List.replicate_succ, be8]
  | i + 1, h => by
    rw [tailZ, tailZ_eq n i (by omega), show zn n + (8 - i) = (zn n + (8 - (i + 1))) + 1 by omega, show 9 + zn n - 1 - i = 1 + (zn n + (8 - (i + 1))) by omega, set_zr]
    congr 1
    have : i = 0 ∨ i = 1 ∨ i = 2 ∨ i = 3 ∨ i = 4 ∨ i = 5 ∨ i = 6 ∨ i = 7 := by omega
    rcases this with rfl | rfl | rfl | rfl | rfl | rfl | rfl | rfl <;> rfl
theorem tailZ_pad (n : Nat) : tailZ n 8 = pad n n := by
  rw [tailZ_eq n 8 (Nat.le_refl _)]
  rfl
theorem len_byte' (n k : Nat) (x : Int) (hx : x = (k : Int)) : 8 * (n : Int) / 2 ^ (8 * x).toNat % 256 = ((byA (8 * n) k).toNat : Int) := by
  have e1 : (8 * x).toNat = 8 * k := by omega
  rw [e1, byA_toNat, Int.pow_mul]
  have e2 : ((2 : Int) ^ 8) ^ k = ((256 ^ k : Nat) : Int) := by rw [Int.natCast_pow]; rfl
  rw [e2]
  generalize 256 ^ k = c
  rw [show 8 * (n : Int) = ((8 * n : Nat) : Int) by omega, Int.natCast_emod, Int.natCast_ediv]
  rfl
theorem zn_pad (n : Nat) (h : (n + 9) % 64 ≠ 0) : 64 - ((n : Int) + 9) % 64 = (zn n : Int) := by unfold zn; omega
theorem zn_pad0 (n : Nat) (h : (n + 9) % 64 = 0) : zn n = 0 := by unfold zn; omega

theorem bstr_extract (P : B) (lo hi : Nat) (h1 : lo ≤ hi) (h2 : hi ≤ P.length) : (bstr P).extract lo hi = bstr ((P.drop lo).take (hi - lo)) := by
  apply ByteArray.ext
  apply Array.ext'
  simp [bstr, ByteArray.data_extract, List.extract]
theorem slice_b (P : B) (lo hi : Nat) (h1 : lo ≤ hi) (h2 : hi ≤ P.length) (w : World) :
    (Instr.slice 9 (.string (bstr P)) (some (.int .i64 lo)) (some (.int .i64 hi)) none).run Tryz.prog w = .ok (.string (bstr ((P.drop lo).take (hi - lo)))) w := by
  rw [run_slice_string_if w _ (bstr P) _ _ _ _ Tryz.underlying9]
  have h3 : hi ≤ (bstr P).size := by rw [bstr_size]; exact h2
  simp [h1, h3]
  exact bstr_extract P lo hi h1 h2

set_option maxRecDepth 100000 in
set_option maxHeartbeats 2000000 in
theorem rsum_any (w : World) (v : Value) (L : List B) (hv : Rd w Dk.encS v L) (hm : L.flatten.length ≤ 1099511627776) (hl : L.length ≤ 1000000) :
    Calls Tryz.prog 71 #[v] w fun e w' => e = .returned (.string (bstr (sha L.flatten))) ∧ Below w.heap.size w w' := by
  obtain ⟨i0, hi0, hz0, hz1, hz2⟩ := info_parts info_u8
  obtain ⟨av, cv, rfl, -⟩ := hv.form
  have HHM := Lib.hid hm
  obtain ⟨RES, hRES⟩ : ∃ R, R = Ending.returned (.string (bstr (sha L.flatten))) := ⟨_, rfl⟩
  rw [← hRES]
  have HRES := Bx.mk hRES
  have key : ∀ (W : World), Below w.heap.size w W → ∀ k (hk : k < L.length), ∃ b o, av = some ⟨b, o, none⟩ ∧ W.cell? ⟨b, o + k, none⟩ = some (.string (bstr L[k])) := by
    intro W hW k hk
    obtain ⟨b, o, c, hv', _, hlt, hc⟩ := hv.cells Dk.encS_ok (by omega)
    simp only [Value.slice.injEq] at hv'
    have := hc W (fun z hz => hW.block z (by rw [hv'.1] at hz; cases hz; exact hlt)) k hk 0 _ (by omega) rfl
    rw [show o + (k * 1 + 0) = o + k by omega] at this
    exact ⟨b, o, hv'.1, this⟩
  have HKEY := Lib.hid key
  clear hv hRES hm key
  go_enter Tryz.func71, Tryz.ntmps71
  go_wp2_with fail
  go_loop [3, 5, 17] (fun s _ i => ∃ k : Nat, k ≤ L.length ∧ i = .int .i64 (k : Int) ∧ s = .string (bstr (L.take k).flatten)) (fun _ _ i => L.length - (intOf i).toNat)
  case atStart => exact ⟨0, by omega, rfl, rfl⟩
  case round =>
    obtain ⟨k, hk, rfl, rfl⟩ := hrel
    by_cases hlt : k < L.length
    · obtain ⟨b, o, rfl, hc⟩ := HKEY.out w (Below.refl _ _) k hlt
      have hfl := flat_take L k hlt
      have hcat : bstr (L.take k).flatten ++ bstr L[k] = bstr (L.take (k + 1)).flatten := by rw [hfl]; apply ByteArray.ext; simp [bstr]
      have a1 := fun W : World => run_string_add_sum (P := Tryz.prog) W (bstr (L.take k).flatten) (bstr L[k]) (by
        rw [bstr_size, bstr_size]; have := flat_le L (k + 1); rw [hfl, List.length_append] at this; have := HHM.out; omega)
      rw [hcat] at a1
      clear hfl hcat
      generalize hY : bstr (L.take (k + 1)).flatten = Y at *
      have HY := Bx.mk hY
      clear hY
      generalize hX : bstr (L.take k).flatten = X at *
      clear hX
      generalize bstr L[k] = Z at *
      go_wp2_with fail
      go_round
      case rel => exact ⟨k + 1, by omega, by go_num, by rw [HY.out]⟩
      case measure => simp [intOf]; omega
    · obtain rfl : k = L.length := by omega
      rw [List.take_length]
      obtain ⟨m, hmL⟩ : ∃ m, m = L.flatten := ⟨_, rfl⟩
      rw [← hmL]
      have HMM := Bx.mk hmL
      have hmb : m.length ≤ 1099511627776 := by rw [hmL]; exact HHM.out
      clear hmL hk hlt
      obtain ⟨n, hn⟩ : ∃ n, n = m.length := ⟨_, rfl⟩
      have hsz : (bstr m).size = n := by rw [bstr_size, hn]
      have hnb : n ≤ 1099511627776 := by omega
      have HN := Bx.mk hn
      have HSZ := Lib.hid hsz
      clear hn hmb
      generalize hms : bstr m = ms at *
      have HMS := Bx.mk hms
      clear hms
      have hpz := zn_lt n
      have hh0 : (w.alloc (.cells (h0s.map wd).toArray 110)).heap[w.heap.size]? = some (.cells (h0s.map wd).toArray 110 (0, 0)) := heap_alloc_new _ _
      have HH0 := Lib.hid (rd_row (n := 8) hh0 rfl)
      have HB0 := Lib.hid (show Below w.heap.size w (w.alloc (.cells (h0s.map wd).toArray 110)) from (Below.refl _ _).alloc (Nat.le_refl _) _)
      clear hh0
      go_upto_if 33 with (refine wpList_buildFlat rfl 111 110 8 _ rfl .u32 h0s Tryz.underlying111 (by kernel_rfl) (by kernel_rfl) (by kernel_rfl) (by decide) (by decide) (by kernel_rfl) ?_)
      go_cut [8] (fun s8 wc => s8 = .int .i64 (zn n : Int) ∧ wc = w.alloc (.cells (h0s.map wd).toArray 110))
      case first =>
        by_cases hz : (n + 9) % 64 = 0
        · have hb : ((64 : Int) - ((n : Int) + 9) % 64 == 64) = true := by simp; omega
          have hz' := zn_pad0 n hz
          have HZ := Bx.mk hz'
          clear hz hz'
          go_wp2_with fail
          go_meet
          exact ⟨by rw [HZ.out]; rfl, rfl⟩
        · have hb : ((64 : Int) - ((n : Int) + 9) % 64 == 64) = false := by simp; omega
          have HZ := Bx.mk (zn_pad n hz)
          clear hz
          go_wp2_with fail
          go_meet
          exact ⟨by rw [HZ.out], rfl⟩
      case rest =>
        obtain ⟨rfl, rfl⟩ := hcut
        have hRD := HH0.out
        have hBB := HB0.out
        generalize w.alloc (.cells (h0s.map wd).toArray 110) = w1 at *
        have HH1 := Lib.hid hRD
        have HB1 := Lib.hid hBB
        have hbs := hBB.size
        clear hRD hBB
        obtain ⟨N, hN⟩ : ∃ N, N = 9 + zn n := ⟨_, rfl⟩
        have hNb : N ≤ 100 := by omega
        have hN9 : 9 ≤ N := by omega
        have HNN := Lib.hid hN
        have hNi : (9 : Int) + (zn n : Int) = (N : Int) := by omega
        have HNI := Lib.hid hNi
        clear hN hNi
        go_wp2_with (refine wpList_make_full _ rfl _ _ _ rfl w1.heap.size 5 i0 _ 1 und_bytes hi0 hz0 hz1 .i64 .i64 _ _ N rfl rfl HNI.out HNI.out (by rw [hz2]; omega) (by unfold maxLen; omega) (Nat.le_refl _) ?_)
        intro w2 ho2 hg2
        have hown0 : Own w2 w1.heap.size 5 1 encU (.slice (some ⟨w1.heap.size, 0, none⟩) N N) (zr N) := Own.of ho2 (by simp [zr]) (by
          rw [flat_encU]; first | (rw [toList_madeCells_one]; simp [zr]) | (simp [zr]; done))
        have hb2 : Below w1.heap.size w1 w2 := ⟨hg2.os, hg2.tape, hg2.output, hg2.size, fun k hk => hg2.block k hk (by simp)⟩
        have hzl : (zr N).length = N := by simp [zr]
        obtain ⟨g, cp, hvg, hgb, hgl, hfz, hown1, hgr⟩ := hown0.set1 encU_ok 0 0 (by omega) (by omega) (.int .u8 128) 128 (by simp [zr, encU])
        rw [hzl] at hvg
        simp only [Value.slice.injEq, Option.some.injEq, Addr.mk.injEq, and_true, true_and] at hvg
        obtain ⟨hgg, rfl⟩ := hvg
        rw [← hgg] at hgl hfz hown1 hgr
        clear hgg hgb
        have hcl := hown0.cell encU_ok 0 (by omega) 0 (by omega) (.int .u8 0) (by simp [zr, encU])
        have hf0 := hfz 0
        simp only [Nat.zero_mul, Nat.add_zero] at hcl hown1 hgr
        rw [show (zr N).set 0 128 = tailZ n 0 by rw [tailZ, ← HNN.out]] at hown1
        have HO1 := Lib.hid hown1
        have HB2 := Lib.hid (show Below w1.heap.size w1 (w2.setCell ⟨w1.heap.size, 0, none⟩ (.int .u8 128)) from hb2.setCell (Nat.le_refl _) _)
        have h0N : 0 < N := by omega
        clear ho2 hg2 hown0 hb2 hzl hfz hown1 hgr
        generalize hg1 : w1.heap.size = g1 at *
        go_wp2_with fail
        go_loopw [10] (fun i wr => ∃ k : Nat, k ≤ 8 ∧ i = .int .i64 (k : Int) ∧ Own wr g1 5 1 encU (.slice (some ⟨g1, 0, none⟩) N N) (tailZ n k) ∧ Below g1 w1 wr) (fun i _ => 8 - (intOf i).toNat)
        case atStart => exact ⟨0, by omega, rfl, HO1.out, HB2.out⟩
        case round =>
          clear hcl hf0
          obtain ⟨k, hk, rfl, hown, hbel⟩ := hrel
          have hTl := tailZ_len n k
          rw [← HNN.out] at hTl
          by_cases hlt : k < 8
          · obtain ⟨x, hx⟩ : ∃ x : Int, x = (k : Int) := ⟨_, rfl⟩
            rw [← hx]
            have hbyte := len_byte' n k x hx
            obtain ⟨g, cp, hvg, hgb, hgl2, hfz, hown1, hgr⟩ := hown.set1 encU_ok (N - 1 - k) 0 (by omega) (by omega) (.int .u8 (8 * (n : Int) / 2 ^ (8 * x).toNat % 256)) (byA (8 * n) k) (by rw [hbyte]; rfl)
            rw [hTl] at hvg
            simp only [Value.slice.injEq, Option.some.injEq, Addr.mk.injEq, and_true, true_and] at hvg
            obtain ⟨rfl, rfl⟩ := hvg
            obtain ⟨u, hcl⟩ : ∃ u : Int, wr.cell? ⟨g1, N - 1 - k, none⟩ = some (.int .u8 u) := ⟨_, by have := hown.cell encU_ok (N - 1 - k) (by omega) 0 (by omega) _ rfl; rw [Nat.mul_one, Nat.add_zero] at this; exact this⟩
            have HCL := Lib.hid hcl
            clear hcl
            have hcl := HCL.out
            have hf0 := hfz (N - 1 - k)
            simp only [Nat.mul_one, Nat.add_zero] at hown1 hgr
            rw [show (tailZ n k).set (N - 1 - k) (byA (8 * n) k) = tailZ n (k + 1) by rw [tailZ, ← HNN.out]] at hown1
            have HO2 := Lib.hid hown1
            have HB3 := Lib.hid (show Below g1 w1 (wr.setCell ⟨g1, N - 1 - k, none⟩ (.int .u8 (8 * (n : Int) / 2 ^ (8 * x).toNat % 256))) from hbel.setCell (by simp) _)
            have HX := Lib.hid hx
            have x0 : 0 ≤ x := by omega
            have x7 : x < 8 := by omega
            have i0' : (((N : Int) - 1) - x).toNat = N - 1 - k := by omega
            have i1 : 0 ≤ ((N : Int) - 1) - x := by omega
            have i2 : x ≤ (N : Int) - 1 := by omega
            have i3 : ((N : Int) - 1) - x < N := by omega
            have i4 : (N : Int) ≤ 100 := by omega
            clear hx hown hbel hTl hfz hown1 hgr hbyte hgb
            go_wp2_with fail
            go_roundw
            case rel => exact ⟨k + 1, by omega, by rw [HX.out]; go_num, HO2.out, HB3.out⟩
            case measure => rw [HX.out]; simp [intOf]; omega
          · obtain rfl : k = 8 := by omega
            have hcv := back_u hown (by omega)
            rw [tailZ_pad] at hcv
            obtain ⟨P, hP⟩ : ∃ P, P = m ++ pad n n := ⟨_, rfl⟩
            have hPl : P.length = n + (pad n n).length := by rw [hP, List.length_append, ← HN.out]
            have hpl : (pad n n).length = N := by rw [← tailZ_pad]; exact hTl
            have hP64 : P.length % 64 = 0 := by rw [hPl]; exact pad_len n n
            have a1 := fun W : World => run_string_add_sum (P := Tryz.prog) W ms (bstr (pad n n)) (by rw [bstr_size, HSZ.out]; omega)
            rw [show ms ++ bstr (pad n n) = bstr P by rw [← HMS.out, hP]; apply ByteArray.ext; simp [bstr]] at a1
            have hps : (bstr P).size = P.length := bstr_size P
            have hPb : P.length ≤ 1099511628000 := by omega
            have HPE := Bx.mk hP
            have HP64 := Lib.hid hP64
            have HBL := Lib.hid (show Below w.heap.size w wr from HB1.out.trans (hbel.mono (by omega)))
            have HRD := Lib.hid (HH1.out.below (hg1 ▸ hbel))
            have hsl := fun lo hi h1 h2 W => slice_b P lo hi h1 h2 W
            have HSL := Lib.hid hsl
            clear hown hbel hTl hP hPl hpl hP64 hsl
            generalize hbp : bstr (pad n n) = bp at *
            clear hbp
            generalize hpp : bstr P = ps at *
            have HPP := Bx.mk hpp
            clear hpp
            obtain ⟨wo, rfl⟩ : ∃ wo : World, wo = wr := ⟨_, rfl⟩
            go_wp2_with fail
            go_loopw [6, 11] (fun u i wr => ∃ k : Nat, 64 * k ≤ P.length ∧ i = .int .i64 ((64 * k : Nat) : Int) ∧ Rd wr encW u (hs h0s P k) ∧ Below w.heap.size w wr) (fun _ i _ => P.length - (intOf i).toNat)
            case atStart => exact ⟨0, by omega, rfl, HRD.out, HBL.out⟩
            case round =>
              obtain ⟨k, hk, rfl, hrd, hbel⟩ := hrel
              obtain ⟨x, hx⟩ : ∃ x : Int, x = ((64 * k : Nat) : Int) := ⟨_, rfl⟩
              rw [← hx]
              have hHL := hs_len h0s P rfl k
              by_cases hlt : 64 * k < P.length
              · have h64 : 64 * (k + 1) ≤ P.length := by have := HP64.out; omega
                have hss := HSL.out (64 * k) (64 * k + 64) (by omega) (by omega)
                rw [← hx, show ((64 * k + 64 : Nat) : Int) = x + 64 by omega, show 64 * k + 64 - 64 * k = 64 by omega] at hss
                have hrn := round_any wr (hs h0s P k) u6 ((P.drop (64 * k)).take 64) hHL hrd (by rw [List.length_take, List.length_drop]; omega)
                have HHS := Bx.mk (show blockZ (hs h0s P k) ((P.drop (64 * k)).take 64) = hs h0s P (k + 1) from rfl)
                have x0 : 0 ≤ x := by omega
                have x1 : x < (P.length : Int) := by omega
                have HX := Lib.hid hx
                have HBE := Lib.hid hbel
                have HRN := Lib.hid hrn
                clear hrd hbel hrn hx hHL
                generalize bstr ((P.drop (64 * k)).take 64) = bk at *
                go_wp2_with fail
                go_at_call 80
                refine HRN.out.mono ?_
                rintro e w3 ⟨u, rfl, hr3, hb3⟩
                rw [HHS.out] at hr3
                have HR3 := Lib.hid hr3
                have HB3' := Lib.hid (show Below w.heap.size w w3 from HBE.out.trans (hb3.mono HBE.out.size))
                have HM3 := Lib.hid (show P.length - (64 * (k + 1)) < P.length - 64 * k by omega)
                clear hr3 hb3
                go_wp2_with fail
                go_roundw
                case rel =>
                  (repeat apply Exists.intro)
                  exact ⟨⟨k + 1, h64, by rw [HX.out]; congr 1, HR3.out, HB3'.out⟩, rfl⟩
                case measure =>
                  have h3 := HM3.out
                  have h4 := HX.out
                  show P.length - (x + 64).toNat < P.length - x.toNat
                  omega
              · have x1 : decide (x < (P.length : Int)) = false := by rw [decide_eq_false_iff_not]; omega
                have hkk : k = P.length / 64 := by omega
                have hSm : hs h0s P k = all h0s P := by rw [hkk]; rfl
                rw [hSm] at hrd
                have hSL := all_len h0s P rfl
                obtain ⟨au, cu, hfu, -⟩ := hrd.form
                rw [hSL] at hfu
                subst hfu
                have HRD2 := Lib.hid hrd
                have HBE := Lib.hid hbel
                have hlw := hbel.size
                have HSL2 := Lib.hid hSL
                clear hrd hbel hx hHL hkk hSm hSL hlt hk
                obtain ⟨wp, rfl⟩ : ∃ wp : World, wp = wr := ⟨_, rfl⟩
                go_wp2_with (at_make; refine wpList_make_own _ rfl _ _ _ rfl wp.heap.size 5 i0 _ 1 und_bytes hi0 hz0 hz1 .i64 .i64 _ 32 rfl rfl rfl (by rw [hz2]; omega) (by unfold maxLen; omega) (Nat.le_refl _) ?_)
                intro w4 ho4 hg4
                have hb4 : Below wp.heap.size wp w4 := ⟨hg4.os, hg4.tape, hg4.output, hg4.size, fun k hk => hg4.block k hk (by simp)⟩
                have HO4 := Lib.hid (show Own w4 wp.heap.size 5 1 encU (.slice (some ⟨wp.heap.size, 0, none⟩) 0 32) [] from Own.of ho4 rfl rfl)
                have HB4 := Lib.hid hb4
                clear ho4 hg4 hb4
                generalize hg2 : wp.heap.size = g2 at *
                go_wp2_with fail
                go_loopw [12, 14, 76] (fun v _ i wr => ∃ (k : Nat) (T : B), k ≤ 8 ∧ i = .int .i64 (k : Int) ∧ T = bytesOf ((all h0s P).take k) ∧ Own wr g2 5 1 encU v T ∧ Below g2 wp wr) (fun _ _ i _ => 8 - (intOf i).toNat)
                case atStart => exact ⟨0, [], by omega, rfl, rfl, HO4.out, HB4.out⟩
                case round =>
                  obtain ⟨k, T, hk, rfl, hT, hown, hbel⟩ := hrel
                  have hTl : T.length = 4 * k := by rw [hT, bytesOf_le, List.length_take, HSL2.out]; omega
                  have HT := Bx.mk hT
                  have hlw4 := hbel.size
                  have HO := Lib.hid hown
                  have HBL2 := Lib.hid hbel
                  by_cases hlt : k < 8
                  · obtain ⟨b, o, c, hfu, _, hbb, hcell⟩ := HRD2.out.cells encW_ok (by rw [HSL2.out]; omega)
                    simp only [Value.slice.injEq] at hfu
                    obtain ⟨rfl, -, -⟩ := hfu
                    have hc := hcell wr (fun z hz => hbel.block z (by cases hz; rw [← hg2]; exact hbb)) k (by rw [HSL2.out]; exact hlt) 0 _ (by omega) rfl
                    rw [show o + (k * 1 + 0) = o + k by omega] at hc
                    have hgd : (all h0s P)[k]'(by rw [HSL2.out]; exact hlt) = (all h0s P).getD k 0 := by rw [List.getD_eq_getElem?_getD, List.getElem?_eq_getElem (by rw [HSL2.out]; exact hlt)]; rfl
                    rw [hgd] at hc
                    have HTK := Bx.mk (take8 (all h0s P) k (by rw [HSL2.out]; exact hlt))
                    clear hgd
                    generalize hy : (all h0s P).getD k 0 = y at *
                    have hown2 := hown.below (w' := wr.alloc (.cells #[.int .u8 (y / 16777216 % 256), .int .u8 (y / 65536 % 256), .int .u8 (y / 256 % 256), .int .u8 (y % 256)] 5)) ((Below.refl _ _).alloc (Nat.le_refl _) _)
                    have hsrc : SrcV (wr.alloc (.cells #[.int .u8 (y / 16777216 % 256), .int .u8 (y / 65536 % 256), .int .u8 (y / 256 % 256), .int .u8 (y % 256)] 5)) 1 (.slice (some ⟨wr.heap.size, 0, none⟩) 4 4) 4 ((wb y).flatMap encU) := src_u84 (y := y) (heap_alloc_new _ _) (by rw [hbZ_toNat]) (by rw [hbZ_toNat]) (by rw [hbZ_toNat]) (by rw [hbZ_toNat])
                    have hbz : g2 ≤ (wr.alloc (.cells #[.int .u8 (y / 16777216 % 256), .int .u8 (y / 65536 % 256), .int .u8 (y / 256 % 256), .int .u8 (y % 256)] 5)).heap.size := by simp; omega
                    have hlm : T.length ≤ 32 := by omega
                    clear hT hTl hown hbel hy hcell
                    obtain ⟨av2, cv2, hfv, -⟩ := HO.out.rd.form
                    subst hfv
                    go_wp2_with (at_builtin; refine wpList_append_any rfl _ _ _ rfl g2 5 i0 _ 1 1 und_bytes hi0 hz0 hz1 hz2 rfl (by decide) _ T.length (T.flatMap encU) rfl hown2 _ 4 ((wb y).flatMap encU) rfl hsrc (by unfold maxLen; omega) (by omega) hbz ?_)
                    intro v3 w5 hapd
                    have ho3 : Own w5 g2 5 1 encU v3 (T ++ wb y) := (HO.out.below ((Below.refl _ _).alloc (Nat.le_refl _) _)).apd rfl rfl rfl rfl hapd
                    have hb3 : Below g2 wp w5 := (HBL2.out.alloc (by omega) _).trans ((Fr.grown (F := fun k => g2 ≤ k) hapd.grown fun k hk _ => (HO.out.lt k hk).1).toBelow hbz fun k hk => hk)
                    have HO3 := Lib.hid ho3
                    have HB3 := Lib.hid hb3
                    clear ho3 hb3 hapd hown2 hsrc hbz hc
                    go_wp2_with fail
                    go_roundw
                    case rel => exact ⟨k + 1, _, by omega, by go_num, by rw [HTK.out, HT.out], HO3.out, HB3.out⟩
                    case measure => simp [intOf]; omega
                  · obtain rfl : k = 8 := by omega
                    have hTb : T = bytesOf (all h0s P) := by rw [hT, List.take_of_length_le (by rw [HSL2.out]; omega)]
                    have HTB := Bx.mk hTb
                    have hTp : 0 < T.length := by omega
                    have hcv2 := back_u HO.out hTp
                    obtain ⟨av2, cv2, hfv, -⟩ := HO.out.rd.form
                    subst hfv
                    have HBF := Lib.hid (show Below w.heap.size w wr from HBE.out.trans (hbel.mono (by omega)))
                    clear hT hTl hTb hown hbel hTp
                    generalize hbs : bstr T = bs at *
                    have HBS := Bx.mk hbs
                    clear hbs
                    go_wp2_with fail
                    go_ret
                    exact ⟨by rw [HRES.out, ← HMM.out, ← HBS.out, HTB.out, HPE.out, HN.out]; rfl, HBF.out⟩
end Go.Proofs.YtbfgkcgnhgfkmaaGreat.Hs
