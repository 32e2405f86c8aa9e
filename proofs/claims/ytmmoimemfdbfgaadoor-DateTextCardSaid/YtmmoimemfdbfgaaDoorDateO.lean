/-
  The contract of ParseTime.
-/
import Derived.Test.YtmmoimemfdbfgaaDoorDateN
import Derived.Test.YtmmoimemfdbfgaaDoorFacts
namespace Go.Proofs.YtmmoimemfdbfgaaDoor
open Go.RowKit

theorem rformat_at {x y m d h n s : Int} (w : World) (v : Cal.Vld y m d h n s) (hs : Cal.sec y m d h n s = x) :
    Calls Tryd.prog 19 #[.int .i64 x] w fun e w' => e = .returned (.tuple #[.string ⟨(Dig.txt y m d h n s 5).toArray⟩, .int .i64 0]) ∧ Below w.heap.size w w' := by
  have hb := Cal.sec_bd v
  rw [hs] at hb
  refine (rformat_good x w hb.1 hb.2).mono ?_
  rintro e w' ⟨y', m', d', h', n', s', v', hs', rfl, hb⟩
  obtain ⟨rfl, rfl, rfl, rfl, rfl, rfl⟩ := Cal.sec_inj v' v (hs'.trans hs.symm)
  exact ⟨rfl, hb⟩

theorem rpair (c : ByteArray) (k : Nat) (w : World) :
    Calls Tryd.prog 31 #[.string (c.extract k (k + 2))] w fun e w' => e = .returned (.int .i64 (pr c k)) ∧ w = w' :=
  digits_any (c.extract k (k + 2)) w (by simp; omega)
theorem ryear (c : ByteArray) (w : World) :
    Calls Tryd.prog 31 #[.string (c.extract 0 4)] w fun e w' => e = .returned (.int .i64 (yr c 4)) ∧ w = w' :=
  digits_any (c.extract 0 4) w (by simp; omega)

/-- the fields that stand in a text are those of a date -/
def PV (c : ByteArray) : Prop := Cal.Vld (yr c 4) (pr c 5) (pr c 8) (pr c 11) (pr c 14) (pr c 17)
noncomputable def pSec (c : ByteArray) : Int := secV (yr c 4) (pr c 5) (pr c 8) (pr c 11) (pr c 14) (pr c 17)
noncomputable def pErr (c : ByteArray) : Int := secE (yr c 4) (pr c 5) (pr c 8) (pr c 11) (pr c 14) (pr c 17)
def pTxt (c : ByteArray) : List UInt8 := Dig.txt (yr c 4) (pr c 5) (pr c 8) (pr c 11) (pr c 14) (pr c 17) 5

theorem rparse_size (c : ByteArray) (w : World) (h : c.size ≠ 19) :
    Calls Tryd.prog 21 #[.string c] w fun e w' => e = .returned (.tuple #[.int .i64 0, .int .i64 12]) ∧ w = w' := by
  have d : ((c.size : Int) != 19) = true := by rw [bne_iff_ne]; omega
  clear h
  go_enter Tryd.func21, Tryd.ntmps21
  go_wp2
  go_ret2
  exact ⟨rfl, rfl⟩

theorem rlast (c : ByteArray) (w : World) (h : c.size = 19) :
    Calls Tryd.prog 31 #[.string (c.extract 17 c.size)] w fun e w' => e = .returned (.int .i64 (pr c 17)) ∧ w = w' := by
  rw [h]; exact rpair c 17 w

/-- what the ways have in common -/
structure PParts (c : ByteArray) : Prop where
  size : c.size = 19
  ne : ((c.size : Int) != 19) = false
  big : 18 < c.size
  r0 : ∀ w, (Instr.slice 9 (.string c) (some (.int .i64 (5 : Nat))) (some (.int .i64 (7 : Nat))) none).run Tryd.prog w = .ok (.string (c.extract 5 7)) w
  r1 : ∀ w, (Instr.slice 9 (.string c) (some (.int .i64 (8 : Nat))) (some (.int .i64 (10 : Nat))) none).run Tryd.prog w = .ok (.string (c.extract 8 10)) w
  r2 : ∀ w, (Instr.slice 9 (.string c) (some (.int .i64 (11 : Nat))) (some (.int .i64 (13 : Nat))) none).run Tryd.prog w = .ok (.string (c.extract 11 13)) w
  r3 : ∀ w, (Instr.slice 9 (.string c) (some (.int .i64 (14 : Nat))) (some (.int .i64 (16 : Nat))) none).run Tryd.prog w = .ok (.string (c.extract 14 16)) w
theorem pparts (c : ByteArray) (h : c.size = 19) : PParts c :=
  ⟨h, by rw [bne_eq_false_iff_eq]; omega, by omega, slice_lh c 5 7 (by omega) (by omega), slice_lh c 8 10 (by omega) (by omega), slice_lh c 11 13 (by omega) (by omega), slice_lh c 14 16 (by omega) (by omega)⟩

/-- the facts of the region that reads the fields -/
def RegF (W : World) (c : ByteArray) : Nat → Value → World → Prop
  | 0, v, _ => v = .string c
  | 1, v, _ => v = .string (c.extract 0 4)
  | 2, v, _ => v = .int .i64 (yr c 4)
  | 3, v, _ => v = .string c
  | 4, v, _ => v = .string (c.extract 5 7)
  | 5, v, _ => v = .int .i64 (pr c 5)
  | 6, v, _ => v = .string c
  | 7, v, _ => v = .string (c.extract 8 10)
  | 8, v, _ => v = .int .i64 (pr c 8)
  | 9, v, _ => v = .string c
  | 10, v, _ => v = .string (c.extract 11 13)
  | 11, v, _ => v = .int .i64 (pr c 11)
  | 12, v, _ => v = .string c
  | 13, v, _ => v = .string (c.extract 14 16)
  | 14, v, _ => v = .int .i64 (pr c 14)
  | 15, v, _ => v = .string c
  | 16, v, _ => v = .string (c.extract 17 c.size)
  | 17, v, _ => v = .int .i64 (pr c 17)
  | 18, v, _ => v = .agg #[.int .i64 (yr c 4), .int .i64 (pr c 5), .int .i64 (pr c 8), .int .i64 (pr c 11), .int .i64 (pr c 14), .int .i64 (pr c 17)]
  | 19, v, w => ∃ g : Nat, v = .pointer (some ⟨g, 0, none⟩) ∧ W.heap.size ≤ g ∧ w.heap[g]? = some (dateBlock 0 0 0 0 0 0)
  | _, _, _ => True
theorem RegF.stable (W : World) (c : ByteArray) (i : Nat) (v : Value) (w w' : World) (h : RegF W c i v w) (hb : Below w.heap.size w w') : RegF W c i v w' := by
  match i with
  | 0 | 1 | 2 | 3 | 4 | 5 | 6 | 7 | 8 | 9 | 10 | 11 | 12 | 13 | 14 | 15 | 16 | 17 | 18 => exact h
  | 19 =>
    obtain ⟨g, h1, h2, h3⟩ := h
    have hlt : g < w.heap.size := by
      rcases Nat.lt_or_ge g w.heap.size with q | q
      · exact q
      · rw [Array.getElem?_eq_none q] at h3; cases h3
    exact ⟨g, h1, h2, by rw [hb.block g hlt]; exact h3⟩
  | _ + 20 => exact trivial

theorem dateBlock_lt {w : World} {g : Nat} {a b c d e f : Int} (h : w.heap[g]? = some (dateBlock a b c d e f)) : g < w.heap.size := by
  rcases Nat.lt_or_ge g w.heap.size with q | q
  · exact q
  · rw [Array.getElem?_eq_none q] at h; cases h
theorem dateBlock_cells {w : World} {g : Nat} {a b c d e f : Int} (h : w.heap[g]? = some (dateBlock a b c d e f)) :
    w.cell? ⟨g, 0, none⟩ = some (.int .i64 a) ∧ w.cell? ⟨g, 1, none⟩ = some (.int .i64 b) ∧ w.cell? ⟨g, 2, none⟩ = some (.int .i64 c) ∧ w.cell? ⟨g, 3, none⟩ = some (.int .i64 d) ∧ w.cell? ⟨g, 4, none⟩ = some (.int .i64 e) ∧ w.cell? ⟨g, 5, none⟩ = some (.int .i64 f) ∧ ∀ k, w.frozen? ⟨g, k, none⟩ = false := by
  refine ⟨?_, ?_, ?_, ?_, ?_, ?_, ?_⟩ <;> first | (intro k; simp [World.frozen?, h, dateBlock]) | (simp [World.cell?, h, dateBlock])

open Classical in
noncomputable def pV (c : ByteArray) : Int := if PV c ∧ (⟨(pTxt c).toArray⟩ : ByteArray) = c then pSec c else 0
open Classical in
noncomputable def pE (c : ByteArray) : Int := if PV c ∧ (⟨(pTxt c).toArray⟩ : ByteArray) = c then 0 else 12

set_option maxHeartbeats 1000000 in
theorem rparse_19 (c : ByteArray) (w : World) (h : c.size = 19) :
    Calls Tryd.prog 21 #[.string c] w fun e w' => e = .returned (.tuple #[.int .i64 (pV c), .int .i64 (pE c)]) ∧ Below w.heap.size w w' := by
  obtain ⟨-, d, hl, r0, r1, r2, r3⟩ := pparts c h
  have hl2 : c.size ≤ 19 := by omega
  have p0 := ryear c
  have p1 : ∀ W, Calls Tryd.prog 31 #[.string (c.extract 5 7)] W fun e w' => e = .returned (.int .i64 (pr c 5)) ∧ W = w' := rpair c 5
  have p2 : ∀ W, Calls Tryd.prog 31 #[.string (c.extract 8 10)] W fun e w' => e = .returned (.int .i64 (pr c 8)) ∧ W = w' := rpair c 8
  have p3 : ∀ W, Calls Tryd.prog 31 #[.string (c.extract 11 13)] W fun e w' => e = .returned (.int .i64 (pr c 11)) ∧ W = w' := rpair c 11
  have p4 : ∀ W, Calls Tryd.prog 31 #[.string (c.extract 14 16)] W fun e w' => e = .returned (.int .i64 (pr c 14)) ∧ W = w' := rpair c 14
  have p5 := fun W => rlast c W h
  have H := Lib.hid h
  clear h
  go_enter Tryd.func21, Tryd.ntmps21
  go_wp2_with fail
  refine wp_region_facts 20 (RegF w c) (by kernel_rfl) (by kernel_rfl) (by rfl) (RegF.stable w c) ?_ ?_
  · intro i o hi ho x w1 hb hd
    have hc : i = 0 ∨ i = 1 ∨ i = 2 ∨ i = 3 ∨ i = 4 ∨ i = 5 ∨ i = 6 ∨ i = 7 ∨ i = 8 ∨ i = 9 ∨ i = 10 ∨ i = 11 ∨ i = 12 ∨ i = 13 ∨ i = 14 ∨ i = 15 ∨ i = 16 ∨ i = 17 ∨ i = 18 ∨ i = 19 := by omega
    simp only [List.take_succ_cons, List.take_zero, putFrom]
    rcases hc with rfl | rfl | rfl | rfl | rfl | rfl | rfl | rfl | rfl | rfl | rfl | rfl | rfl | rfl | rfl | rfl | rfl | rfl | rfl | rfl
    all_goals
      simp only [List.getElem?_cons_succ, List.getElem?_cons_zero, Option.some.injEq] at ho
      subst ho
      simp [Needs, Region.binds, RegF] at hd
      try obtain ⟨hd1, hd⟩ := hd
      try obtain ⟨hd2, hd⟩ := hd
      try obtain ⟨hd3, hd⟩ := hd
      try obtain ⟨hd4, hd⟩ := hd
      try obtain ⟨hd5, hd⟩ := hd
    all_goals go_wp2_with fail
    all_goals first
      | (exact ⟨rfl, rfl, rfl, Below.refl _ _⟩)
      | (exact ⟨rfl, rfl, ⟨_, rfl, hb.size, heap_alloc_new _ _⟩, (Below.refl _ _).alloc (Nat.le_refl _) _⟩)
      | (go_at_call 31; (with_reducible refine (p0 _).mono ?_); rintro e w2 ⟨rfl, rfl⟩; go_wp2_with fail; exact ⟨rfl, rfl, rfl, Below.refl _ _⟩)
      | (go_at_call 31; (with_reducible refine (p1 _).mono ?_); rintro e w2 ⟨rfl, rfl⟩; go_wp2_with fail; exact ⟨rfl, rfl, rfl, Below.refl _ _⟩)
      | (go_at_call 31; (with_reducible refine (p2 _).mono ?_); rintro e w2 ⟨rfl, rfl⟩; go_wp2_with fail; exact ⟨rfl, rfl, rfl, Below.refl _ _⟩)
      | (go_at_call 31; (with_reducible refine (p3 _).mono ?_); rintro e w2 ⟨rfl, rfl⟩; go_wp2_with fail; exact ⟨rfl, rfl, rfl, Below.refl _ _⟩)
      | (go_at_call 31; (with_reducible refine (p4 _).mono ?_); rintro e w2 ⟨rfl, rfl⟩; go_wp2_with fail; exact ⟨rfl, rfl, rfl, Below.refl _ _⟩)
      | (go_at_call 31; (with_reducible refine (p5 _).mono ?_); rintro e w2 ⟨rfl, rfl⟩; go_wp2_with fail; exact ⟨rfl, rfl, rfl, Below.refl _ _⟩)
  · intro x w1 hb hf
    have f0 := hf 0 (by omega)
    have f1 := hf 1 (by omega)
    have f2 := hf 2 (by omega)
    have f3 := hf 3 (by omega)
    have f4 := hf 4 (by omega)
    have f5 := hf 5 (by omega)
    have f6 := hf 6 (by omega)
    have f7 := hf 7 (by omega)
    have f8 := hf 8 (by omega)
    have f9 := hf 9 (by omega)
    have f10 := hf 10 (by omega)
    have f11 := hf 11 (by omega)
    have f12 := hf 12 (by omega)
    have f13 := hf 13 (by omega)
    have f14 := hf 14 (by omega)
    have f15 := hf 15 (by omega)
    have f16 := hf 16 (by omega)
    have f17 := hf 17 (by omega)
    have f18 := hf 18 (by omega)
    obtain ⟨g, f19, hg, hbl⟩ := hf 19 (by omega)
    simp only [RegF] at f0 f1 f2 f3 f4 f5 f6 f7 f8 f9 f10 f11 f12 f13 f14 f15 f16 f17 f18
    clear hf p0 p1 p2 p3 p4 p5 r0 r1 r2 r3
    simp only [List.take_succ_cons, List.take_zero, List.drop_succ_cons, List.drop_zero, putFrom, Nat.zero_add, Nat.reduceAdd, f0, f1, f2, f3, f4, f5, f6, f7, f8, f9, f10, f11, f12, f13, f14, f15, f16, f17, f18, f19]
    clear f0 f1 f2 f3 f4 f5 f6 f7 f8 f9 f10 f11 f12 f13 f14 f15 f16 f17 f18 f19 x
    have hlt := dateBlock_lt hbl
    obtain ⟨z0, z1, z2, z3, z4, z5, z6⟩ := dateBlock_cells hbl
    clear hbl
    have hB : Below w.heap.size w ((((((w1.setCell ⟨g, 0, none⟩ (.int .i64 (yr c 4))).setCell ⟨g, 1, none⟩ (.int .i64 (pr c 5))).setCell ⟨g, 2, none⟩ (.int .i64 (pr c 8))).setCell ⟨g, 3, none⟩ (.int .i64 (pr c 11))).setCell ⟨g, 4, none⟩ (.int .i64 (pr c 14))).setCell ⟨g, 5, none⟩ (.int .i64 (pr c 17))) :=
      (((((hb.setCell (p := ⟨g, 0, none⟩) hg _).setCell (p := ⟨g, 1, none⟩) hg _).setCell (p := ⟨g, 2, none⟩) hg _).setCell (p := ⟨g, 3, none⟩) hg _).setCell (p := ⟨g, 4, none⟩) hg _).setCell (p := ⟨g, 5, none⟩) hg _
    have hS := rsecs_any (yr c 4) (pr c 5) (pr c 8) (pr c 11) (pr c 14) (pr c 17)
    by_cases hv : PV c
    · have hs1 : secE (yr c 4) (pr c 5) (pr c 8) (pr c 11) (pr c 14) (pr c 17) = 0 := by unfold secE; exact if_pos hv
      have hs2 : secV (yr c 4) (pr c 5) (pr c 8) (pr c 11) (pr c 14) (pr c 17) = pSec c := rfl
      have hcv : Cal.sec (yr c 4) (pr c 5) (pr c 8) (pr c 11) (pr c 14) (pr c 17) = pSec c := by unfold pSec secV; exact (if_pos hv).symm
      have hF := fun W => rformat_at W hv hcv
      change ∀ W, Calls _ _ _ W (fun e w' => e = .returned (.tuple #[.string ⟨(pTxt c).toArray⟩, .int .i64 0]) ∧ Below W.heap.size W w') at hF
      rw [hs1, hs2] at hS
      have e1 : ∀ q : (⟨(pTxt c).toArray⟩ : ByteArray) = c, pV c = pSec c ∧ pE c = 0 := fun q => ⟨by unfold pV; exact if_pos ⟨hv, q⟩, by unfold pE; exact if_pos ⟨hv, q⟩⟩
      have e2 : ∀ q : ¬ (⟨(pTxt c).toArray⟩ : ByteArray) = c, pV c = 0 ∧ pE c = 12 := fun q => ⟨by unfold pV; exact if_neg fun h => q h.2, by unfold pE; exact if_neg fun h => q h.2⟩
      clear hs1 hs2 hcv hv
      have E1 := Lib.hid e1
      have E2 := Lib.hid e2
      clear e1 e2
      generalize (⟨(pTxt c).toArray⟩ : ByteArray) = T at *
      generalize pSec c = t at *
      clear hl hl2 H d
      go_wp2_with fail
      go_at_call 14
      refine (hS _).mono ?_
      rintro _ w2 ⟨rfl, hb2⟩
      have hB2 := hB.trans (hb2.mono hB.size)
      clear hb2 hB z0 z1 z2 z3 z4 z5 z6 hS
      go_wp2_with fail
      go_at_call 19
      refine (hF _).mono ?_
      rintro _ w3 ⟨rfl, hb3⟩
      have hB3 := hB2.trans (hb3.mono hB2.size)
      clear hb3 hF hB2
      by_cases q : T = c
      · have E := Lib.hid (E1.out q)
        subst q
        clear E1 E2
        go_wp2
        go_ret2
        exact ⟨by rw [E.out.1, E.out.2]; rfl, hB3⟩
      · have E := Lib.hid (E2.out q)
        have t1 : (T.toList == c.toList) = false := by
          rw [beq_eq_false_iff_ne]
          intro h
          rw [ByteArray.toList_eq, ByteArray.toList_eq] at h
          exact q (ByteArray.ext (Array.toList_inj.1 h))
        clear E1 E2 q
        go_wp2
        go_ret2
        exact ⟨by rw [E.out.1, E.out.2]; rfl, hB3⟩
    · have hs1 : secE (yr c 4) (pr c 5) (pr c 8) (pr c 11) (pr c 14) (pr c 17) = 12 := by unfold secE; exact if_neg hv
      have hs2 : pV c = 0 ∧ pE c = 12 := ⟨by unfold pV; exact if_neg fun h => hv h.1, by unfold pE; exact if_neg fun h => hv h.1⟩
      rw [hs1] at hS
      have E := Lib.hid hs2
      generalize secV (yr c 4) (pr c 5) (pr c 8) (pr c 11) (pr c 14) (pr c 17) = t at *
      clear hs1 hs2 hv hl hl2 H d
      go_wp2_with fail
      go_at_call 14
      refine (hS _).mono ?_
      rintro _ w2 ⟨rfl, hb2⟩
      have hB2 := hB.trans (hb2.mono hB.size)
      clear hb2 hB z0 z1 z2 z3 z4 z5 z6 hS
      go_wp2
      go_ret2
      exact ⟨by rw [E.out.1, E.out.2]; rfl, hB2⟩

noncomputable def parV (c : ByteArray) : Int := if c.size = 19 then pV c else 0
noncomputable def parE (c : ByteArray) : Int := if c.size = 19 then pE c else 12
theorem rparse_any (c : ByteArray) (w : World) :
    Calls Tryd.prog 21 #[.string c] w fun e w' => e = .returned (.tuple #[.int .i64 (parV c), .int .i64 (parE c)]) ∧ Below w.heap.size w w' := by
  unfold parV parE
  by_cases h : c.size = 19
  · rw [if_pos h, if_pos h]; exact rparse_19 c w h
  · rw [if_neg h, if_neg h]
    exact (rparse_size c w h).mono fun _ _ ⟨a, b⟩ => ⟨a, b ▸ Below.refl _ _⟩

end Go.Proofs.YtmmoimemfdbfgaaDoor
