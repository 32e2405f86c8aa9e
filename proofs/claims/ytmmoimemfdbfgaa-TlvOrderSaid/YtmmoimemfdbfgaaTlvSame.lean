/-
  All readers agree with the definition.
-/
import Derived.Test.YtmmoimemfdbfgaaTlvCheck
import Derived.Deep.QuietTactic
namespace Go.Proofs.Ytmmoimemfdbfgaa
open Go.RowKit
set_option linter.unusedSimpArgs false

theorem belowN {B : Nat} {a w : World} (h : Below B a w) (n : Nat) : Below B a (w.drewN n) := ⟨h.os, h.tape, h.output, h.size, h.block⟩
theorem flat_get (l : List Elt) : ∀ (k j : Nat) (hk : k < l.length) (_ : j < 3), (l.flatMap Elt.cells)[k * 3 + j]? = (l[k].cells)[j]? := by
  induction l with
  | nil => intro k j hk; simp at hk
  | cons x l ih =>
    intro k j hk hj
    have hx : x.cells.length = 3 := rfl
    rw [List.flatMap_cons]
    cases k with
    | zero => rw [List.getElem?_append_left (by omega)]; simp
    | succ k =>
      rw [List.getElem?_append_right (by omega), hx, show (k + 1) * 3 + j - 3 = k * 3 + j by omega, ih k j (by simpa using hk) hj]
      rfl
theorem OwnE.form {w : World} {B : Nat} {v : Value} {l : List Elt} (h : OwnE w B v l) : (∃ a c, v = .slice a 0 c ∧ l = []) ∨ (∃ g c, v = .slice (some ⟨g, 0, none⟩) l.length c ∧ 0 < l.length) := by
  rcases h.2 with ⟨hv, hn⟩ | ⟨g, cap, cur, hv, _⟩
  · exact .inl ⟨_, _, hv, List.eq_nil_of_length_eq_zero hn⟩
  · cases l with
    | nil => exact .inl ⟨_, _, hv, rfl⟩
    | cons x l => exact .inr ⟨_, _, hv, by simp⟩
theorem OwnE.cell {w : World} {B g n c : Nat} {l : List Elt} (h : OwnE w B (.slice (some ⟨g, 0, none⟩) n c) l) (k j : Nat) (u : Value) (hk : k < l.length) (hj : j < 3) (hu : (l[k].cells)[j]? = some u) : w.cell? ⟨g, k * 3 + j, none⟩ = some u := by
  have hc := World.ownsRow.cells h (g := g) rfl (k * 3 + j) u (by rw [flat_get l k j hk hj]; exact hu)
  have e : (⟨g, 0, none⟩ : Addr).add (k * 3 + j) = ⟨g, k * 3 + j, none⟩ := by
    unfold Addr.add; split
    · simp [*]
    · simp
  rw [← e]; exact hc
theorem OwnE.le {w : World} {B g n c : Nat} {l : List Elt} (h : OwnE w B (.slice (some ⟨g, 0, none⟩) n c) l) : g < w.heap.size := (World.ownsRow.lt h g rfl).2

theorem sameE_any (v v' : Value) (l : List Elt) (w : World) (B B' : Nat) (h : OwnE w B v l) (h' : OwnE w B' v' l) (hl : l.length ≤ 1000000) :
    Calls Try.prog 32 #[v, v'] w fun e w' => e = .returned (.bool true) ∧ Below w.heap.size w w' := by
  rcases h.form with ⟨a, c, rfl, rfl⟩ | ⟨g, c, rfl, hpos⟩
  · rcases h'.form with ⟨a', c', rfl, -⟩ | ⟨g', c', rfl, hpos'⟩
    · clear h h'
      go_enter Try.func32, Try.ntmps32
      go_wp2
      go_loop [13] (fun i => i = .int .i64 0) (fun i => 0)
      case atStart => rfl
      case round =>
        subst hrel
        go_wp2
        go_ret
        exact ⟨rfl, Below.refl _ _⟩
    · simp at hpos'
  · rcases h'.form with ⟨a', c', rfl, rfl⟩ | ⟨g', c', rfl, hpos'⟩
    · simp at hpos
    · have hc := fun W (hW : Below w.heap.size w W) k j u hk hj hu => (hW.cell (p := ⟨g, k * 3 + j, none⟩) h.le).trans (h.cell k j u hk hj hu)
      have hc' := fun W (hW : Below w.heap.size w W) k j u hk hj hu => (hW.cell (p := ⟨g', k * 3 + j, none⟩) h'.le).trans (h'.cell k j u hk hj hu)
      have HC := Lib.hid hc
      have HC' := Lib.hid hc'
      clear hc hc' h h'
      go_enter Try.func32, Try.ntmps32
      go_wp2
      go_loopw [13] (fun i wr => ∃ k : Nat, k ≤ l.length ∧ i = .int .i64 k ∧ Below w.heap.size w wr) (fun i _ => l.length - (intOf i).toNat)
      case atStart => exact ⟨0, by omega, rfl, Below.refl _ _⟩
      case round =>
        obtain ⟨k, hk, rfl, hB⟩ := hrel
        by_cases hlt : k < l.length
        · have c0 := HC.out wr hB k 0 _ hlt (by omega) rfl
          have c1 := HC.out wr hB k 1 _ hlt (by omega) rfl
          have c2 := HC.out wr hB k 2 _ hlt (by omega) rfl
          have d0 := HC'.out wr hB k 0 _ hlt (by omega) rfl
          have d1 := HC'.out wr hB k 1 _ hlt (by omega) rfl
          have d2 := HC'.out wr hB k 2 _ hlt (by omega) rfl
          simp only [Nat.add_zero] at c0 d0
          generalize l[k] = x at *
          obtain ⟨t, c, r⟩ := x
          dsimp only at c0 c1 c2 d0 d1 d2
          go_wp2
          go_quiet (fail)
          go_wp2
          go_roundw
          case rel => exact ⟨k + 1, by omega, by go_num, belowN hB _⟩
          case measure => simp [intOf]; omega
        · obtain rfl : k = l.length := by omega
          go_wp2
          go_ret
          exact ⟨rfl, hB⟩

/-- a variable that holds an element -/
structure Cells3 (W : World) (g : Nat) (t : Int) (c r : ByteArray) : Prop where
  c0 : W.cell? ⟨g, 0, none⟩ = some (.int .i64 t)
  c1 : W.cell? ⟨g, 1, none⟩ = some (.string c)
  c2 : W.cell? ⟨g, 2, none⟩ = some (.string r)
  fr : ∀ k, W.frozen? ⟨g, k, none⟩ = false
  lt : g < W.heap.size
theorem Cells3.new (w : World) (t : Int) (c r : ByteArray) : Cells3 (w.alloc (.cells #[.int .i64 t, .string c, .string r] 32)) w.heap.size t c r :=
  ⟨by rw [World.cell?_alloc_at _ _ _ _ rfl]; rfl, by rw [World.cell?_alloc_at _ _ _ _ rfl]; rfl, by rw [World.cell?_alloc_at _ _ _ _ rfl]; rfl, fun k => World.frozen?_alloc_at _ _ _ _ rfl, by simp⟩
theorem Cells3.below {W w : World} {g : Nat} {t : Int} {c r : ByteArray} (h : Cells3 W g t c r) (hb : Below W.heap.size W w) : Cells3 w g t c r :=
  ⟨(hb.cell (p := ⟨g, 0, none⟩) h.lt).trans h.c0, (hb.cell (p := ⟨g, 1, none⟩) h.lt).trans h.c1, (hb.cell (p := ⟨g, 2, none⟩) h.lt).trans h.c2, fun k => (hb.frozen (p := ⟨g, k, none⟩) h.lt).trans (h.fr k), Nat.lt_of_lt_of_le h.lt hb.size⟩
theorem Cells3.alloc {W : World} {g : Nat} {t : Int} {c r : ByteArray} (h : Cells3 W g t c r) (o : Obj) : Cells3 (W.alloc o) g t c r := h.below ((Below.refl _ _).alloc (Nat.le_refl _) _)
def set3 (W : World) (g : Nat) (t : Int) (c r : ByteArray) : World := ((W.setCell ⟨g, 0, none⟩ (.int .i64 t)).setCell ⟨g, 1, none⟩ (.string c)).setCell ⟨g, 2, none⟩ (.string r)
theorem Cells3.set {W : World} {g : Nat} {t : Int} {c r : ByteArray} (h : Cells3 W g t c r) (t' : Int) (c' r' : ByteArray) : Cells3 (set3 W g t' c' r') g t' c' r' := by
  obtain ⟨h0, h1, h2, hf, hlt⟩ := h
  unfold set3
  refine ⟨?_, ?_, ?_, ?_, ?_⟩
  · simp [h0, h1, h2, go_sem]
  · simp [h0, h1, h2, go_sem]
  · simp [h0, h1, h2, go_sem]
  · intro k; simp [hf]
  · simpa using hlt
theorem Cells3.other {W : World} {g g' : Nat} {t : Int} {c r : ByteArray} (h : Cells3 W g t c r) (hne : g ≠ g') (t' : Int) (c' r' : ByteArray) : Cells3 (set3 W g' t' c' r') g t c r := by
  obtain ⟨h0, h1, h2, hf, hlt⟩ := h
  unfold set3
  refine ⟨?_, ?_, ?_, ?_, ?_⟩
  · simp [h0, hne, go_sem]
  · simp [h1, hne, go_sem]
  · simp [h2, hne, go_sem]
  · intro k; simp [hf]
  · simpa using hlt
theorem below_set3 {B : Nat} {a w : World} (h : Below B a w) (g : Nat) (hg : B ≤ g) (t : Int) (c r : ByteArray) : Below B a (set3 w g t c r) := ((h.setCell (p := ⟨g, 0, none⟩) hg _).setCell (p := ⟨g, 1, none⟩) hg _).setCell (p := ⟨g, 2, none⟩) hg _

theorem resV_form (b : ByteArray) (x : Tl.Res) : ∃ (t : Int) (c r m : ByteArray) (e : Int), resV b x = .tuple #[.agg #[.int .i64 t, .string c, .string r], .string m, .int .i64 e] := by
  cases x with
  | err c => exact ⟨_, _, _, _, _, rfl⟩
  | ok a n => exact ⟨_, _, _, _, _, rfl⟩
theorem oneV_form (b : ByteArray) (x : Tl.Res) : ∃ (t : Int) (c r : ByteArray) (e : Int), oneV b x = .tuple #[.agg #[.int .i64 t, .string c, .string r], .int .i64 e] := by
  cases x with
  | err c => exact ⟨_, _, _, _, rfl⟩
  | ok a n => exact ⟨_, _, _, _, rfl⟩
theorem lst_len (f : Nat) : ∀ (acc : List Elt) (b : ByteArray), (Tl.lst f acc b).1.length ≤ acc.length + b.size := by
  induction f with
  | zero => intro acc b; simp [Tl.lst]
  | succ f ih =>
    intro acc b
    rw [Tl.lst]
    split
    · simp
    · split
      · simp
      · rename_i a n hr
        have h1 := ih (acc ++ [eltAt b a n]) (b.extract (a + n) b.size)
        have h2 := Tl.rd_ok hr
        have h3 : (b.extract (a + n) b.size).size = b.size - (a + n) := by simp [ByteArray.size_extract]
        rw [List.length_append, List.length_singleton] at h1
        omega

set_option maxHeartbeats 2000000 in
set_option maxRecDepth 10000 in
theorem same_any (b : ByteArray) (w : World) (hs : b.size ≤ 1000000) :
    Calls Try.prog 17 #[.string b] w fun e w' => e = .returned (.bool true) ∧ Below w.heap.size w w' := by
  have hRd := fun W => read_any b W (by omega)
  have hRr := fun W => rread_any b W (by omega)
  have hOn := fun W => one_any b W (by omega)
  have hOr := fun W => rone_any b W (by omega)
  have hLi := fun W => list_any b W hs
  have hLr := fun W => rlist_any b W hs
  have hCh := fun W => check_any b W hs
  have hCr := fun W => rcheck_any b W hs
  have hll := lst_len b.size [] b
  simp only [List.length_nil, Nat.zero_add] at hll
  obtain ⟨t, c, r, m, e, he⟩ := resV_form b (Tl.rd b)
  obtain ⟨t', c', r', e', he'⟩ := oneV_form b (Tl.one b)
  rw [he] at hRd hRr
  rw [he'] at hOn hOr
  generalize Tl.lst b.size [] b = R at *
  generalize Tl.check b = C at *
  clear he he'
  have hR1 : R.1.length ≤ 1000000 := by omega
  clear hll hs
  go_enter Try.func17, Try.ntmps17
  go_wp2_with fail
  go_at_call 16
  refine (hRd _).mono ?_
  rintro _ w1 ⟨rfl, hb⟩
  have hB := hb.alloc hb.size (.cells #[.int .i64 t, .string c, .string r] 32)
  have C1 := Cells3.new w1 t c r
  have hg1 : w.heap.size ≤ w1.heap.size := hb.size
  clear hb hRd
  go_wp2_with fail
  go_at_call 29
  refine (hRr _).mono ?_
  rintro _ w2 ⟨rfl, hb⟩
  have hB2 := hB.trans (hb.mono hB.size)
  have C1 := C1.below hb
  clear hb hRr hB
  have C2 := Cells3.new w2 t c r
  have C1 := C1.alloc (.cells #[.int .i64 t, .string c, .string r] 32)
  have hB := hB2.alloc hB2.size (.cells #[.int .i64 t, .string c, .string r] 32)
  have hg2 : w.heap.size ≤ w2.heap.size := hB2.size
  have hne : w1.heap.size < w2.heap.size := by have := C1.lt; rename_i q; have := q.lt; omega
  clear hB2
  generalize hG1 : w1.heap.size = g1 at *
  obtain ⟨a0, a1, a2, a3, a4⟩ := id C1
  go_wp2_with fail
  go_at_call 15
  refine (hOn _).mono ?_
  rintro _ w3 ⟨rfl, hb⟩
  clear a0 a1 a2 a3 a4
  have hB := hB.trans (hb.mono hB.size)
  have C1 := C1.below hb
  have C2 := C2.below hb
  clear hb hOn
  generalize hG2 : w2.heap.size = g2 at *
  have D1 := C1
  obtain ⟨a0, a1, a2, a3, a4⟩ := C1
  go_wp2_with fail
  go_at_call 30
  refine (hOr _).mono ?_
  rintro _ w4 ⟨rfl, hb⟩
  clear a0 a1 a2 a3 a4
  change Below (set3 w3 g1 t' c' r').heap.size (set3 w3 g1 t' c' r') w4 at hb
  have hS := below_set3 hB g1 hg1 t' c' r'
  have hB := hS.trans (hb.mono hS.size)
  have C1 := (D1.set t' c' r').below hb
  have C2 := (C2.other (Nat.ne_of_gt hne) t' c' r').below hb
  clear hb hOr hS D1
  have D2 := C2
  obtain ⟨a0, a1, a2, a3, a4⟩ := C1
  obtain ⟨b0, b1, b2, b3, b4⟩ := C2
  go_wp2_with fail
  go_at_call 26
  refine (hLi _).mono ?_
  rintro _ w5 ⟨v, rfl, ho, hb⟩
  clear a0 a1 a2 a3 a4 b0 b1 b2 b3 b4 hLi D2
  change Below (set3 w4 g2 t' c' r').heap.size (set3 w4 g2 t' c' r') w5 at hb
  have hS := below_set3 hB g2 hg2 t' c' r'
  have hB := hS.trans (hb.mono hS.size)
  clear hb hS
  go_wp2_with fail
  go_at_call 31
  refine (hLr _).mono ?_
  rintro _ w6 ⟨v', rfl, ho', hb⟩
  have hO := ownsRow_ext ho hb
  have hB := hB.trans (hb.mono hB.size)
  clear hb ho hLr
  have hE := sameE_any v v' R.1 w6 _ _ hO ho' hR1
  clear hO ho'
  go_wp2_with fail
  go_at_call 32
  refine hE.mono ?_
  rintro _ w7 ⟨rfl, hb⟩
  have hB := hB.trans (hb.mono hB.size)
  clear hb hE
  go_wp2_with fail
  go_at_call 18
  refine (hCh _).mono ?_
  rintro _ w8 ⟨rfl, hb⟩
  have hB := hB.trans (hb.mono hB.size)
  clear hb hCh
  go_wp2_with fail
  go_at_call 19
  refine (hCr _).mono ?_
  rintro _ w9 ⟨rfl, hb⟩
  have hB := hB.trans (hb.mono hB.size)
  clear hb hCr
  go_wp2
  go_ret
  exact ⟨rfl, hB⟩

end Go.Proofs.Ytmmoimemfdbfgaa
