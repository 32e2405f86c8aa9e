/-
  The contract of Format.
-/
import Derived.Test.YtmmoimemfdbfgaaDoorDateF
namespace Go.Proofs.YtmmoimemfdbfgaaDoor
open Go.RowKit

theorem civil_bad (t : Int) (w : World) (h : t < 0 ∨ 254033452799 < t) :
    Calls Tryd.prog 10 #[.int .i64 t] w fun e w' => e = .returned (.tuple #[.agg #[.int .i64 0, .int .i64 0, .int .i64 0, .int .i64 0, .int .i64 0, .int .i64 0], .int .i64 1]) ∧ Below w.heap.size w w' := by
  rcases h with h | h
  · have b0 : decide (t < 0) = true := by simp; omega
    go_enter Tryd.func10, Tryd.ntmps10
    go_wp2
    refine bodyPost_ret (v := .tuple #[.agg #[.int .i64 0, .int .i64 0, .int .i64 0, .int .i64 0, .int .i64 0, .int .i64 0], .int .i64 1]) (by simp [results, Tryd.results10, go_sem]) rfl ⟨rfl, ?_⟩
    exact (Below.refl _ _).alloc (Nat.le_refl _) _
  · have b0 : decide (t < 0) = false := by simp; omega
    have b1 : decide (254033452799 < t) = true := by simp; omega
    go_enter Tryd.func10, Tryd.ntmps10
    go_wp2
    refine bodyPost_ret (v := .tuple #[.agg #[.int .i64 0, .int .i64 0, .int .i64 0, .int .i64 0, .int .i64 0, .int .i64 0], .int .i64 1]) (by simp [results, Tryd.results10, go_sem]) rfl ⟨rfl, ?_⟩
    exact (Below.refl _ _).alloc (Nat.le_refl _) _

theorem rcivil_bad (t : Int) (w : World) (h : t < 0 ∨ 254033452799 < t) :
    Calls Tryd.prog 11 #[.int .i64 t] w fun e w' => e = .returned (.tuple #[.agg #[.int .i64 0, .int .i64 0, .int .i64 0, .int .i64 0, .int .i64 0, .int .i64 0], .int .i64 1]) ∧ Below w.heap.size w w' := by
  rcases h with h | h
  · have b0 : decide (t < 0) = true := by simp; omega
    go_enter Tryd.func11, Tryd.ntmps11
    go_wp2
    refine bodyPost_ret (v := .tuple #[.agg #[.int .i64 0, .int .i64 0, .int .i64 0, .int .i64 0, .int .i64 0, .int .i64 0], .int .i64 1]) (by simp [results, Tryd.results11, go_sem]) rfl ⟨rfl, ?_⟩
    exact (Below.refl _ _).alloc (Nat.le_refl _) _
  · have b0 : decide (t < 0) = false := by simp; omega
    have b1 : decide (254033452799 < t) = true := by simp; omega
    go_enter Tryd.func11, Tryd.ntmps11
    go_wp2
    refine bodyPost_ret (v := .tuple #[.agg #[.int .i64 0, .int .i64 0, .int .i64 0, .int .i64 0, .int .i64 0, .int .i64 0], .int .i64 1]) (by simp [results, Tryd.results11, go_sem]) rfl ⟨rfl, ?_⟩
    exact (Below.refl _ _).alloc (Nat.le_refl _) _

theorem format_bad (t : Int) (w : World) (h : t < 0 ∨ 254033452799 < t) :
    Calls Tryd.prog 18 #[.int .i64 t] w fun e w' => e = .returned (.tuple #[.string ⟨#[]⟩, .int .i64 1]) ∧ Below w.heap.size w w' := by
  go_enter Tryd.func18, Tryd.ntmps18
  go_wp2_with fail
  go_at_call 10
  refine (civil_bad t _ h).mono ?_
  rintro e w1 ⟨rfl, hb⟩
  go_wp2
  go_ret2
  exact ⟨rfl, hb.alloc hb.size _⟩

def FormatPost (t : Int) (w : World) (e : Ending) (w' : World) : Prop :=
  ∃ y m d h n s, Cal.Vld y m d h n s ∧ Cal.sec y m d h n s = t ∧ e = .returned (.tuple #[.string ⟨(Dig.txt y m d h n s 5).toArray⟩, .int .i64 0]) ∧ Below w.heap.size w w'

theorem put4 (v0 : Value) (l : List UInt8) (n : Int) (B : Nat) (w : World) (hB : B ≤ w.heap.size) (h0 : 0 ≤ n) (h1 : n ≤ 9999) (hl : l.length ≤ 100) (hown : OwnB w B v0 l) :
    Calls Tryd.prog 32 #[v0, .int .i64 n, .int .i64 4] w fun e w' => ∃ v, e = .returned v ∧ OwnB w' B v (l ++ Dig.low 4 n) ∧ Grew w v0 w' v :=
  put_any v0 l n 4 B w hB (by omega) (by omega) h0 h1 hl hown
theorem put2 (v0 : Value) (l : List UInt8) (n : Int) (B : Nat) (w : World) (hB : B ≤ w.heap.size) (h0 : 0 ≤ n) (h1 : n ≤ 9999) (hl : l.length ≤ 100) (hown : OwnB w B v0 l) :
    Calls Tryd.prog 32 #[v0, .int .i64 n, .int .i64 2] w fun e w' => ∃ v, e = .returned v ∧ OwnB w' B v (l ++ Dig.low 2 n) ∧ Grew w v0 w' v :=
  put_any v0 l n 2 B w hB (by omega) (by omega) h0 h1 hl hown

/-- the bytes of an owned slice, as a string -/
theorem bytes_back {w : World} {B g cap N : Nat} {l : List UInt8} (h : OwnB w B (.slice (some ⟨g, 0, none⟩) N cap) l) (hN : l.length = N) :
    (convert 44 9 (.slice (some ⟨g, 0, none⟩) N cap)).run Tryd.prog w = .ok (.string ⟨l.toArray⟩) w := by
  subst hN
  refine run_convert_bytes_back w _ _ _ _ cap l Tryd.underlying44 Tryd.underlying5 Tryd.underlying9 ?_
  intro j hj
  have hc := h.cellAt j (by simpa using hj)
  have e : (⟨g, 0, none⟩ : Addr).add j = ⟨g, j, none⟩ := by
    unfold Addr.add; split
    · simp [*]
    · simp
  rw [e, hc]
  simp [List.getElem?_eq_getElem hj, byteV]

theorem grew_below {w0 w1 w : World} {v0 v : Value} (hb : Below w0.heap.size w0 w1) (h : Grew w1 v0 w v) (hv : ∀ k, v0.ownBlock = some k → w0.heap.size ≤ k) : Below w0.heap.size w0 w :=
  hb.trans ⟨h.grown.os, h.grown.tape, h.grown.output, h.grown.size, fun k hk => h.grown.block k (Nat.lt_of_lt_of_le hk hb.size) (fun e => by have := hv k e.symm; omega)⟩

theorem grew_cell {w0 w : World} {v0 v : Value} (h : Grew w0 v0 w v) {b o : Nat} (hb : b < w0.heap.size) (hv : v0.ownBlock ≠ some b) : w.cell? ⟨b, o, none⟩ = w0.cell? ⟨b, o, none⟩ :=
  World.cell?_of_block (a := ⟨b, o, none⟩) (h.grown.block b hb (fun e => hv e.symm))

theorem date_cell (y m d h n s : Int) (w : World) :
    (w.alloc (dateBlock y m d h n s)).cell? ⟨w.heap.size, 0, none⟩ = some (.int .i64 y) ∧ (w.alloc (dateBlock y m d h n s)).cell? ⟨w.heap.size, 1, none⟩ = some (.int .i64 m) ∧ (w.alloc (dateBlock y m d h n s)).cell? ⟨w.heap.size, 2, none⟩ = some (.int .i64 d) ∧
    (w.alloc (dateBlock y m d h n s)).cell? ⟨w.heap.size, 3, none⟩ = some (.int .i64 h) ∧ (w.alloc (dateBlock y m d h n s)).cell? ⟨w.heap.size, 4, none⟩ = some (.int .i64 n) ∧ (w.alloc (dateBlock y m d h n s)).cell? ⟨w.heap.size, 5, none⟩ = some (.int .i64 s) :=
  date_cells y m d h n s w (Ext.self _)

/-- the five fields in a slice of their own -/
def five (m d h n s : Int) : Obj := .cells #[.int .i64 m, .int .i64 d, .int .i64 h, .int .i64 n, .int .i64 s] 3
theorem five_cell (m d h n s : Int) (w : World) (k : Nat) (hk : k < 5) : (w.alloc (five m d h n s)).cell? ⟨w.heap.size, k, none⟩ = some (.int .i64 (Dig.fld m d h n s k)) := by
  unfold five
  rw [World.cell?_alloc_at _ _ _ _ rfl]
  have : k = 0 ∨ k = 1 ∨ k = 2 ∨ k = 3 ∨ k = 4 := by omega
  rcases this with rfl | rfl | rfl | rfl | rfl <;> rfl

set_option maxHeartbeats 1000000 in
theorem format_good (t : Int) (w : World) (ht : Tab w) (t0 : 0 ≤ t) (t1 : t ≤ 254033452799) :
    Calls Tryd.prog 18 #[.int .i64 t] w (FormatPost t w) := by
  obtain ⟨i0, hi, hz0, hz1, hz2⟩ := info_parts info_u8
  go_enter Tryd.func18, Tryd.ntmps18
  go_wp2_with fail
  go_at_call 10
  refine (civil_good t _ ht t0 t1).mono ?_
  rintro e w1 ⟨y, m, d, h, n, s, rfl, v, hsec, hb⟩
  have HV := Lib.hid v
  have HS := Lib.hid hsec
  clear hsec ht
  obtain ⟨y1, y2, m1, m2, d1, d2, h1, h2, n1, n2, s1, s2⟩ := v
  have md := Cal.mlen_bd y m
  go_wp2_with fail
  change Calls _ _ _ (w1.alloc (dateBlock y m d h n s)) _
  go_at_call 32
  refine (put4 _ [] y (w1.heap.size + 1) _ (by simp) (by omega) (by omega) (by simp) (OwnB.nil _ _)).mono ?_
  rintro e w2 ⟨b, rfl, ho, hg⟩
  have hcs := date_cell y m d h n s w1
  have hz1' : w1.heap.size < (w1.alloc (dateBlock y m d h n s)).heap.size := by simp
  have hb2 : Below w.heap.size w w2 := grew_below (hb.alloc hb.size _) hg (by intro k hk; cases hk)
  have hs2 : w1.heap.size < w2.heap.size := by have := hg.grown.size; simp at this; omega
  have hsw : w.heap.size ≤ w1.heap.size := hb.size
  have c1 : w2.cell? ⟨w1.heap.size, 1, none⟩ = some (.int .i64 m) := (grew_cell hg hz1' (by intro e; cases e)).trans hcs.2.1
  have c2 : w2.cell? ⟨w1.heap.size, 2, none⟩ = some (.int .i64 d) := (grew_cell hg hz1' (by intro e; cases e)).trans hcs.2.2.1
  have c3 : w2.cell? ⟨w1.heap.size, 3, none⟩ = some (.int .i64 h) := (grew_cell hg hz1' (by intro e; cases e)).trans hcs.2.2.2.1
  have c4 : w2.cell? ⟨w1.heap.size, 4, none⟩ = some (.int .i64 n) := (grew_cell hg hz1' (by intro e; cases e)).trans hcs.2.2.2.2.1
  have c5 : w2.cell? ⟨w1.heap.size, 5, none⟩ = some (.int .i64 s) := (grew_cell hg hz1' (by intro e; cases e)).trans hcs.2.2.2.2.2
  have hlt2 : ∀ k, b.ownBlock = some k → w1.heap.size + 1 ≤ k ∧ k < w2.heap.size := ho.lt
  clear hcs hg hz1' hb
  go_wp2
  change Code.wp _ _ _ _ (w2.alloc (five m d h n s))
  have hfc : ∀ k, k < 5 → (w2.alloc (five m d h n s)).cell? ⟨w2.heap.size, k, none⟩ = some (.int .i64 (Dig.fld m d h n s k)) := fun k hk => five_cell m d h n s w2 k hk
  have hB2 : Below w.heap.size w (w2.alloc (five m d h n s)) := hb2.alloc (by have := hb2.size; omega) _
  have hzw : (w2.alloc (five m d h n s)).heap.size = w2.heap.size + 1 := by simp
  have ho2 : OwnB (w2.alloc (five m d h n s)) (w1.heap.size + 1) b (Dig.txt y m d h n s 0) := ho.alloc _
  have hfb : ∀ k, 0 ≤ Dig.fld m d h n s k ∧ Dig.fld m d h n s k ≤ 9999 := by intro k; unfold Dig.fld; split <;> omega
  have hstep : ∀ k, Dig.txt y m d h n s (k + 1) = Dig.txt y m d h n s k ++ [Dig.sep k] ++ Dig.low 2 (Dig.fld m d h n s k) := fun _ => rfl
  have hlen : ∀ k, (Dig.txt y m d h n s k).length = 4 + 3 * k := Dig.txt_length y m d h n s
  have hend : ∀ k, k = 5 → FormatPost t w (.returned (.tuple #[.string ⟨(Dig.txt y m d h n s k).toArray⟩, .int .i64 0])) = FormatPost t w (.returned (.tuple #[.string ⟨(Dig.txt y m d h n s 5).toArray⟩, .int .i64 0])) := by intro k hk; rw [hk]
  have hfin : ∀ w', Below w.heap.size w w' → FormatPost t w (.returned (.tuple #[.string ⟨(Dig.txt y m d h n s 5).toArray⟩, .int .i64 0])) w' := fun w' hb => ⟨y, m, d, h, n, s, HV.out, HS.out, rfl, hb⟩
  clear hb2 c1 c2 c3 c4 c5 ho hend HV HS
  generalize hT : Dig.txt y m d h n s = T at *
  generalize hF : Dig.fld m d h n s = F at *
  clear hT hF
  generalize w2.alloc (five m d h n s) = W2 at *
  have HLEN := Lib.hid hlen
  have HSTEP := Lib.hid hstep
  have HZ2 := Lib.hid hzw
  clear hlen hstep hzw
  go_loopw [6, 32] (fun v i wr => ∃ k : Nat, k ≤ 5 ∧ i = .int .i64 k ∧ OwnB wr (w1.heap.size + 1) v (T k) ∧ Grew W2 b wr v) (fun _ i _ => 5 - (intOf i).toNat)
  case atStart => exact ⟨0, by omega, rfl, ho2, Grew.refl _ _⟩
  case round =>
    obtain ⟨k, hk, rfl, ho, hg⟩ := hrel
    by_cases hlt : k < 5
    · have hkk : k = 0 ∨ k = 1 ∨ k = 2 ∨ k = 3 ∨ k = 4 := by omega
      have hcell : wr.cell? ⟨w2.heap.size, k, none⟩ = some (.int .i64 (F k)) := (grew_cell hg (by have := HZ2.out; omega) (by intro e; have := (hlt2 _ e).2; omega)).trans (hfc k hlt)
      have hfk := hfb k
      have hstep := HSTEP.out k
      have HST := Lib.hid hstep
      have hlen := HLEN.out k
      obtain ⟨X, ho', hX⟩ := ho.at (n := 4 + 3 * k) hlen
      have hsz := hg.grown.size
      have hzz := HZ2.out
      have hsz2 : w1.heap.size + 1 ≤ wr.heap.size := by omega
      have hlX : (T k).length ≤ 16 := by omega
      have HLK := Lib.hid hlen
      clear hfc hfb hstep hzz hlen
      generalize F k = fk at *
      rcases hkk with rfl | rfl | rfl | rfl | rfl
      · go_wp2_with (at_builtin; refine wpList_append_lies _ rfl _ _ _ rfl (w1.heap.size + 1) 5 i0 (.int .u8 0) 1 1 Tryd.underlying44 hi hz0 hz1 hz2 rfl (by decide) _ _ _ rfl (ho'.alloc _) ⟨wr.heap.size, 0, none⟩ 1 1 [.int .u8 45] rfl rfl (one_byte 45) (one_cell 45) (by decide) (by unfold maxLen; omega) (by omega) (by simp; omega) (wr.heap.size + 1) (by simp) ?_)
        intro g cap w3 hown3 hgrow hat hlt3
        have R1 := OwnB.snoc (b := 45) (n := 4 + 3 * 0) hX.out HLK.out.symm hown3
        have R2 := (hg.alloc _).appended (n := 5) (cap := cap) hgrow hat (by simp)
        have hs3 := R2.grown.size
        have hl3 : (T 0 ++ [(45 : UInt8)]).length ≤ 100 := by simp; omega
        have hs4 : w1.heap.size + 1 ≤ w3.heap.size := by have := HZ2.out; omega
        clear hown3 hgrow hat ho ho' hg hsz hX
        go_wp2_with fail
        go_at_call 32
        refine (put2 _ (T 0 ++ [45]) fk (w1.heap.size + 1) _ hs4 hfk.1 hfk.2 hl3 R1).mono ?_
        rintro e w4 ⟨v4, rfl, ho4, hg4⟩
        have R3 : OwnB w4 (w1.heap.size + 1) v4 (T (0 + 1)) := by rw [HST.out]; exact ho4
        have R4 := R2.trans hg4
        clear ho4 hg4 R1 R2
        go_wp2
        go_roundw
        case rel => exact ⟨0 + 1, by omega, rfl, R3, R4⟩
        case measure => simp [intOf]
      · go_wp2_with (at_builtin; refine wpList_append_lies _ rfl _ _ _ rfl (w1.heap.size + 1) 5 i0 (.int .u8 0) 1 1 Tryd.underlying44 hi hz0 hz1 hz2 rfl (by decide) _ _ _ rfl (ho'.alloc _) ⟨wr.heap.size, 0, none⟩ 1 1 [.int .u8 45] rfl rfl (one_byte 45) (one_cell 45) (by decide) (by unfold maxLen; omega) (by omega) (by simp; omega) (wr.heap.size + 1) (by simp) ?_)
        intro g cap w3 hown3 hgrow hat hlt3
        have R1 := OwnB.snoc (b := 45) (n := 4 + 3 * 1) hX.out HLK.out.symm hown3
        have R2 := (hg.alloc _).appended (n := 8) (cap := cap) hgrow hat (by simp)
        have hs3 := R2.grown.size
        have hl3 : (T 1 ++ [(45 : UInt8)]).length ≤ 100 := by simp; omega
        have hs4 : w1.heap.size + 1 ≤ w3.heap.size := by have := HZ2.out; omega
        clear hown3 hgrow hat ho ho' hg hsz hX
        go_wp2_with fail
        go_at_call 32
        refine (put2 _ (T 1 ++ [45]) fk (w1.heap.size + 1) _ hs4 hfk.1 hfk.2 hl3 R1).mono ?_
        rintro e w4 ⟨v4, rfl, ho4, hg4⟩
        have R3 : OwnB w4 (w1.heap.size + 1) v4 (T (1 + 1)) := by rw [HST.out]; exact ho4
        have R4 := R2.trans hg4
        clear ho4 hg4 R1 R2
        go_wp2
        go_roundw
        case rel => exact ⟨1 + 1, by omega, rfl, R3, R4⟩
        case measure => simp [intOf]
      · go_wp2_with (at_builtin; refine wpList_append_lies _ rfl _ _ _ rfl (w1.heap.size + 1) 5 i0 (.int .u8 0) 1 1 Tryd.underlying44 hi hz0 hz1 hz2 rfl (by decide) _ _ _ rfl (ho'.alloc _) ⟨wr.heap.size, 0, none⟩ 1 1 [.int .u8 32] rfl rfl (one_byte 32) (one_cell 32) (by decide) (by unfold maxLen; omega) (by omega) (by simp; omega) (wr.heap.size + 1) (by simp) ?_)
        intro g cap w3 hown3 hgrow hat hlt3
        have R1 := OwnB.snoc (b := 32) (n := 4 + 3 * 2) hX.out HLK.out.symm hown3
        have R2 := (hg.alloc _).appended (n := 11) (cap := cap) hgrow hat (by simp)
        have hs3 := R2.grown.size
        have hl3 : (T 2 ++ [(32 : UInt8)]).length ≤ 100 := by simp; omega
        have hs4 : w1.heap.size + 1 ≤ w3.heap.size := by have := HZ2.out; omega
        clear hown3 hgrow hat ho ho' hg hsz hX
        go_wp2_with fail
        go_at_call 32
        refine (put2 _ (T 2 ++ [32]) fk (w1.heap.size + 1) _ hs4 hfk.1 hfk.2 hl3 R1).mono ?_
        rintro e w4 ⟨v4, rfl, ho4, hg4⟩
        have R3 : OwnB w4 (w1.heap.size + 1) v4 (T (2 + 1)) := by rw [HST.out]; exact ho4
        have R4 := R2.trans hg4
        clear ho4 hg4 R1 R2
        go_wp2
        go_roundw
        case rel => exact ⟨2 + 1, by omega, rfl, R3, R4⟩
        case measure => simp [intOf]
      · go_wp2_with (at_builtin; refine wpList_append_lies _ rfl _ _ _ rfl (w1.heap.size + 1) 5 i0 (.int .u8 0) 1 1 Tryd.underlying44 hi hz0 hz1 hz2 rfl (by decide) _ _ _ rfl (ho'.alloc _) ⟨wr.heap.size, 0, none⟩ 1 1 [.int .u8 58] rfl rfl (one_byte 58) (one_cell 58) (by decide) (by unfold maxLen; omega) (by omega) (by simp; omega) (wr.heap.size + 1) (by simp) ?_)
        intro g cap w3 hown3 hgrow hat hlt3
        have R1 := OwnB.snoc (b := 58) (n := 4 + 3 * 3) hX.out HLK.out.symm hown3
        have R2 := (hg.alloc _).appended (n := 14) (cap := cap) hgrow hat (by simp)
        have hs3 := R2.grown.size
        have hl3 : (T 3 ++ [(58 : UInt8)]).length ≤ 100 := by simp; omega
        have hs4 : w1.heap.size + 1 ≤ w3.heap.size := by have := HZ2.out; omega
        clear hown3 hgrow hat ho ho' hg hsz hX
        go_wp2_with fail
        go_at_call 32
        refine (put2 _ (T 3 ++ [58]) fk (w1.heap.size + 1) _ hs4 hfk.1 hfk.2 hl3 R1).mono ?_
        rintro e w4 ⟨v4, rfl, ho4, hg4⟩
        have R3 : OwnB w4 (w1.heap.size + 1) v4 (T (3 + 1)) := by rw [HST.out]; exact ho4
        have R4 := R2.trans hg4
        clear ho4 hg4 R1 R2
        go_wp2
        go_roundw
        case rel => exact ⟨3 + 1, by omega, rfl, R3, R4⟩
        case measure => simp [intOf]
      · go_wp2_with (at_builtin; refine wpList_append_lies _ rfl _ _ _ rfl (w1.heap.size + 1) 5 i0 (.int .u8 0) 1 1 Tryd.underlying44 hi hz0 hz1 hz2 rfl (by decide) _ _ _ rfl (ho'.alloc _) ⟨wr.heap.size, 0, none⟩ 1 1 [.int .u8 58] rfl rfl (one_byte 58) (one_cell 58) (by decide) (by unfold maxLen; omega) (by omega) (by simp; omega) (wr.heap.size + 1) (by simp) ?_)
        intro g cap w3 hown3 hgrow hat hlt3
        have R1 := OwnB.snoc (b := 58) (n := 4 + 3 * 4) hX.out HLK.out.symm hown3
        have R2 := (hg.alloc _).appended (n := 17) (cap := cap) hgrow hat (by simp)
        have hs3 := R2.grown.size
        have hl3 : (T 4 ++ [(58 : UInt8)]).length ≤ 100 := by simp; omega
        have hs4 : w1.heap.size + 1 ≤ w3.heap.size := by have := HZ2.out; omega
        clear hown3 hgrow hat ho ho' hg hsz hX
        go_wp2_with fail
        go_at_call 32
        refine (put2 _ (T 4 ++ [58]) fk (w1.heap.size + 1) _ hs4 hfk.1 hfk.2 hl3 R1).mono ?_
        rintro e w4 ⟨v4, rfl, ho4, hg4⟩
        have R3 : OwnB w4 (w1.heap.size + 1) v4 (T (4 + 1)) := by rw [HST.out]; exact ho4
        have R4 := R2.trans hg4
        clear ho4 hg4 R1 R2
        go_wp2
        go_roundw
        case rel => exact ⟨4 + 1, by omega, rfl, R3, R4⟩
        case measure => simp [intOf]
    · obtain rfl : k = 5 := by omega
      have hlen := HLEN.out 5
      obtain ⟨g, cap, hv⟩ := ho.pos (by omega)
      rw [hlen] at hv
      subst hv
      have hbk := bytes_back ho hlen
      have hfinal := hfin wr (grew_below hB2 hg (by intro k hk; have := (hlt2 k hk).1; omega))
      have HF := Lib.hid hfinal
      clear hlen hfinal hfin
      go_wp2
      go_ret2
      exact HF.out

end Go.Proofs.YtmmoimemfdbfgaaDoor
