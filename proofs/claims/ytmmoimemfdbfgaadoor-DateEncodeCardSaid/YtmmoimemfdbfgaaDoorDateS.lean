/-
  The contract of Encode. (Written by wip/gen/gen_encode.py.)
-/
import Derived.Test.YtmmoimemfdbfgaaDoorDateR
import Derived.Test.YtmmoimemfdbfgaaDoorTlvWrap
namespace Go.Proofs.YtmmoimemfdbfgaaDoor
open Go.RowKit
set_option linter.unusedSimpArgs false

def encL (b : List UInt8) (m d h n s : Int) : Nat → List UInt8
  | 0 => b
  | k + 1 => encL b m d h n s k ++ Dig.low 2 (Dig.fld m d h n s k)
theorem encL_length (b : List UInt8) (m d h n s : Int) : ∀ k, (encL b m d h n s k).length = b.length + 2 * k
  | 0 => rfl
  | k + 1 => by rw [encL, List.length_append, encL_length b m d h n s k, Dig.low_length]; omega
theorem encL_all (b : List UInt8) (m d h n s : Int) : encL b m d h n s 5 ++ [90] = b ++ encR m d h n s := by
  simp [encL, encR, Dig.fld]
theorem two_strs (w : World) (x y : ByteArray) : Strs (w.alloc (.cells #[.string x, .string y] 9)) (.slice (some ⟨w.heap.size, 0, none⟩) 2 2) [x, y] := by
  refine Strs.some w.heap.size 0 2 x [y] (by simp) (by simp) (by unfold maxLen; simp) ?_
  intro j u hj
  rw [World.cell?_alloc_at _ _ _ _ rfl, Nat.zero_add]
  match j, hj with
  | 0, hj => simp at hj; subst hj; rfl
  | 1, hj => simp at hj; subst hj; rfl
theorem wrap_enc (tag : Int) (l : List UInt8) (h : l.length ≤ 100) (w : World) :
    Calls Tryd.prog 34 #[.int .i64 tag, .slice (some ⟨w.heap.size, 0, none⟩) 2 2] (w.alloc (.cells #[.string ⟨l.toArray⟩, .string ⟨#[90]⟩] 9)) fun e w' => e = .returned (wrapR tag (l ++ [90])) ∧ Below (w.alloc (.cells #[.string ⟨l.toArray⟩, .string ⟨#[90]⟩] 9)).heap.size (w.alloc (.cells #[.string ⟨l.toArray⟩, .string ⟨#[90]⟩] 9)) w' := by
  have hf : Tl.flat [⟨l.toArray⟩, ⟨#[90]⟩] = l ++ [90] := by simp [Tl.flat]
  have := wrap_any tag _ _ _ (two_strs w ⟨l.toArray⟩ ⟨#[90]⟩) (by simp) (by rw [hf]; simp; omega)
  rw [hf] at this
  exact this

theorem encode_bad (t : Int) (w : World) (h : t < 0 ∨ 254033452799 < t) :
    Calls Tryd.prog 22 #[.int .i64 t] w fun e w' => e = .returned (.tuple #[.string ⟨#[]⟩, .int .i64 1]) ∧ Below w.heap.size w w' := by
  go_enter Tryd.func22, Tryd.ntmps22
  go_wp2_with fail
  go_at_call 10
  refine (civil_bad t _ h).mono ?_
  rintro e w1 ⟨rfl, hb⟩
  go_wp2
  go_ret2
  exact ⟨rfl, hb.alloc hb.size _⟩

set_option maxHeartbeats 2000000 in
theorem encode_good (t : Int) (w : World) (ht : Tab w) (t0 : 0 ≤ t) (t1 : t ≤ 254033452799) :
    Calls Tryd.prog 22 #[.int .i64 t] w (EncPost t w) := by
  go_enter Tryd.func22, Tryd.ntmps22
  go_wp2_with fail
  go_at_call 10
  refine (civil_good t _ ht t0 t1).mono ?_
  rintro e w1 ⟨y, m, d, h, n, s, rfl, v, hsec, hb⟩
  have hfin : ∀ w', Below w.heap.size w w' → EncPost t w (.returned (.tuple #[.string (encE y m d h n s), .int .i64 0])) w' := fun w' hb => ⟨y, m, d, h, n, s, v, hsec, rfl, hb⟩
  have HF := Lib.hid hfin
  have HW := Lib.hid (enc_wrap y m d h n s)
  clear hsec ht hfin
  obtain ⟨y1, y2, m1, m2, d1, d2, h1, h2, n1, n2, s1, s2⟩ := v
  have md := Cal.mlen_bd y m
  go_wp2_with fail
  change Calls _ _ _ (w1.alloc (dateBlock y m d h n s)) _
  go_at_call 32
  refine (put2 _ [] (y % 100) (w1.heap.size + 1) _ (by simp) (by omega) (by omega) (by simp) (OwnB.nil _ _)).mono ?_
  rintro e w2 ⟨b, rfl, ho, hg⟩
  rw [List.nil_append] at ho
  have hcs := date_cell y m d h n s w1
  have hz1' : w1.heap.size < (w1.alloc (dateBlock y m d h n s)).heap.size := by simp
  have hb2 : Below w.heap.size w w2 := grew_below (hb.alloc hb.size _) hg (by intro k hk; cases hk)
  have hs2 : w1.heap.size < w2.heap.size := by have := hg.grown.size; simp at this; omega
  have hsw : w.heap.size ≤ w1.heap.size := hb.size
  have c0 : w2.cell? ⟨w1.heap.size, 0, none⟩ = some (.int .i64 y) := (grew_cell hg hz1' (by intro e; cases e)).trans hcs.1
  have c1 : w2.cell? ⟨w1.heap.size, 1, none⟩ = some (.int .i64 m) := (grew_cell hg hz1' (by intro e; cases e)).trans hcs.2.1
  have c2 : w2.cell? ⟨w1.heap.size, 2, none⟩ = some (.int .i64 d) := (grew_cell hg hz1' (by intro e; cases e)).trans hcs.2.2.1
  have c3 : w2.cell? ⟨w1.heap.size, 3, none⟩ = some (.int .i64 h) := (grew_cell hg hz1' (by intro e; cases e)).trans hcs.2.2.2.1
  have c4 : w2.cell? ⟨w1.heap.size, 4, none⟩ = some (.int .i64 n) := (grew_cell hg hz1' (by intro e; cases e)).trans hcs.2.2.2.2.1
  have c5 : w2.cell? ⟨w1.heap.size, 5, none⟩ = some (.int .i64 s) := (grew_cell hg hz1' (by intro e; cases e)).trans hcs.2.2.2.2.2
  have hlt2 : ∀ k, b.ownBlock = some k → w1.heap.size + 1 ≤ k ∧ k < w2.heap.size := ho.lt
  clear hcs hg hz1' hb
  by_cases q : y < 2050
  · have u1 : decide (2050 ≤ y) = false := by simp; omega
    have hT : encT y = 23 := by unfold encT; exact if_pos q
    have hE : encL (Dig.low 2 (y % 100)) m d h n s 5 ++ [90] = encC y m d h n s := by rw [encL_all]; unfold encC; rw [if_pos q]
    have HE := Lib.hid hE
    have HT := Lib.hid hT
    clear hT hE q
    go_wp2
    change Code.wp _ _ _ _ (w2.alloc (five m d h n s))
    have hfc : ∀ k, k < 5 → (w2.alloc (five m d h n s)).cell? ⟨w2.heap.size, k, none⟩ = some (.int .i64 (Dig.fld m d h n s k)) := fun k hk => five_cell m d h n s w2 k hk
    have hB2 : Below w.heap.size w (w2.alloc (five m d h n s)) := hb2.alloc (by have := hb2.size; omega) _
    have hzw : (w2.alloc (five m d h n s)).heap.size = w2.heap.size + 1 := by simp
    have ho2 : OwnB (w2.alloc (five m d h n s)) (w1.heap.size + 1) b (encL (Dig.low 2 (y % 100)) m d h n s 0) := ho.alloc _
    have hfb : ∀ k, 0 ≤ Dig.fld m d h n s k ∧ Dig.fld m d h n s k ≤ 9999 := by intro k; unfold Dig.fld; split <;> omega
    have hstep : ∀ k, encL (Dig.low 2 (y % 100)) m d h n s (k + 1) = encL (Dig.low 2 (y % 100)) m d h n s k ++ Dig.low 2 (Dig.fld m d h n s k) := fun _ => rfl
    have hlen : ∀ k, (encL (Dig.low 2 (y % 100)) m d h n s k).length = 2 + 2 * k := fun k => by rw [encL_length, Dig.low_length]
    clear hb2 c0 c1 c2 c3 c4 c5 ho
    generalize encL (Dig.low 2 (y % 100)) m d h n s = T at *
    generalize Dig.fld m d h n s = F at *
    generalize w2.alloc (five m d h n s) = W2 at *
    have HLEN := Lib.hid hlen
    have HSTEP := Lib.hid hstep
    have HZ2 := Lib.hid hzw
    clear hlen hstep hzw
    go_loopw [7, 40] (fun v i wr => ∃ k : Nat, k ≤ 5 ∧ i = .int .i64 k ∧ OwnB wr (w1.heap.size + 1) v (T k) ∧ Grew W2 b wr v) (fun _ i _ => 5 - (intOf i).toNat)
    case atStart => exact ⟨0, by omega, rfl, ho2, Grew.refl _ _⟩
    case round =>
      obtain ⟨k, hk, rfl, ho3, hg3⟩ := hrel
      by_cases hlt : k < 5
      · have hcell : wr.cell? ⟨w2.heap.size, k, none⟩ = some (.int .i64 (F k)) := (grew_cell hg3 (by have := HZ2.out; omega) (by intro e; have := (hlt2 _ e).2; omega)).trans (hfc k hlt)
        have hfk := hfb k
        have HST := Lib.hid (HSTEP.out k)
        have hlk : (T k).length ≤ 100 := by have := HLEN.out k; omega
        have hs4 : w1.heap.size + 1 ≤ wr.heap.size := by have := HZ2.out; have := hg3.grown.size; omega
        clear hfc hfb
        generalize F k = fk at *
        go_wp2_with fail
        go_at_call 32
        refine (put2 _ (T k) fk (w1.heap.size + 1) _ hs4 hfk.1 hfk.2 hlk ho3).mono ?_
        rintro e w4 ⟨v4, rfl, ho4, hg4⟩
        have R3 : OwnB w4 (w1.heap.size + 1) v4 (T (k + 1)) := by rw [HST.out]; exact ho4
        have R4 := hg3.trans hg4
        clear ho4 hg4
        go_wp2
        go_roundw
        case rel => exact ⟨k + 1, by omega, by go_num, R3, R4⟩
        case measure => simp [intOf]; omega
      · obtain rfl : k = 5 := by omega
        have hl5 := HLEN.out 5
        obtain ⟨g, cap, hv⟩ := ho3.pos (by omega)
        rw [hl5] at hv
        subst hv
        have hbk := bytes_back ho3 hl5
        have hBw : Below w.heap.size w wr := grew_below hB2 hg3 (by intro k hk; have := (hlt2 k hk).1; omega)
        have hWr := fun W => wrap_enc 23 (T 5) (by omega) W
        have hW' : wrapR 23 (T 5 ++ [90]) = .tuple #[.string (encE y m d h n s), .int .i64 0] := by have := HW.out; rw [HT.out] at this; rw [HE.out]; exact this
        rw [hW'] at hWr
        clear hl5 hW' hfc hfb
        generalize encE y m d h n s = E at *
        generalize (⟨(T 5).toArray⟩ : ByteArray) = S5 at *
        go_wp2_with fail
        go_at_call 34
        refine (hWr _).mono ?_
        rintro _ w5 ⟨rfl, hb5⟩
        have hBf := (hBw.alloc hBw.size (.cells #[.string S5, .string ⟨#[90]⟩] 9)).trans (hb5.mono (by have := hBw.size; simp; omega))
        clear hb5 hWr
        go_wp2
        go_ret2
        exact HF.out _ hBf
  · have u1 : decide (2050 ≤ y) = true := by simp; omega
    have hT : encT y = 24 := by unfold encT; exact if_neg q
    have hE : encL (Dig.low 4 y) m d h n s 5 ++ [90] = encC y m d h n s := by rw [encL_all]; unfold encC; rw [if_neg q]
    have HE := Lib.hid hE
    have HT := Lib.hid hT
    clear hT hE q
    go_wp2_with fail
    go_at_call 32
    refine (put4 _ [] y (w1.heap.size + 1) _ (by omega) (by omega) (by omega) (by simp) (OwnB.nil _ _)).mono ?_
    rintro e w3 ⟨b', rfl, ho', hg⟩
    rw [List.nil_append] at ho'
    have hb3 : Below w.heap.size w w3 := grew_below hb2 hg (by intro k hk; cases hk)
    have hs3 : w1.heap.size < w3.heap.size := by have := hg.grown.size; omega
    have c1' := (grew_cell hg hs2 (by intro e; cases e)).trans c1
    have c2' := (grew_cell hg hs2 (by intro e; cases e)).trans c2
    have c3' := (grew_cell hg hs2 (by intro e; cases e)).trans c3
    have c4' := (grew_cell hg hs2 (by intro e; cases e)).trans c4
    have c5' := (grew_cell hg hs2 (by intro e; cases e)).trans c5
    have hlt3 : ∀ k, b'.ownBlock = some k → w1.heap.size + 1 ≤ k ∧ k < w3.heap.size := ho'.lt
    clear c0 c1 c2 c3 c4 c5 hlt2 ho hb2 hs2 hg
    go_wp2
    change Code.wp _ _ _ _ (w3.alloc (five m d h n s))
    have hfc : ∀ k, k < 5 → (w3.alloc (five m d h n s)).cell? ⟨w3.heap.size, k, none⟩ = some (.int .i64 (Dig.fld m d h n s k)) := fun k hk => five_cell m d h n s w3 k hk
    have hB2 : Below w.heap.size w (w3.alloc (five m d h n s)) := hb3.alloc (by have := hb3.size; omega) _
    have hzw : (w3.alloc (five m d h n s)).heap.size = w3.heap.size + 1 := by simp
    have ho2 : OwnB (w3.alloc (five m d h n s)) (w1.heap.size + 1) b' (encL (Dig.low 4 y) m d h n s 0) := ho'.alloc _
    have hfb : ∀ k, 0 ≤ Dig.fld m d h n s k ∧ Dig.fld m d h n s k ≤ 9999 := by intro k; unfold Dig.fld; split <;> omega
    have hstep : ∀ k, encL (Dig.low 4 y) m d h n s (k + 1) = encL (Dig.low 4 y) m d h n s k ++ Dig.low 2 (Dig.fld m d h n s k) := fun _ => rfl
    have hlen : ∀ k, (encL (Dig.low 4 y) m d h n s k).length = 4 + 2 * k := fun k => by rw [encL_length, Dig.low_length]
    clear hb3 c1' c2' c3' c4' c5' ho'
    generalize encL (Dig.low 4 y) m d h n s = T at *
    generalize Dig.fld m d h n s = F at *
    generalize w3.alloc (five m d h n s) = W2 at *
    have HLEN := Lib.hid hlen
    have HSTEP := Lib.hid hstep
    have HZ2 := Lib.hid hzw
    clear hlen hstep hzw
    go_loopw [7, 40] (fun v i wr => ∃ k : Nat, k ≤ 5 ∧ i = .int .i64 k ∧ OwnB wr (w1.heap.size + 1) v (T k) ∧ Grew W2 b' wr v) (fun _ i _ => 5 - (intOf i).toNat)
    case atStart => exact ⟨0, by omega, rfl, ho2, Grew.refl _ _⟩
    case round =>
      obtain ⟨k, hk, rfl, ho3, hg3⟩ := hrel
      by_cases hlt : k < 5
      · have hcell : wr.cell? ⟨w3.heap.size, k, none⟩ = some (.int .i64 (F k)) := (grew_cell hg3 (by have := HZ2.out; omega) (by intro e; have := (hlt3 _ e).2; omega)).trans (hfc k hlt)
        have hfk := hfb k
        have HST := Lib.hid (HSTEP.out k)
        have hlk : (T k).length ≤ 100 := by have := HLEN.out k; omega
        have hs4 : w1.heap.size + 1 ≤ wr.heap.size := by have := HZ2.out; have := hg3.grown.size; omega
        clear hfc hfb
        generalize F k = fk at *
        go_wp2_with fail
        go_at_call 32
        refine (put2 _ (T k) fk (w1.heap.size + 1) _ hs4 hfk.1 hfk.2 hlk ho3).mono ?_
        rintro e w4 ⟨v4, rfl, ho4, hg4⟩
        have R3 : OwnB w4 (w1.heap.size + 1) v4 (T (k + 1)) := by rw [HST.out]; exact ho4
        have R4 := hg3.trans hg4
        clear ho4 hg4
        go_wp2
        go_roundw
        case rel => exact ⟨k + 1, by omega, by go_num, R3, R4⟩
        case measure => simp [intOf]; omega
      · obtain rfl : k = 5 := by omega
        have hl5 := HLEN.out 5
        obtain ⟨g, cap, hv⟩ := ho3.pos (by omega)
        rw [hl5] at hv
        subst hv
        have hbk := bytes_back ho3 hl5
        have hBw : Below w.heap.size w wr := grew_below hB2 hg3 (by intro k hk; have := (hlt3 k hk).1; omega)
        have hWr := fun W => wrap_enc 24 (T 5) (by omega) W
        have hW' : wrapR 24 (T 5 ++ [90]) = .tuple #[.string (encE y m d h n s), .int .i64 0] := by have := HW.out; rw [HT.out] at this; rw [HE.out]; exact this
        rw [hW'] at hWr
        clear hl5 hW' hfc hfb
        generalize encE y m d h n s = E at *
        generalize (⟨(T 5).toArray⟩ : ByteArray) = S5 at *
        go_wp2_with fail
        go_at_call 34
        refine (hWr _).mono ?_
        rintro _ w5 ⟨rfl, hb5⟩
        have hBf := (hBw.alloc hBw.size (.cells #[.string S5, .string ⟨#[90]⟩] 9)).trans (hb5.mono (by have := hBw.size; simp; omega))
        clear hb5 hWr
        go_wp2
        go_ret2
        exact HF.out _ hBf

end Go.Proofs.YtmmoimemfdbfgaaDoor
