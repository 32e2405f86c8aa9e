/-
  made2.Entries.
-/
import Derived.Test.YtpagoinnkknkfaaPbEntry
namespace Go.Proofs.Ytpagoinnkknkfaa.Pb
open Go Go.RowKit Go.Shelf Go.Proofs.Ytpagoinnkknkfaa.Slc
set_option linter.unusedVariables false
set_option linter.unusedSimpArgs false
attribute [local go_sem] Oper.semAt_some

/-- entries that the call owns, their issuers in blocks from B on -/
structure EN (w : World) (B : Nat) (v : Value) (l : List Et) : Prop where
  own : Go.Proofs.Ytpagoinnkknkfaa.Slc.Own w B 44 5 encE v l
  nm : ∀ x ∈ l, EtIn w (fun k => B ≤ k ∧ v.ownBlock ≠ some k) x
theorem EN.el {w : World} {B : Nat} {v : Value} {l : List Et} (h : EN w B v l) : EL w v l := ⟨h.own.rd, fun x hx => (h.nm x hx).at_⟩
theorem EN.below {w w' : World} {B : Nat} {v : Value} {l : List Et} (h : EN w B v l) (hb : Below w.heap.size w w') : EN w' B v l := ⟨h.own.below hb, fun x hx => (h.nm x hx).below hb⟩
theorem EN.grow {w w' : World} {B g : Nat} {v : Value} {l : List Et} (h : EN w B v l) (hg : w.grownBy w' (some g)) (hgB : g < B) : EN w' B v l :=
  ⟨own_grown h.own hg hgB, fun x hx => (h.nm x hx).keep hg.size fun k hk hlt => hg.block k hlt fun e => by simp only [Option.some.injEq] at e; have := hk.1; omega⟩
theorem EN.nil (w : World) (B : Nat) : EN w B (.slice none 0 0) [] := ⟨Go.Proofs.Ytpagoinnkknkfaa.Slc.Own.nil _ _, fun x hx => by cases hx⟩
theorem EN.apd {w w' : World} {B a b : Nat} {v v' : Value} {l m : List Et} {xs news : List Value} (h : EN w B v l) (hB : B ≤ w.heap.size) (hm : ∀ x ∈ m, EtIn w (fun k => B ≤ k ∧ v.ownBlock ≠ some k) x) (hx : xs = l.flatMap encE) (hy : news = m.flatMap encE) (ha : a = l.length) (hb : b = m.length) (h' : Apd w B 44 5 v a b xs news v' w') : EN w' B v' (l ++ m) := by
  have key : ∀ x, EtIn w (fun k => B ≤ k ∧ v.ownBlock ≠ some k) x → EtIn w' (fun k => B ≤ k ∧ v'.ownBlock ≠ some k) x := by
    intro x hx
    refine EtIn.mono (S := fun k => (B ≤ k ∧ v.ownBlock ≠ some k) ∧ k < w.heap.size) ((hx.mono fun k hk h1 => ⟨h1, hk⟩).keep h'.grown.size fun k hk hlt => h'.grown.block k hlt fun e => hk.1.2 e.symm) ?_
    intro k _ hk
    refine ⟨hk.1.1, fun e => ?_⟩
    rcases h'.blk with q | q
    · exact hk.1.2 (by rw [← q]; exact e)
    · rw [q] at e; simp only [Option.some.injEq] at e; omega
  refine ⟨h.own.apd hx hy ha hb h', fun x hx => ?_⟩
  rcases List.mem_append.1 hx with q | q
  · exact key x (h.nm x q)
  · exact key x (hm x q)
/-- what plain entries are -/
def Plain (l : List Et) : Prop := nd (ens l) ∧ ∀ x ∈ l, x.e.r ≠ 8
structure EnOk (plain : Bool) (l : List Et) : Prop where
  s5 : ∀ x ∈ l, 1 ≤ x.e.s ∧ x.e.s ≤ 5
  i4 : ∀ x ∈ l, Is4 x.e.iss
  pl : plain = true → Plain l
theorem EnOk.nil (plain : Bool) : EnOk plain [] := ⟨fun x hx => (by cases hx), fun x hx => (by cases hx), fun _ => ⟨by unfold nd; simp [ens], fun x hx => by cases hx⟩⟩
theorem EnOk.snocF {l : List Et} (h : EnOk false l) (x : Et) (hx : (1 ≤ x.e.s ∧ x.e.s ≤ 5) ∧ Is4 x.e.iss) : EnOk false (l ++ [x]) :=
  ⟨fun y hy => (List.mem_append.1 hy).elim (h.s5 y) fun q => by rw [List.mem_singleton] at q; subst q; exact hx.1, fun y hy => (List.mem_append.1 hy).elim (h.i4 y) fun q => by rw [List.mem_singleton] at q; subst q; exact hx.2, fun e => by cases e⟩
theorem EnOk.snocT {l : List Et} {plain : Bool} (h : EnOk plain l) (x : Et) (hx : (1 ≤ x.e.s ∧ x.e.s ≤ 5) ∧ Is4 x.e.iss) (h8 : x.e.r ≠ 8) (hd : dupE (ens (l ++ [x])) = false) : EnOk plain (l ++ [x]) :=
  ⟨fun y hy => (List.mem_append.1 hy).elim (h.s5 y) fun q => by rw [List.mem_singleton] at q; subst q; exact hx.1,
   fun y hy => (List.mem_append.1 hy).elim (h.i4 y) fun q => by rw [List.mem_singleton] at q; subst q; exact hx.2,
   fun e => ⟨(dup_iff _).1 hd, fun y hy => (List.mem_append.1 hy).elim ((h.pl e).2 y) fun q => by rw [List.mem_singleton] at q; subst q; exact h8⟩⟩
/-- the state of the loop beside the entry that has been drawn -/
structure ESt (W0 : World) (v : Value) (zs : List Int) (w : World) (g : Nat) (hv : Value) (out : List Et) (wr : World) : Prop where
  en : EN wr w.heap.size hv out
  dk : Deck W0 v zs wr g
  gr : w.grownBy wr (some g)
theorem ESt.below {W0 : World} {v : Value} {zs : List Int} {w : World} {g : Nat} {hv : Value} {out : List Et} {wr w' : World} (h : ESt W0 v zs w g hv out wr) (hb : Below wr.heap.size wr w') : ESt W0 v zs w g hv out w' :=
  ⟨h.en.below hb, h.dk.below hb, h.gr.trans (grown_below hb)⟩
theorem ESt.grow {W0 : World} {v : Value} {zs : List Int} {w : World} {g : Nat} {hv : Value} {out : List Et} {wr w' : World} (h : ESt W0 v zs w g hv out wr) (hg : wr.grownBy w' (some g)) (hd : Deck W0 v zs w' g) (hgl : g < w.heap.size) : ESt W0 v zs w g hv out w' :=
  ⟨h.en.grow hg hgl, hd, h.gr.trans hg⟩
theorem ESt.set {W0 : World} {v : Value} {zs : List Int} {w : World} {g q i : Nat} {hv : Value} {out : List Et} {wr : World} {u : Value} (h : ESt W0 v zs w g hv out wr) (hq : w.heap.size ≤ q) (hgl : g < w.heap.size) (hne : hv.ownBlock ≠ some q) (hnm : ∀ x ∈ out, EtIn wr (fun k => (w.heap.size ≤ k ∧ hv.ownBlock ≠ some k) ∧ k ≠ q) x) : ESt W0 v zs w g hv out (wr.setCell ⟨q, i, none⟩ u) := by
  have hh : ∀ k, k ≠ q → (wr.setCell ⟨q, i, none⟩ u).heap[k]? = wr.heap[k]? := fun k hk => Below.heap_setCell wr ⟨q, i, none⟩ u k (fun e => hk (by simpa using e))
  refine ⟨⟨h.en.own.keep fun k hk _ => hh k fun e => hne (by rw [← e]; exact hk), fun x hx => ?_⟩, deck_set h.dk (by omega) (by have := h.dk.ge; omega), grown_new h.gr hq _ _⟩
  exact ((hnm x hx).keep (by simp [World.setCell]) fun k hk _ => hh k hk.2).mono fun k _ hk => hk.1
set_option maxRecDepth 100000 in
set_option maxHeartbeats 8000000 in
theorem made_any (W0 : World) (v : Value) (zs : List Int) (w : World) (g n : Nat) (plain : Bool) (h : Deck W0 v zs w g) (hn : n ≤ 1000) :
    Calls Try.prog 24 #[.pointer (some ⟨g, 0, none⟩), .int .i64 n, .bool plain] w fun e w' => ∃ (rv : Value) (out : List Et), e = .returned rv ∧ EN w' w.heap.size rv out ∧ out.length ≤ n ∧ EnOk plain out ∧ Deck W0 v zs w' g ∧ w.grownBy w' (some g) := by
  obtain ⟨i0, hi0, hz0, hz1, hz2⟩ := info_parts info_entry
  have hgl := h.lt
  have hw0 := h.bel.size
  have hnx := next_any W0 v zs w g ((n : Int) + 1) h (by omega) (by omega)
  go_enter Try.func24, Try.ntmps24
  go_wp2_with fail
  refine hnx.mono ?_
  rintro e w1 ⟨r, rfl, a1, b1, hD1, hg1⟩
  have HS1 := Bx.mk (show ESt W0 v zs w g (.slice none 0 0) [] w1 from ⟨EN.nil _ _, hD1, hg1⟩)
  clear hnx hD1 hg1 h
  go_wp2_with fail
  go_loopw [7, 8] (fun hv i wr => ∃ (k : Int) (out : List Et), 0 ≤ k ∧ i = .int .i64 k ∧ out.length + k ≤ n ∧ ESt W0 v zs w g hv out wr ∧ Bx (EnOk plain out)) (fun _ i _ => (intOf i).toNat)
  case atStart => exact ⟨r, [], a1, rfl, by simp; omega, HS1.out, ⟨EnOk.nil _⟩⟩
  case round =>
    obtain ⟨k, out, hk, rfl, hlen, hS, hP⟩ := hrel
    have hO := hS.en.own
    obtain ⟨av, cv, rfl, -⟩ := hO.rd.form
    have HLEN := Bx.mk hlen
    by_cases hlt : 0 < k
    · have tk : decide (k > 0) = true := decide_eq_true hlt
      have tk2 : decide (0 < k) = true := decide_eq_true hlt
      have hwk : IntKind.i64.wrap (k - 1) = k - 1 := IntWalk.i64_in _ (by omega)
      have hen := entry_any W0 v zs wr g hS.dk
      have HS := Bx.mk hS
      have hsz : w.heap.size ≤ wr.heap.size := hS.gr.size
      clear hO hS hlen
      go_upto_if 22 with fail
      refine hen.mono ?_
      rintro e w2 ⟨⟨e, ⟨ua, un, uc⟩⟩, rfl, hin, hs5, hD2, hg2⟩
      clear hen
      obtain ⟨W3, hW3⟩ : ∃ W3, W3 = w2.alloc (.cells #[.int .i64 e.s, .int .i64 e.t, .int .i64 e.r, .int .i64 e.v, .slice ua un uc] 44) := ⟨_, rfl⟩
      have hb3 : Below w2.heap.size w2 W3 := by rw [hW3]; exact (Below.refl _ _).alloc (Nat.le_refl _) _
      have hq3 : W3.heap[w2.heap.size]? = some (.cells #[.int .i64 e.s, .int .i64 e.t, .int .i64 e.r, .int .i64 e.v, .slice ua un uc] 44 (0, 0)) := by rw [hW3]; exact heap_alloc_new _ _
      have HS2 := Bx.mk (HS.out.grow hg2 hD2 hgl)
      have HS3 := Bx.mk (HS2.out.below hb3)
      have HQ3 := Bx.mk hq3
      have hsz2 := hg2.size
      have HOB := Bx.mk (show ∀ b, (Value.slice av out.length cv).ownBlock = some b → b < wr.heap.size from fun b hb => (HS.out.en.own.lt b hb).2)
      have HIN3 := Bx.mk (show EtIn W3 (fun k => (w.heap.size ≤ k ∧ (Value.slice av out.length cv).ownBlock ≠ some k) ∧ k ≠ w2.heap.size) ⟨e, ⟨ua, un, uc⟩⟩ from ((hin.mono (S' := fun k => wr.heap.size < k ∧ k < w2.heap.size) fun k hk h => ⟨h, hk⟩).below hb3).mono fun k _ hk => ⟨⟨by omega, fun e => by have := HOB.out k e; omega⟩, by omega⟩)
      have HNM3 := Bx.mk (show ∀ x ∈ out, EtIn W3 (fun k => (w.heap.size ≤ k ∧ (Value.slice av out.length cv).ownBlock ≠ some k) ∧ k ≠ w2.heap.size) x from fun x hx => (((HS2.out.en.nm x hx).mono (S' := fun k => (w.heap.size ≤ k ∧ (Value.slice av out.length cv).ownBlock ≠ some k) ∧ k < w2.heap.size) fun k hk h => ⟨h, hk⟩).below hb3).mono fun k _ hk => ⟨hk.1, by omega⟩)
      have HS5 := Bx.mk hs5
      have HEV := Bx.mk (show ∀ r' : Int, (encE ⟨⟨e.s, e.t, r', e.v, e.iss⟩, ⟨ua, un, uc⟩⟩).toArray = #[.int .i64 e.s, .int .i64 e.t, .int .i64 r', .int .i64 e.v, .slice ua un uc] from fun _ => rfl)
      have HEE := Bx.mk (show (⟨e.s, e.t, e.r, e.v, e.iss⟩ : En) = e from rfl)
      clear hin hD2 hg2 hb3 hq3 hs5
      have HENV := Bx.mk (show entV ⟨e, ⟨ua, un, uc⟩⟩ = .agg #[.int .i64 e.s, .int .i64 e.t, .int .i64 e.r, .int .i64 e.v, .slice ua un uc] from rfl)
      rw [HENV.out]
      clear HENV
      go_upto_if 22 with fail
      rw [← hW3]
      clear hW3
      obtain ⟨q, hq⟩ : ∃ q, q = w2.heap.size := ⟨_, rfl⟩
      rw [← hq] at HQ3 HIN3 HNM3 ⊢
      have hqw : w.heap.size ≤ q := by omega
      have HQB := Bx.mk (show (Value.slice av out.length cv).ownBlock ≠ some q from fun h => by have := HOB.out q h; omega)
      clear hq
      cases plain with
      | false =>
        have hqa := HQ3.out
        have m0 := cell_of_row _ _ 0 _ _ _ hqa
        have m1 := cell_of_row _ _ 1 _ _ _ hqa
        have m2 := cell_of_row _ _ 2 _ _ _ hqa
        have m3 := cell_of_row _ _ 3 _ _ _ hqa
        have m4 := cell_of_row _ _ 4 _ _ _ hqa
        simp only [List.getElem?_toArray, List.getElem?_cons_zero, List.getElem?_cons_succ] at m0 m1 m2 m3 m4
        have hba : Below W3.heap.size W3 (W3.alloc (.cells #[.int .i64 e.s, .int .i64 e.t, .int .i64 e.r, .int .i64 e.v, .slice ua un uc] 44)) := (Below.refl _ _).alloc (Nat.le_refl _) _
        have HSA := Bx.mk (HS3.out.below hba)
        have HIA := Bx.mk ((HIN3.out.mono (S' := fun k => w.heap.size ≤ k ∧ (Value.slice av out.length cv).ownBlock ≠ some k) fun k _ hk => hk.1).below hba)
        have hsrc : SrcV (W3.alloc (.cells #[.int .i64 e.s, .int .i64 e.t, .int .i64 e.r, .int .i64 e.v, .slice ua un uc] 44)) 5 (.slice (some ⟨W3.heap.size, 0, none⟩) 1 1) 1 ([(⟨⟨e.s, e.t, e.r, e.v, e.iss⟩, ⟨ua, un, uc⟩⟩ : Et)].flatMap encE) := src_new encE_ok (by rw [heap_alloc_new, HEV.out])
        have hsz7 : w.heap.size ≤ (W3.alloc (.cells #[.int .i64 e.s, .int .i64 e.t, .int .i64 e.r, .int .i64 e.v, .slice ua un uc] 44)).heap.size := HSA.out.gr.size
        have hm1 : out.length + 1 ≤ maxLen := by have := HLEN.out; unfold maxLen; omega
        have hm2 : (out.length + 1) * 56 ≤ 140737488355328 := by have := HLEN.out; omega
        have HOWN := Bx.mk HSA.out.en.own
        have HOK := Bx.mk (show EnOk _ (out ++ [(⟨⟨e.s, e.t, e.r, e.v, e.iss⟩, ⟨ua, un, uc⟩⟩ : Et)]) from hP.out.snocF _ HS5.out)
        clear hqa hba
        go_wp2_with (refine wpList_append_any rfl _ _ _ rfl w.heap.size 44 i0 _ 5 56 und_entries hi0 hz0 hz1 hz2 rfl (by decide) _ out.length (out.flatMap encE) rfl HOWN.out _ 1 ([(⟨⟨e.s, e.t, e.r, e.v, e.iss⟩, ⟨ua, un, uc⟩⟩ : Et)].flatMap encE) rfl hsrc hm1 hm2 hsz7 ?_)
        intro v9 w9 hapd
        have hbb : Below w.heap.size (W3.alloc (.cells #[.int .i64 e.s, .int .i64 e.t, .int .i64 e.r, .int .i64 e.v, .slice ua un uc] 44)) w9 := (Below.refl _ _).grown hapd.grown hsz7 (fun k hk => (HOWN.out.lt k hk).1)
        have HS9 := Bx.mk (show ESt W0 v zs w g v9 (out ++ [(⟨⟨e.s, e.t, e.r, e.v, e.iss⟩, ⟨ua, un, uc⟩⟩ : Et)]) w9 from ⟨HSA.out.en.apd hsz7 (fun y hy => by rw [List.mem_singleton] at hy; subst hy; exact HIA.out) rfl rfl rfl rfl hapd, deck_keep HSA.out.dk hbb hgl hw0, ⟨hbb.os.trans HSA.out.gr.os, hbb.tape.trans HSA.out.gr.tape, hbb.output.trans HSA.out.gr.output, Nat.le_trans HSA.out.gr.size hbb.size, fun k hk hne => (hbb.block k hk).trans (HSA.out.gr.block k hk hne)⟩⟩)
        clear hapd hsrc hbb hm1 hm2 m0 m1 m2 m3 m4 HSA HIA HOWN
        go_wp2
        go_roundw
        case rel => exact ⟨k - 1, out ++ [(⟨⟨e.s, e.t, e.r, e.v, e.iss⟩, ⟨ua, un, uc⟩⟩ : Et)], by omega, by go_num, by have := HLEN.out; simp; omega, HS9.out, HOK⟩
        case measure => simp [intOf]; omega
      | true =>
        have hq3 := HQ3.out
        have m2 := cell_of_row _ _ 2 _ _ _ hq3
        have fr2 := frozen_row (i := 2) hq3
        simp only [List.getElem?_toArray, List.getElem?_cons_zero, List.getElem?_cons_succ] at m2
        clear hq3
        go_upto_if 25 with fail
        go_cut [25] (fun s wc => ∃ r' : Int, r' ≠ 8 ∧ wc.heap[q]? = some (.cells #[.int .i64 e.s, .int .i64 e.t, .int .i64 r', .int .i64 e.v, .slice ua un uc] 44 (0, 0)) ∧ ESt W0 v zs w g (.slice av out.length cv) out wc ∧ EtIn wc (fun k => (w.heap.size ≤ k ∧ (Value.slice av out.length cv).ownBlock ≠ some k)) ⟨⟨e.s, e.t, r', e.v, e.iss⟩, ⟨ua, un, uc⟩⟩ ∧ s = s)
        case first =>
          by_cases h8 : e.r = 8
          · have t8 : (e.r == 8) = true := by simpa using h8
            clear h8
            go_wp2_with fail
            go_meet
            refine ⟨1, by decide, row_set HQ3.out _, HS3.out.set hqw hgl HQB.out HNM3.out, ⟨((HIN3.out.1.keep (by simp [World.setCell]) fun k hk _ => Below.heap_setCell _ ⟨q, 2, none⟩ _ k (fun e => hk.2 (by simpa using e))).mono fun k _ hk => hk.1), HIN3.out.2⟩, trivial⟩
          · have t8 : (e.r == 8) = false := by simpa using h8
            go_wp2_with fail
            go_meet
            exact ⟨e.r, h8, HQ3.out, HS3.out, HIN3.out.mono fun k _ hk => hk.1, trivial⟩
        case rest =>
        obtain ⟨r', hr8, hqc, hSc, hIc, -⟩ := hcut
        clear m2 fr2 HS3 HIN3 HNM3 HQ3 HS2 HS
        obtain ⟨W4, hW4⟩ : ∃ W4, W4 = wc := ⟨_, rfl⟩
        subst hW4
        have hqa := hqc
        have m0 := cell_of_row _ _ 0 _ _ _ hqa
        have m1 := cell_of_row _ _ 1 _ _ _ hqa
        have m2 := cell_of_row _ _ 2 _ _ _ hqa
        have m3 := cell_of_row _ _ 3 _ _ _ hqa
        have m4 := cell_of_row _ _ 4 _ _ _ hqa
        simp only [List.getElem?_toArray, List.getElem?_cons_zero, List.getElem?_cons_succ] at m0 m1 m2 m3 m4
        obtain ⟨W5, hW5⟩ : ∃ W5, W5 = (W4.alloc (.cells #[.int .i64 e.s, .int .i64 e.t, .int .i64 r', .int .i64 e.v, .slice ua un uc] 44)).alloc (.cells #[.slice av out.length cv, .slice (some ⟨W4.heap.size, 0, none⟩) 1 1] 40) := ⟨_, rfl⟩
        have hb5 : Below W4.heap.size W4 W5 := by rw [hW5]; exact ((Below.refl _ _).alloc (Nat.le_refl _) _).alloc (by simp) _
        have hx5 : W5.heap[W4.heap.size]? = some (.cells (encE ⟨⟨e.s, e.t, r', e.v, e.iss⟩, ⟨ua, un, uc⟩⟩).toArray 44 (0, 0)) := by rw [hW5, HEV.out]; exact alloc_keep (heap_alloc_new _ _)
        have hy5 : W5.heap[W4.heap.size + 1]? = some (.cells #[.slice av out.length cv, .slice (some ⟨W4.heap.size, 0, none⟩) 1 1] 40 (0, 0)) := by rw [hW5]; exact alloc_at (by simp)
        have hl1 : EL W5 (.slice (some ⟨W4.heap.size, 0, none⟩) 1 1) [(⟨⟨e.s, e.t, r', e.v, e.iss⟩, ⟨ua, un, uc⟩⟩ : Et)] := ⟨rd_row (z := 5) (t := 44) rfl (by rw [List.flatMap_cons, List.flatMap_nil, List.append_nil]; exact hx5), fun y hy => by rw [List.mem_singleton] at hy; subst hy; exact (hIc.below hb5).at_⟩
        have hmg := rmerge_any W5 _ [out, [(⟨⟨e.s, e.t, r', e.v, e.iss⟩, ⟨ua, un, uc⟩⟩ : Et)]] (two_slices (a := ⟨av, out.length, cv⟩) (b := ⟨some ⟨W4.heap.size, 0, none⟩, 1, 1⟩) hy5 (hSc.en.el.below hb5) hl1) (by simp) (by have := HLEN.out; unfold lens; simp; omega)
        have hfl : ens [out, [(⟨⟨e.s, e.t, r', e.v, e.iss⟩, ⟨ua, un, uc⟩⟩ : Et)]].flatten = ens (out ++ [(⟨⟨e.s, e.t, r', e.v, e.iss⟩, ⟨ua, un, uc⟩⟩ : Et)]) := by simp
        rw [hfl] at hmg
        have HSC5 := Bx.mk (hSc.below hb5)
        have HIC5 := Bx.mk (hIc.below hb5)
        have HQC5 := Bx.mk ((hb5.block q (lt_of_block hqc)).trans hqc)
        clear hqa hb5 hx5 hy5 hl1 hfl hSc hIc hqc
        unfold mergeE at hmg
        generalize hdup : dupE (ens (out ++ [(⟨⟨e.s, e.t, r', e.v, e.iss⟩, ⟨ua, un, uc⟩⟩ : Et)])) = D at hmg
        have HDUP := Bx.mk hdup
        clear hdup
        cases D with
        | true =>
          rw [if_pos rfl] at hmg
          go_wp2_with fail
          rw [← hW5]
          clear hW5
          refine hmg.mono ?_
          rintro e' w6 ⟨mv, ml, rfl, -, -, hb6⟩
          have HS6 := Bx.mk (HSC5.out.below hb6)
          clear hmg hb6 m0 m1 m2 m3 m4
          go_wp2
          go_roundw
          case rel => exact ⟨k - 1, out, by omega, by go_num, by have := HLEN.out; omega, HS6.out, hP⟩
          case measure => simp [intOf]; omega
        | false =>
          rw [if_neg (by decide)] at hmg
          go_wp2_with fail
          rw [← hW5]
          clear hW5
          refine hmg.mono ?_
          rintro e' w6 ⟨mv, ml, rfl, -, -, hb6⟩
          have HS6 := Bx.mk (HSC5.out.below hb6)
          have HI6 := Bx.mk (HIC5.out.below hb6)
          have HQ6 := Bx.mk ((hb6.block q (lt_of_block HQC5.out)).trans HQC5.out)
          clear hmg hb6 m0 m1 m2 m3 m4 HSC5 HIC5 HQC5
          have hqa := HQ6.out
          have m0 := cell_of_row _ _ 0 _ _ _ hqa
          have m1 := cell_of_row _ _ 1 _ _ _ hqa
          have m2 := cell_of_row _ _ 2 _ _ _ hqa
          have m3 := cell_of_row _ _ 3 _ _ _ hqa
          have m4 := cell_of_row _ _ 4 _ _ _ hqa
          simp only [List.getElem?_toArray, List.getElem?_cons_zero, List.getElem?_cons_succ] at m0 m1 m2 m3 m4
          have hba : Below w6.heap.size w6 (w6.alloc (.cells #[.int .i64 e.s, .int .i64 e.t, .int .i64 r', .int .i64 e.v, .slice ua un uc] 44)) := (Below.refl _ _).alloc (Nat.le_refl _) _
          have HSA := Bx.mk (HS6.out.below hba)
          have HIA := Bx.mk (HI6.out.below hba)
          have hsrc : SrcV (w6.alloc (.cells #[.int .i64 e.s, .int .i64 e.t, .int .i64 r', .int .i64 e.v, .slice ua un uc] 44)) 5 (.slice (some ⟨w6.heap.size, 0, none⟩) 1 1) 1 ([(⟨⟨e.s, e.t, r', e.v, e.iss⟩, ⟨ua, un, uc⟩⟩ : Et)].flatMap encE) := src_new encE_ok (by rw [heap_alloc_new, HEV.out])
          have hsz7 : w.heap.size ≤ (w6.alloc (.cells #[.int .i64 e.s, .int .i64 e.t, .int .i64 r', .int .i64 e.v, .slice ua un uc] 44)).heap.size := HSA.out.gr.size
          have hm1 : out.length + 1 ≤ maxLen := by have := HLEN.out; unfold maxLen; omega
          have hm2 : (out.length + 1) * 56 ≤ 140737488355328 := by have := HLEN.out; omega
          have HOWN := Bx.mk HSA.out.en.own
          have HOK := Bx.mk (show EnOk _ (out ++ [(⟨⟨e.s, e.t, r', e.v, e.iss⟩, ⟨ua, un, uc⟩⟩ : Et)]) from hP.out.snocT _ HS5.out hr8 HDUP.out)
          clear hqa hba
          go_wp2_with (refine wpList_append_any rfl _ _ _ rfl w.heap.size 44 i0 _ 5 56 und_entries hi0 hz0 hz1 hz2 rfl (by decide) _ out.length (out.flatMap encE) rfl HOWN.out _ 1 ([(⟨⟨e.s, e.t, r', e.v, e.iss⟩, ⟨ua, un, uc⟩⟩ : Et)].flatMap encE) rfl hsrc hm1 hm2 hsz7 ?_)
          intro v9 w9 hapd
          have hbb : Below w.heap.size (w6.alloc (.cells #[.int .i64 e.s, .int .i64 e.t, .int .i64 r', .int .i64 e.v, .slice ua un uc] 44)) w9 := (Below.refl _ _).grown hapd.grown hsz7 (fun k hk => (HOWN.out.lt k hk).1)
          have HS9 := Bx.mk (show ESt W0 v zs w g v9 (out ++ [(⟨⟨e.s, e.t, r', e.v, e.iss⟩, ⟨ua, un, uc⟩⟩ : Et)]) w9 from ⟨HSA.out.en.apd hsz7 (fun y hy => by rw [List.mem_singleton] at hy; subst hy; exact HIA.out) rfl rfl rfl rfl hapd, deck_keep HSA.out.dk hbb hgl hw0, ⟨hbb.os.trans HSA.out.gr.os, hbb.tape.trans HSA.out.gr.tape, hbb.output.trans HSA.out.gr.output, Nat.le_trans HSA.out.gr.size hbb.size, fun k hk hne => (hbb.block k hk).trans (HSA.out.gr.block k hk hne)⟩⟩)
          clear hapd hsrc hbb hm1 hm2 m0 m1 m2 m3 m4 HSA HIA HOWN
          go_wp2
          go_roundw
          case rel => exact ⟨k - 1, out ++ [(⟨⟨e.s, e.t, r', e.v, e.iss⟩, ⟨ua, un, uc⟩⟩ : Et)], by omega, by go_num, by have := HLEN.out; simp; omega, HS9.out, HOK⟩
          case measure => simp [intOf]; omega
    · have tk : decide (k > 0) = false := decide_eq_false hlt
      have tk2 : decide (0 < k) = false := decide_eq_false hlt
      have HE := Bx.mk hS
      have hlf : out.length ≤ n := by omega
      clear hO hS
      go_wp2_with fail
      go_ret
      exact ⟨_, rfl, out, HE.out.en, hlf, hP.out, HE.out.dk, HE.out.gr⟩
end Go.Proofs.Ytpagoinnkknkfaa.Pb
