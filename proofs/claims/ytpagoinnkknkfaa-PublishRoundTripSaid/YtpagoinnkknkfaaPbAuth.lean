/-
  made.Authority, and the digit it writes. (Written by wip/gen/gen_pbau.py.)
-/
import Derived.Test.YtpagoinnkknkfaaPbRFol
import Derived.Test.YtpagoinnkknkfaaPbComb
namespace Go.Proofs.Ytpagoinnkknkfaa.Pb
open Go Go.RowKit Go.Shelf Go.Proofs.Ytpagoinnkknkfaa.Slc
set_option linter.unusedVariables false
set_option linter.unusedSimpArgs false
attribute [local go_sem] Oper.semAt_some

def ATO : Attr := ⟨[50, 46, 53, 46, 52, 46, 49, 48], 19, []⟩
def authA (i : Nat) : Attr := ⟨[50, 46, 53, 46, 52, 46, 49, 48], 19, (if 8 ≤ i % 16 then [32, 99, 97, 32, 32] else [67, 65, 32]) ++ [UInt8.ofNat (48 + i % 8 / 2)]⟩
def unitA : Attr := ⟨[50, 46, 53, 46, 52, 46, 49, 49], 12, [85, 110, 105, 116]⟩
def authN (i : Nat) : Nm := authA i :: if i % 2 = 1 then [unitA] else []
theorem alloc_at {w : World} {c : Array Value} {t : TypeId} {n : Nat} (hn : n = w.heap.size) : (w.alloc (.cells c t)).heap[n]? = some (.cells c t (0, 0)) := by
  subst hn; exact heap_alloc_new _ _
theorem bcat (l r : List UInt8) : (⟨l.toArray⟩ : ByteArray) ++ ⟨r.toArray⟩ = bstr (l ++ r) := by
  apply ByteArray.ext
  simp [bstr]
theorem lt_of_some {w : World} {k : Nat} {ob : Obj} (h : w.heap[k]? = some ob) : k < w.heap.size := by
  rcases Nat.lt_or_ge k w.heap.size with q | q
  · exact q
  · rw [Array.getElem?_eq_none q] at h; cases h
theorem rdIn_one {α : Type} {w : World} {S : Nat → Prop} {enc : α → List Value} {z : Nat} (E : Enc z enc) {b : Nat} {t : TypeId} {x : α} (h : w.heap[b]? = some (.cells (enc x).toArray t (0, 0))) (hS : S b) : RdIn w S enc (.slice (some ⟨b, 0, none⟩) 1 1) [x] := by
  refine ⟨.inr ⟨b, 0, 1, rfl, lt_of_block h, Nat.le_refl _, fun j u hj => ?_⟩, fun k hk => by simp only [Value.ownBlock, Option.some.injEq] at hk; exact hk ▸ hS⟩
  rw [Nat.zero_add, cell_of_row _ _ j _ _ _ h]
  simpa using hj
theorem nameIn_one {w : World} {S : Nat → Prop} {b c : Nat} {x : Attr} {t u : TypeId} (hb : w.heap[b]? = some (.cells (encA x).toArray t (0, 0))) (hc : w.heap[c]? = some (.cells #[.slice (some ⟨b, 0, none⟩) 1 1] u (0, 0))) (h1 : S b) (h2 : S c) : NameIn w S (.slice (some ⟨c, 0, none⟩) 1 1) [x] := by
  refine ⟨[⟨some ⟨b, 0, none⟩, 1, 1⟩], rdIn_one encV1_ok hc h2, rfl, fun i hi => ?_⟩
  have : i = 0 := by simpa using hi
  subst this
  exact rdIn_one encA_ok hb h1
theorem conv_one (w : World) (c : UInt8) : (convert 92 9 (.slice (some ⟨w.heap.size, 0, none⟩) 1 1)).run Try.prog (w.alloc (.cells #[.int .u8 c.toNat] 5)) = .ok (.string ⟨#[c]⟩) (w.alloc (.cells #[.int .u8 c.toNat] 5)) :=
  run_convert_bytes_back _ _ _ _ _ 1 [c] Try.underlying92 Try.underlying5 Try.underlying9 (fun j hj => by
    have : j = 0 := by simpa using hj
    subst this
    show (w.alloc (.cells #[.int .u8 c.toNat] 5)).cell? ⟨w.heap.size, 0, none⟩ = _
    rw [World.cell?_alloc_at _ _ _ _ rfl]; rfl)
set_option maxRecDepth 100000
set_option maxHeartbeats 4000000
theorem dec0 (w : World) : Calls Try.prog 37 #[.int .i64 0] w fun e w' => e = .returned (.string ⟨#[48]⟩) ∧ Below w.heap.size w w' := by
  have hcv : (convert 92 9 (.slice (some ⟨w.heap.size, 0, none⟩) 1 1)).run Try.prog (w.alloc (.cells #[.int .u8 48] 5)) = .ok (.string ⟨#[48]⟩) (w.alloc (.cells #[.int .u8 48] 5)) := conv_one w 48
  go_enter Try.func37, Try.ntmps37
  go_wp2
  go_ret
  exact ⟨rfl, (Below.refl _ _).alloc (Nat.le_refl _) _⟩
theorem dec1 (w : World) : Calls Try.prog 37 #[.int .i64 1] w fun e w' => e = .returned (.string ⟨#[49]⟩) ∧ Below w.heap.size w w' := by
  have hcv : (convert 92 9 (.slice (some ⟨w.heap.size, 0, none⟩) 1 1)).run Try.prog (w.alloc (.cells #[.int .u8 49] 5)) = .ok (.string ⟨#[49]⟩) (w.alloc (.cells #[.int .u8 49] 5)) := conv_one w 49
  go_enter Try.func37, Try.ntmps37
  go_wp2
  go_ret
  exact ⟨rfl, (Below.refl _ _).alloc (Nat.le_refl _) _⟩
theorem dec2 (w : World) : Calls Try.prog 37 #[.int .i64 2] w fun e w' => e = .returned (.string ⟨#[50]⟩) ∧ Below w.heap.size w w' := by
  have hcv : (convert 92 9 (.slice (some ⟨w.heap.size, 0, none⟩) 1 1)).run Try.prog (w.alloc (.cells #[.int .u8 50] 5)) = .ok (.string ⟨#[50]⟩) (w.alloc (.cells #[.int .u8 50] 5)) := conv_one w 50
  go_enter Try.func37, Try.ntmps37
  go_wp2
  go_ret
  exact ⟨rfl, (Below.refl _ _).alloc (Nat.le_refl _) _⟩
theorem dec3 (w : World) : Calls Try.prog 37 #[.int .i64 3] w fun e w' => e = .returned (.string ⟨#[51]⟩) ∧ Below w.heap.size w w' := by
  have hcv : (convert 92 9 (.slice (some ⟨w.heap.size, 0, none⟩) 1 1)).run Try.prog (w.alloc (.cells #[.int .u8 51] 5)) = .ok (.string ⟨#[51]⟩) (w.alloc (.cells #[.int .u8 51] 5)) := conv_one w 51
  go_enter Try.func37, Try.ntmps37
  go_wp2
  go_ret
  exact ⟨rfl, (Below.refl _ _).alloc (Nat.le_refl _) _⟩
theorem auth0 (w : World) : Calls Try.prog 19 #[.int .i64 0] w fun e w' => ∃ u : Sl, e = .returned (.agg #[u.val]) ∧ NameIn w' (fun k => w.heap.size ≤ k) u.val (authN 0) ∧ Below w.heap.size w w' := by
  have hd := dec0
  go_enter Try.func19, Try.ntmps19
  go_wp2_with (go_at_call 37; refine (hd _).mono ?_; rintro e w2 ⟨rfl, hb2⟩; (first | (have hrow2 := (hb2.block w.heap.size (lt_of_block hrow2)).trans hrow2; have hbc := hbc.trans (hb2.mono hbc.size)) | (have hrow2 := (hb2.block w.heap.size (by simp)).trans (heap_alloc_new w (.cells #[.slice none 0 0] 36)); have hbc := ((Below.refl _ w).alloc (Nat.le_refl _) _).trans (hb2.mono (by simp)))); have hlt2 := lt_of_block hrow2; have hlt3 := Nat.lt_succ_of_lt hlt2; have hlt4 := Nat.lt_succ_of_lt hlt3; have hlt5 := Nat.lt_succ_of_lt hlt4; have hc2 := cell_of_row _ _ 0 _ _ _ hrow2; have hf2 := frozen_row (i := 0) hrow2; simp only [List.getElem?_toArray, List.getElem?_cons_zero] at hc2)
  have r0 := alloc_keep (o := .cells #[.slice (some ⟨w2.heap.size + 1, 0, none⟩) 1 1] 36) (alloc_keep (o := .cells #[.slice (some ⟨w2.heap.size, 0, none⟩) 1 1] 70) (alloc_keep (o := .cells #[.string ⟨#[50, 46, 53, 46, 52, 46, 49, 48]⟩, .int .i64 19, .string ((⟨#[67, 65, 32]⟩ : ByteArray) ++ ⟨#[48]⟩)] 69) (row_set hrow2 (i := 0) (.slice (some ⟨w2.heap.size + 1, 0, none⟩) 1 1))))
  have q0 := cell_of_row _ _ 0 _ _ _ r0
  refine bodyPost_ret (v := .agg #[.slice (some ⟨w2.heap.size + 1, 0, none⟩) 1 1]) (by simp [results, Try.results19, go_sem, q0]) rfl ⟨⟨some ⟨w2.heap.size + 1, 0, none⟩, 1, 1⟩, rfl, ?_, ?_⟩
  · refine nameIn_one (b := w2.heap.size) (t := 69) (u := 70) (alloc_keep (alloc_keep ((alloc_at (by simp)).trans ?_))) (alloc_keep (alloc_at (by simp))) (by omega) (by omega)
    have e := bcat [67, 65, 32] [48]
    simp only [encA]
    rw [show bstr (authA 0).val = bstr ([67, 65, 32] ++ [48]) from rfl, ← e]
    rfl
  · exact (hbc.setCell (p := ⟨w.heap.size, 0, none⟩) (Nat.le_refl _) _ |>.alloc (by simp; omega) _ |>.alloc (by simp; omega) _).alloc (by simp; omega) _
theorem auth2 (w : World) : Calls Try.prog 19 #[.int .i64 2] w fun e w' => ∃ u : Sl, e = .returned (.agg #[u.val]) ∧ NameIn w' (fun k => w.heap.size ≤ k) u.val (authN 2) ∧ Below w.heap.size w w' := by
  have hd := dec1
  go_enter Try.func19, Try.ntmps19
  go_wp2_with (go_at_call 37; refine (hd _).mono ?_; rintro e w2 ⟨rfl, hb2⟩; (first | (have hrow2 := (hb2.block w.heap.size (lt_of_block hrow2)).trans hrow2; have hbc := hbc.trans (hb2.mono hbc.size)) | (have hrow2 := (hb2.block w.heap.size (by simp)).trans (heap_alloc_new w (.cells #[.slice none 0 0] 36)); have hbc := ((Below.refl _ w).alloc (Nat.le_refl _) _).trans (hb2.mono (by simp)))); have hlt2 := lt_of_block hrow2; have hlt3 := Nat.lt_succ_of_lt hlt2; have hlt4 := Nat.lt_succ_of_lt hlt3; have hlt5 := Nat.lt_succ_of_lt hlt4; have hc2 := cell_of_row _ _ 0 _ _ _ hrow2; have hf2 := frozen_row (i := 0) hrow2; simp only [List.getElem?_toArray, List.getElem?_cons_zero] at hc2)
  have r0 := alloc_keep (o := .cells #[.slice (some ⟨w2.heap.size + 1, 0, none⟩) 1 1] 36) (alloc_keep (o := .cells #[.slice (some ⟨w2.heap.size, 0, none⟩) 1 1] 70) (alloc_keep (o := .cells #[.string ⟨#[50, 46, 53, 46, 52, 46, 49, 48]⟩, .int .i64 19, .string ((⟨#[67, 65, 32]⟩ : ByteArray) ++ ⟨#[49]⟩)] 69) (row_set hrow2 (i := 0) (.slice (some ⟨w2.heap.size + 1, 0, none⟩) 1 1))))
  have q0 := cell_of_row _ _ 0 _ _ _ r0
  refine bodyPost_ret (v := .agg #[.slice (some ⟨w2.heap.size + 1, 0, none⟩) 1 1]) (by simp [results, Try.results19, go_sem, q0]) rfl ⟨⟨some ⟨w2.heap.size + 1, 0, none⟩, 1, 1⟩, rfl, ?_, ?_⟩
  · refine nameIn_one (b := w2.heap.size) (t := 69) (u := 70) (alloc_keep (alloc_keep ((alloc_at (by simp)).trans ?_))) (alloc_keep (alloc_at (by simp))) (by omega) (by omega)
    have e := bcat [67, 65, 32] [49]
    simp only [encA]
    rw [show bstr (authA 2).val = bstr ([67, 65, 32] ++ [49]) from rfl, ← e]
    rfl
  · exact (hbc.setCell (p := ⟨w.heap.size, 0, none⟩) (Nat.le_refl _) _ |>.alloc (by simp; omega) _ |>.alloc (by simp; omega) _).alloc (by simp; omega) _
theorem auth4 (w : World) : Calls Try.prog 19 #[.int .i64 4] w fun e w' => ∃ u : Sl, e = .returned (.agg #[u.val]) ∧ NameIn w' (fun k => w.heap.size ≤ k) u.val (authN 4) ∧ Below w.heap.size w w' := by
  have hd := dec2
  go_enter Try.func19, Try.ntmps19
  go_wp2_with (go_at_call 37; refine (hd _).mono ?_; rintro e w2 ⟨rfl, hb2⟩; (first | (have hrow2 := (hb2.block w.heap.size (lt_of_block hrow2)).trans hrow2; have hbc := hbc.trans (hb2.mono hbc.size)) | (have hrow2 := (hb2.block w.heap.size (by simp)).trans (heap_alloc_new w (.cells #[.slice none 0 0] 36)); have hbc := ((Below.refl _ w).alloc (Nat.le_refl _) _).trans (hb2.mono (by simp)))); have hlt2 := lt_of_block hrow2; have hlt3 := Nat.lt_succ_of_lt hlt2; have hlt4 := Nat.lt_succ_of_lt hlt3; have hlt5 := Nat.lt_succ_of_lt hlt4; have hc2 := cell_of_row _ _ 0 _ _ _ hrow2; have hf2 := frozen_row (i := 0) hrow2; simp only [List.getElem?_toArray, List.getElem?_cons_zero] at hc2)
  have r0 := alloc_keep (o := .cells #[.slice (some ⟨w2.heap.size + 1, 0, none⟩) 1 1] 36) (alloc_keep (o := .cells #[.slice (some ⟨w2.heap.size, 0, none⟩) 1 1] 70) (alloc_keep (o := .cells #[.string ⟨#[50, 46, 53, 46, 52, 46, 49, 48]⟩, .int .i64 19, .string ((⟨#[67, 65, 32]⟩ : ByteArray) ++ ⟨#[50]⟩)] 69) (row_set hrow2 (i := 0) (.slice (some ⟨w2.heap.size + 1, 0, none⟩) 1 1))))
  have q0 := cell_of_row _ _ 0 _ _ _ r0
  refine bodyPost_ret (v := .agg #[.slice (some ⟨w2.heap.size + 1, 0, none⟩) 1 1]) (by simp [results, Try.results19, go_sem, q0]) rfl ⟨⟨some ⟨w2.heap.size + 1, 0, none⟩, 1, 1⟩, rfl, ?_, ?_⟩
  · refine nameIn_one (b := w2.heap.size) (t := 69) (u := 70) (alloc_keep (alloc_keep ((alloc_at (by simp)).trans ?_))) (alloc_keep (alloc_at (by simp))) (by omega) (by omega)
    have e := bcat [67, 65, 32] [50]
    simp only [encA]
    rw [show bstr (authA 4).val = bstr ([67, 65, 32] ++ [50]) from rfl, ← e]
    rfl
  · exact (hbc.setCell (p := ⟨w.heap.size, 0, none⟩) (Nat.le_refl _) _ |>.alloc (by simp; omega) _ |>.alloc (by simp; omega) _).alloc (by simp; omega) _
theorem auth8 (w : World) : Calls Try.prog 19 #[.int .i64 8] w fun e w' => ∃ u : Sl, e = .returned (.agg #[u.val]) ∧ NameIn w' (fun k => w.heap.size ≤ k) u.val (authN 8) ∧ Below w.heap.size w w' := by
  have hd := dec0
  go_enter Try.func19, Try.ntmps19
  go_wp2_with (go_at_call 37; refine (hd _).mono ?_; rintro e w2 ⟨rfl, hb2⟩; (first | (have hrow2 := (hb2.block w.heap.size (lt_of_block hrow2)).trans hrow2; have hbc := hbc.trans (hb2.mono hbc.size)) | (have hrow2 := (hb2.block w.heap.size (by simp)).trans (heap_alloc_new w (.cells #[.slice none 0 0] 36)); have hbc := ((Below.refl _ w).alloc (Nat.le_refl _) _).trans (hb2.mono (by simp)))); have hlt2 := lt_of_block hrow2; have hlt3 := Nat.lt_succ_of_lt hlt2; have hlt4 := Nat.lt_succ_of_lt hlt3; have hlt5 := Nat.lt_succ_of_lt hlt4; have hc2 := cell_of_row _ _ 0 _ _ _ hrow2; have hf2 := frozen_row (i := 0) hrow2; simp only [List.getElem?_toArray, List.getElem?_cons_zero] at hc2)
  have r0 := alloc_keep (o := .cells #[.slice (some ⟨w2.heap.size + 1, 0, none⟩) 1 1] 36) (alloc_keep (o := .cells #[.slice (some ⟨w2.heap.size, 0, none⟩) 1 1] 70) (alloc_keep (o := .cells #[.string ⟨#[50, 46, 53, 46, 52, 46, 49, 48]⟩, .int .i64 19, .string ((⟨#[32, 99, 97, 32, 32]⟩ : ByteArray) ++ ⟨#[48]⟩)] 69) (row_set hrow2 (i := 0) (.slice (some ⟨w2.heap.size + 1, 0, none⟩) 1 1))))
  have q0 := cell_of_row _ _ 0 _ _ _ r0
  refine bodyPost_ret (v := .agg #[.slice (some ⟨w2.heap.size + 1, 0, none⟩) 1 1]) (by simp [results, Try.results19, go_sem, q0]) rfl ⟨⟨some ⟨w2.heap.size + 1, 0, none⟩, 1, 1⟩, rfl, ?_, ?_⟩
  · refine nameIn_one (b := w2.heap.size) (t := 69) (u := 70) (alloc_keep (alloc_keep ((alloc_at (by simp)).trans ?_))) (alloc_keep (alloc_at (by simp))) (by omega) (by omega)
    have e := bcat [32, 99, 97, 32, 32] [48]
    simp only [encA]
    rw [show bstr (authA 8).val = bstr ([32, 99, 97, 32, 32] ++ [48]) from rfl, ← e]
    rfl
  · exact (hbc.setCell (p := ⟨w.heap.size, 0, none⟩) (Nat.le_refl _) _ |>.alloc (by simp; omega) _ |>.alloc (by simp; omega) _).alloc (by simp; omega) _
theorem own_row {α : Type} {w : World} {B b : Nat} {t : TypeId} {z : Nat} {enc : α → List Value} {x : α} (E : Enc z enc) (h : w.heap[b]? = some (.cells (enc x).toArray t (0, 0))) (hB : B ≤ b) : w.ownsRow B t z (.slice (some ⟨b, 0, none⟩) 1 1) 1 ([x].flatMap enc) := by
  refine ⟨by rw [flat_len E]; simp, .inr ⟨b, 1, (enc x).toArray, rfl, hB, h, Nat.le_refl _, by unfold maxLen; omega, by simp [E.len x], ?_⟩⟩
  simp only [List.flatMap_cons, List.flatMap_nil, List.append_nil, Nat.one_mul, List.length_cons, List.length_nil]
  rw [← E.len x, List.take_length]
theorem info_rdn : (Try.prog.info? 70).map (fun i => (i.zero, i.size, i.bytes)) = some (some (.slice none 0 0), 1, 24) := by kernel_rfl
theorem auth1 (w : World) : Calls Try.prog 19 #[.int .i64 1] w fun e w' => ∃ u : Sl, e = .returned (.agg #[u.val]) ∧ NameIn w' (fun k => w.heap.size ≤ k) u.val (authN 1) ∧ Below w.heap.size w w' := by
  have hd := dec0
  obtain ⟨i0, hi0, hz0, hz1, hz2⟩ : ∃ i0, Try.prog.info? 70 = some i0 ∧ i0.zero = some (.slice none 0 0) ∧ i0.size = 1 ∧ i0.bytes = 24 := by
    have h := info_rdn
    cases hh : Try.prog.info? 70 with
    | none => rw [hh] at h; cases h
    | some i0 =>
      rw [hh] at h
      simp only [Option.map_some, Option.some.injEq, Prod.mk.injEq] at h
      exact ⟨i0, rfl, h.1, h.2.1, h.2.2⟩
  go_enter Try.func19, Try.ntmps19
  go_wp2_with (first | (refine wpList_append_any rfl _ _ _ rfl w.heap.size 70 i0 _ 1 24 und_rdns hi0 hz0 hz1 hz2 rfl (by decide) _ 1 ([(⟨some ⟨w2.heap.size, 0, none⟩, 1, 1⟩ : Sl)].flatMap encV1) rfl (own_row encV1_ok (alloc_keep (alloc_keep (alloc_keep (alloc_at (by simp))))) (by omega)) _ 1 ([(⟨some ⟨w2.heap.size + 1 + 1 + 1, 0, none⟩, 1, 1⟩ : Sl)].flatMap encV1) rfl (src_new encV1_ok (alloc_at (by simp))) (by decide) (by decide) (by simp; omega) ?_) | (go_at_call 37; refine (hd _).mono ?_; rintro e w2 ⟨rfl, hb2⟩; have hrow2 := (hb2.block w.heap.size (by simp)).trans (heap_alloc_new w (.cells #[.slice none 0 0] 36)); have hbc := ((Below.refl _ w).alloc (Nat.le_refl _) _).trans (hb2.mono (by simp)); have hlt2 := lt_of_block hrow2; have hlt3 := Nat.lt_succ_of_lt hlt2; have hlt4 := Nat.lt_succ_of_lt hlt3; have hlt5 := Nat.lt_succ_of_lt hlt4; have hc2 := cell_of_row _ _ 0 _ _ _ hrow2; have hf2 := frozen_row (i := 0) hrow2; simp only [List.getElem?_toArray, List.getElem?_cons_zero] at hc2))
  intro v2 w3 hapd
  have hown : Go.Proofs.Ytpagoinnkknkfaa.Slc.Own w3 w.heap.size 70 1 encV1 v2 [(⟨some ⟨w2.heap.size, 0, none⟩, 1, 1⟩ : Sl), ⟨some ⟨w2.heap.size + 1 + 1 + 1, 0, none⟩, 1, 1⟩] := hapd.own
  have hob : ∀ k, v2.ownBlock = some k → k = w2.heap.size + 1 ∨ k = w2.heap.size + 5 := by
    intro k hk
    rcases hapd.blk with h | h
    · rw [hk] at h; left; simpa [Value.ownBlock] using h
    · rw [hk] at h; right; simpa using h
  have hkeep := fun (k : Nat) (ob : Obj) (h : _ = some ob) (hne : k ≠ w2.heap.size + 1) => (hapd.grown.block k (lt_of_some h) (by simp [Value.ownBlock]; omega)).trans h
  have R0 := hkeep w.heap.size _ (alloc_keep (alloc_keep (alloc_keep (alloc_keep (alloc_keep hrow2))))) (by omega)
  have R1 := hkeep w2.heap.size _ (alloc_keep (alloc_keep (alloc_keep (alloc_keep (alloc_at rfl))))) (by omega)
  have R3 := hkeep (w2.heap.size + 1 + 1) _ (alloc_keep (alloc_keep (alloc_at (by simp)))) (by omega)
  have R4 := hkeep (w2.heap.size + 1 + 1 + 1) _ (alloc_keep (alloc_at (by simp))) (by omega)
  have hB3 : Below w.heap.size w w3 := (((((hbc.alloc (by omega) _).alloc (by simp; omega) _).alloc (by simp; omega) _).alloc (by simp; omega) _).alloc (by simp; omega) _).grown hapd.grown (by simp; omega) (fun k hk => by simp [Value.ownBlock] at hk; omega)
  obtain ⟨ad, c, rfl, -⟩ := hown.rd.form
  have n0 := cell_of_row _ _ 0 _ _ _ R0
  have n3 := cell_of_row _ _ 0 _ _ _ R3
  have g0 := frozen_row (i := 0) R0
  have g3 := frozen_row (i := 0) R3
  simp only [List.getElem?_toArray, List.getElem?_cons_zero] at n0 n3
  simp only [List.length_cons, List.length_nil, Nat.zero_add, Nat.reduceAdd] at *
  clear hapd hkeep
  go_wp2
  have r0 := row_set (i := 0) (row_other (q := w2.heap.size + 1 + 1) (i := 0) R0 (by omega) (.slice ad 2 c)) (.slice ad 2 c)
  have q0 := cell_of_row _ _ 0 _ _ _ r0
  refine bodyPost_ret (v := .agg #[.slice ad 2 c]) (by simp [results, Try.results19, go_sem, q0]) rfl ⟨⟨ad, 2, c⟩, rfl, ?_, ?_⟩
  · have hk2 : ∀ k, w2.heap.size ≤ k → k ≠ w2.heap.size + 1 + 1 → ((w3.setCell ⟨w2.heap.size + 1 + 1, 0, none⟩ (.slice ad 2 c)).setCell ⟨w.heap.size, 0, none⟩ (.slice ad 2 c)).heap[k]? = w3.heap[k]? := fun k h1 h2 => by
      rw [heap_setCell_other _ _ _ _ (by simp; omega), heap_setCell_other _ _ _ _ (by simp; omega)]
    refine ⟨_, ⟨hown.rd.keep (by simp) fun k hk _ => hk2 k (by rcases hob k hk with h | h <;> omega) (by rcases hob k hk with h | h <;> omega), fun k hk => by rcases hob k hk with h | h <;> omega⟩, rfl, fun i hi => ?_⟩
    have hi2 : i = 0 ∨ i = 1 := by simp [authN] at hi; omega
    rcases hi2 with rfl | rfl
    · refine rdIn_one encA_ok (t := 69) ((hk2 _ (Nat.le_refl _) (by omega)).trans (R1.trans ?_)) (by omega)
      have e := bcat [67, 65, 32] [48]
      show some (Obj.cells #[.string ⟨#[50, 46, 53, 46, 52, 46, 49, 48]⟩, .int .i64 19, .string ((⟨#[67, 65, 32]⟩ : ByteArray) ++ ⟨#[48]⟩)] 69 (0, 0)) = some (.cells (encA (authA 1)).toArray _ (0, 0))
      simp only [encA]
      rw [show bstr (authA 1).val = bstr ([67, 65, 32] ++ [48]) from rfl, ← e]
      rfl
    · exact rdIn_one encA_ok (t := 69) ((hk2 _ (by omega) (by omega)).trans R4) (by omega)
  · exact (hB3.setCell (p := ⟨w2.heap.size + 1 + 1, 0, none⟩) (by show w.heap.size ≤ w2.heap.size + 1 + 1; omega) _).setCell (p := ⟨w.heap.size, 0, none⟩) (Nat.le_refl _) _
theorem auth3 (w : World) : Calls Try.prog 19 #[.int .i64 3] w fun e w' => ∃ u : Sl, e = .returned (.agg #[u.val]) ∧ NameIn w' (fun k => w.heap.size ≤ k) u.val (authN 3) ∧ Below w.heap.size w w' := by
  have hd := dec1
  obtain ⟨i0, hi0, hz0, hz1, hz2⟩ : ∃ i0, Try.prog.info? 70 = some i0 ∧ i0.zero = some (.slice none 0 0) ∧ i0.size = 1 ∧ i0.bytes = 24 := by
    have h := info_rdn
    cases hh : Try.prog.info? 70 with
    | none => rw [hh] at h; cases h
    | some i0 =>
      rw [hh] at h
      simp only [Option.map_some, Option.some.injEq, Prod.mk.injEq] at h
      exact ⟨i0, rfl, h.1, h.2.1, h.2.2⟩
  go_enter Try.func19, Try.ntmps19
  go_wp2_with (first | (refine wpList_append_any rfl _ _ _ rfl w.heap.size 70 i0 _ 1 24 und_rdns hi0 hz0 hz1 hz2 rfl (by decide) _ 1 ([(⟨some ⟨w2.heap.size, 0, none⟩, 1, 1⟩ : Sl)].flatMap encV1) rfl (own_row encV1_ok (alloc_keep (alloc_keep (alloc_keep (alloc_at (by simp))))) (by omega)) _ 1 ([(⟨some ⟨w2.heap.size + 1 + 1 + 1, 0, none⟩, 1, 1⟩ : Sl)].flatMap encV1) rfl (src_new encV1_ok (alloc_at (by simp))) (by decide) (by decide) (by simp; omega) ?_) | (go_at_call 37; refine (hd _).mono ?_; rintro e w2 ⟨rfl, hb2⟩; have hrow2 := (hb2.block w.heap.size (by simp)).trans (heap_alloc_new w (.cells #[.slice none 0 0] 36)); have hbc := ((Below.refl _ w).alloc (Nat.le_refl _) _).trans (hb2.mono (by simp)); have hlt2 := lt_of_block hrow2; have hlt3 := Nat.lt_succ_of_lt hlt2; have hlt4 := Nat.lt_succ_of_lt hlt3; have hlt5 := Nat.lt_succ_of_lt hlt4; have hc2 := cell_of_row _ _ 0 _ _ _ hrow2; have hf2 := frozen_row (i := 0) hrow2; simp only [List.getElem?_toArray, List.getElem?_cons_zero] at hc2))
  intro v2 w3 hapd
  have hown : Go.Proofs.Ytpagoinnkknkfaa.Slc.Own w3 w.heap.size 70 1 encV1 v2 [(⟨some ⟨w2.heap.size, 0, none⟩, 1, 1⟩ : Sl), ⟨some ⟨w2.heap.size + 1 + 1 + 1, 0, none⟩, 1, 1⟩] := hapd.own
  have hob : ∀ k, v2.ownBlock = some k → k = w2.heap.size + 1 ∨ k = w2.heap.size + 5 := by
    intro k hk
    rcases hapd.blk with h | h
    · rw [hk] at h; left; simpa [Value.ownBlock] using h
    · rw [hk] at h; right; simpa using h
  have hkeep := fun (k : Nat) (ob : Obj) (h : _ = some ob) (hne : k ≠ w2.heap.size + 1) => (hapd.grown.block k (lt_of_some h) (by simp [Value.ownBlock]; omega)).trans h
  have R0 := hkeep w.heap.size _ (alloc_keep (alloc_keep (alloc_keep (alloc_keep (alloc_keep hrow2))))) (by omega)
  have R1 := hkeep w2.heap.size _ (alloc_keep (alloc_keep (alloc_keep (alloc_keep (alloc_at rfl))))) (by omega)
  have R3 := hkeep (w2.heap.size + 1 + 1) _ (alloc_keep (alloc_keep (alloc_at (by simp)))) (by omega)
  have R4 := hkeep (w2.heap.size + 1 + 1 + 1) _ (alloc_keep (alloc_at (by simp))) (by omega)
  have hB3 : Below w.heap.size w w3 := (((((hbc.alloc (by omega) _).alloc (by simp; omega) _).alloc (by simp; omega) _).alloc (by simp; omega) _).alloc (by simp; omega) _).grown hapd.grown (by simp; omega) (fun k hk => by simp [Value.ownBlock] at hk; omega)
  obtain ⟨ad, c, rfl, -⟩ := hown.rd.form
  have n0 := cell_of_row _ _ 0 _ _ _ R0
  have n3 := cell_of_row _ _ 0 _ _ _ R3
  have g0 := frozen_row (i := 0) R0
  have g3 := frozen_row (i := 0) R3
  simp only [List.getElem?_toArray, List.getElem?_cons_zero] at n0 n3
  simp only [List.length_cons, List.length_nil, Nat.zero_add, Nat.reduceAdd] at *
  clear hapd hkeep
  go_wp2
  have r0 := row_set (i := 0) (row_other (q := w2.heap.size + 1 + 1) (i := 0) R0 (by omega) (.slice ad 2 c)) (.slice ad 2 c)
  have q0 := cell_of_row _ _ 0 _ _ _ r0
  refine bodyPost_ret (v := .agg #[.slice ad 2 c]) (by simp [results, Try.results19, go_sem, q0]) rfl ⟨⟨ad, 2, c⟩, rfl, ?_, ?_⟩
  · have hk2 : ∀ k, w2.heap.size ≤ k → k ≠ w2.heap.size + 1 + 1 → ((w3.setCell ⟨w2.heap.size + 1 + 1, 0, none⟩ (.slice ad 2 c)).setCell ⟨w.heap.size, 0, none⟩ (.slice ad 2 c)).heap[k]? = w3.heap[k]? := fun k h1 h2 => by
      rw [heap_setCell_other _ _ _ _ (by simp; omega), heap_setCell_other _ _ _ _ (by simp; omega)]
    refine ⟨_, ⟨hown.rd.keep (by simp) fun k hk _ => hk2 k (by rcases hob k hk with h | h <;> omega) (by rcases hob k hk with h | h <;> omega), fun k hk => by rcases hob k hk with h | h <;> omega⟩, rfl, fun i hi => ?_⟩
    have hi2 : i = 0 ∨ i = 1 := by simp [authN] at hi; omega
    rcases hi2 with rfl | rfl
    · refine rdIn_one encA_ok (t := 69) ((hk2 _ (Nat.le_refl _) (by omega)).trans (R1.trans ?_)) (by omega)
      have e := bcat [67, 65, 32] [49]
      show some (Obj.cells #[.string ⟨#[50, 46, 53, 46, 52, 46, 49, 48]⟩, .int .i64 19, .string ((⟨#[67, 65, 32]⟩ : ByteArray) ++ ⟨#[49]⟩)] 69 (0, 0)) = some (.cells (encA (authA 3)).toArray _ (0, 0))
      simp only [encA]
      rw [show bstr (authA 3).val = bstr ([67, 65, 32] ++ [49]) from rfl, ← e]
      rfl
    · exact rdIn_one encA_ok (t := 69) ((hk2 _ (by omega) (by omega)).trans R4) (by omega)
  · exact (hB3.setCell (p := ⟨w2.heap.size + 1 + 1, 0, none⟩) (by show w.heap.size ≤ w2.heap.size + 1 + 1; omega) _).setCell (p := ⟨w.heap.size, 0, none⟩) (Nat.le_refl _) _
end Go.Proofs.Ytpagoinnkknkfaa.Pb
