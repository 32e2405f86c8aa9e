/-
  awake: the examples of the chapter.
-/
import Derived.Test.YtpagoinnkknkfaaPbSel
namespace Go.Proofs.Ytpagoinnkknkfaa.Pb
open Go Go.RowKit Go.Shelf Go.Maps Go.Proofs.Ytpagoinnkknkfaa.Slc
set_option linter.unusedVariables false
set_option linter.unusedSimpArgs false
attribute [local go_sem] Oper.semAt_some

def L0 : List Ch := [⟨5, 10, 6, -1⟩, ⟨7, 11, 1, 3⟩, ⟨5, 12, 8, -1⟩]
def E0 : En := ⟨7, 11, 1, 3, authN 0⟩
def D0 : En := ⟨7, 12, 8, -1, authN 0⟩
theorem f_hold : followR [] ⟨5, 10, 6, -1⟩ = 0 := by decide
theorem f_remove : followR [] ⟨5, 10, 8, -1⟩ = 24 := by decide
theorem cur0 : curE (authN 0) L0 = [E0] := by
  have h : ksort L0 = [5, 7] := by simp [ksort, kset, L0, List.mergeSort, List.merge, List.MergeSort.Internal.splitInTwo]
  unfold curE; rw [h]
  simp [curOne, lastOf, L0, E0]
theorem about0 : about E0 D0 = true := by simp [about, keyE, E0, D0]
theorem diff0 : diffE [E0] [] 12 = [D0] := by
  simp [diffE, firstE, firstA, findE, sortE, insR, gone, E0, D0]
theorem comb0 : combE [E0] [D0] = ([], 0) := by
  have h : findE [D0] E0 = some D0 := by simp [findE, about, keyE, E0, D0]
  unfold combE
  rw [if_neg (by simp [dupE, firstE, firstA, findE]), if_neg (by simp [E0])]
  have h1 : [E0].filter (fun e => (findE [D0] e).isNone) = [] := by simp [h]
  have h2 : [D0].filter (fun e => decide (e.r ≠ 8)) = [] := by simp [D0]
  rw [h1, h2]; rfl
theorem merge0 : mergeE [E0, E0] = ([], 10) := by
  have h : dupE [E0, E0] = true := by simp [dupE, firstE, firstA, findE, about]
  unfold mergeE; rw [h]; rfl
theorem sel0 : [E0].filter (selC [] 2 1 0 0) = [E0] := by
  have h : selC [] 2 1 0 0 E0 = true := by simp [selC, firstI, E0]
  simp [h]
theorem ok0 : Nm.Ok (authN 0) := by
  refine ⟨by simp [authN], fun a ha => ?_⟩
  have : a = authA 0 := by simpa [authN] using ha
  subst this; simp [authA]
theorem rd_row {α : Type} {w : World} {enc : α → List Value} {z b n : Nat} {t : TypeId} {l : List α} (hn : l.length = n) (h : w.heap[b]? = some (.cells (l.flatMap enc).toArray t (0, 0))) : Rd w enc (.slice (some ⟨b, 0, none⟩) n n) l := by
  subst hn
  refine .inr ⟨b, 0, _, rfl, lt_of_block h, Nat.le_refl _, fun j u hj => ?_⟩
  rw [Nat.zero_add, cell_of_row _ _ j _ _ _ h]
  simpa using hj
set_option maxRecDepth 100000 in
set_option maxHeartbeats 4000000 in
theorem awake_any (w : World) : Calls Try.prog 18 #[] w fun e w' => e = .returned (.bool true) ∧ Below w.heap.size w w' := by
  have hf1 := fun W => pfollow_any W (.slice none 0 0) [] ⟨5, 10, 6, -1⟩ (Rd.nil W) (by simp)
  have hf2 := fun W => pfollow_any W (.slice none 0 0) [] ⟨5, 10, 8, -1⟩ (Rd.nil W) (by simp)
  rw [f_hold] at hf1
  rw [f_remove] at hf2
  simp only [chV] at hf1 hf2
  have hau := auth0
  go_enter Try.func18, Try.ntmps18
  go_wp2_with fail
  go_at_call 17
  refine (hf1 _).mono ?_
  rintro e w1 ⟨rfl, hb1⟩
  go_wp2_with fail
  go_at_call 17
  refine (hf2 _).mono ?_
  rintro e w2 ⟨rfl, hb2⟩
  have hb2 := hb1.trans (hb2.mono hb1.size)
  clear hb1 hf1 hf2
  go_wp2_with fail
  go_at_call 19
  refine (hau _).mono ?_
  rintro e w3 ⟨⟨na, nn, nc⟩, rfl, hnm, hb3⟩
  have hb3 := hb2.trans (hb3.mono hb2.size)
  clear hb2 hau
  simp only [Sl.val] at hnm ⊢
  have hnm4 := hnm.nat
  obtain ⟨W5, hW5⟩ : ∃ W5, W5 = (w3.alloc (.cells #[.slice na nn nc] 36)).alloc (.cells #[.int .i64 5, .int .i64 10, .int .i64 6, .int .i64 (-1), .int .i64 7, .int .i64 11, .int .i64 1, .int .i64 3, .int .i64 5, .int .i64 12, .int .i64 8, .int .i64 (-1)] 24) := ⟨_, rfl⟩
  have hb35 : Below w3.heap.size w3 W5 := by rw [hW5]; exact ((Below.refl _ _).alloc (Nat.le_refl _) _).alloc (by simp) _
  have hr5 : W5.heap[w3.heap.size + 1]? = some (.cells (L0.flatMap encC).toArray 24 (0, 0)) := by rw [hW5]; exact alloc_at (by simp)
  have hcur := pcur_any W5 (.slice na nn nc) (authN 0) (hnm4.below hb35) ok0 (.slice (some ⟨w3.heap.size + 1, 0, none⟩) 3 3) L0 (rd_row (z := 4) rfl hr5) (by simp [L0]) (by intro c hc; simp [L0] at hc; rcases hc with rfl | rfl | rfl <;> constructor <;> decide)
  rw [cur0] at hcur
  have hb5 := hb3.trans (hb35.mono hb3.size)
  clear hr5 hb35 hnm hnm4 hb3
  go_wp2_with fail
  rw [← hW5]
  clear hW5
  refine hcur.mono ?_
  rintro e w6 ⟨rv, out, rfl, ho, heo, hb6⟩
  clear hcur
  have hb6 := hb5.trans (hb6.mono hb5.size)
  clear hb5
  obtain ⟨z, rfl⟩ : ∃ z, out = [z] := by
    have := congrArg List.length ho
    simp [ens] at this
    exact List.length_eq_one_iff.1 this
  have hze : z.e = E0 := by simpa [ens] using ho
  have hel := heo.el
  clear heo
  obtain ⟨aa, ac, rfl, -⟩ := hel.rd.form
  simp only [List.length_cons, List.length_nil, Nat.zero_add] at hel ⊢
  have hdif := pdiff_any w6 (.slice aa 1 ac) (.slice none 0 0) [z] [] 12 hel (EL.nil _) (by simp) (by simp) (by simp)
  rw [ho, show ens [] = [] from rfl, diff0] at hdif
  go_wp2_with fail
  refine hdif.mono ?_
  rintro e w7 ⟨dv, dout, rfl, hdo, hdl, hb7⟩
  clear hdif
  obtain ⟨y, rfl⟩ : ∃ y, dout = [y] := by
    have := congrArg List.length hdl
    simp [ens] at this
    exact List.length_eq_one_iff.1 this
  have hye : y.e = D0 := by simpa [ens] using hdl
  have hdel := hdo.el
  clear hdo
  obtain ⟨da, dc, rfl, -⟩ := hdel.rd.form
  simp only [List.length_cons, List.length_nil, Nat.zero_add] at hdel ⊢
  have hel := hel.below hb7
  have hb7 := hb6.trans (hb7.mono hb6.size)
  clear hb6
  have hcom := pcomb_any w7 (.slice aa 1 ac) (.slice da 1 dc) [z] [y] hel hdel (by simp) (by simp) (by simp)
  rw [ho, hdl, comb0] at hcom
  go_wp2_with fail
  refine hcom.mono ?_
  rintro e w8 ⟨cv, cout, rfl, hco, hcl, hb8⟩
  clear hcom
  have hcn : cout = [] := by simpa [ens] using hcl
  subst hcn
  obtain ⟨ca, cc, rfl, -⟩ := hco.el.rd.form
  clear hco hcl
  simp only [List.length_nil]
  have hel := hel.below hb8
  have hdel := hdel.below hb8
  have hb8 := hb7.trans (hb8.mono hb7.size)
  clear hb7
  obtain ⟨W9, hW9⟩ : ∃ W9, W9 = w8.alloc (.cells #[.slice aa 1 ac, .slice aa 1 ac] 40) := ⟨_, rfl⟩
  have hb89 : Below w8.heap.size w8 W9 := by rw [hW9]; exact (Below.refl _ _).alloc (Nat.le_refl _) _
  have hr9 : W9.heap[w8.heap.size]? = some (.cells (([⟨aa, 1, ac⟩, ⟨aa, 1, ac⟩] : List Sl).flatMap encV1).toArray 40 (0, 0)) := by rw [hW9]; exact alloc_at rfl
  have hmer := pmerge_any W9 (.slice (some ⟨w8.heap.size, 0, none⟩) 2 2) [[z], [z]] ⟨[⟨aa, 1, ac⟩, ⟨aa, 1, ac⟩], rd_row (z := 1) rfl hr9, rfl, fun i hi => by
    have : i = 0 ∨ i = 1 := by simp at hi; omega
    rcases this with rfl | rfl <;> exact hel.below hb89⟩ (by simp) (by simp [lens])
  rw [show ens [[z], [z]].flatten = [E0, E0] by simp [ens, hze], merge0] at hmer
  have hel := hel.below hb89
  have hdel := hdel.below hb89
  have hb9 := hb8.trans (hb89.mono hb8.size)
  clear hb8 hb89 hr9
  go_wp2_with fail
  rw [← hW9]
  clear hW9
  refine hmer.mono ?_
  rintro e w10 ⟨mv, mout, rfl, hmo, hml, hb10⟩
  clear hmer
  have hmn : mout = [] := by simpa [ens] using hml
  subst hmn
  obtain ⟨ma, mc, rfl, -⟩ := hmo.el.rd.form
  clear hmo hml
  simp only [List.length_nil]
  have hel := hel.below hb10
  have hdel := hdel.below hb10
  have hb10 := hb9.trans (hb10.mono hb9.size)
  clear hb9
  have hsel := psel_any w10 (.slice aa 1 ac) (.slice none 0 0) [z] [] 2 1 0 0 hel (by simp) (Rd.nil _) (by simp) (by intro c hc; cases hc) (by intro x hx; rw [List.mem_singleton] at hx; subst hx; rw [hze]; constructor <;> decide)
  rw [ho, sel0] at hsel
  go_wp2_with fail
  refine hsel.mono ?_
  rintro e w11 ⟨sv, sout, rfl, hsl, hso, hb11⟩
  clear hsel
  obtain ⟨x, rfl⟩ : ∃ x, sout = [x] := by
    have := congrArg List.length hsl
    simp [ens] at this
    exact List.length_eq_one_iff.1 this
  obtain ⟨sa, sc, rfl, -⟩ := hso.el.rd.form
  clear hso hsl
  simp only [List.length_cons, List.length_nil, Nat.zero_add]
  have hel := hel.below hb11
  have hdel := hdel.below hb11
  have hb11 := hb10.trans (hb11.mono hb10.size)
  clear hb10
  obtain ⟨b1, o1, rfl, -, c0, -, -, -, -⟩ := hel.cells.2 w11 (Below.refl _ _) 0 (by simp)
  obtain ⟨b2, o2, rfl, -, -, -, d2, -, -⟩ := hdel.cells.2 w11 (Below.refl _ _) 0 (by simp)
  simp only [List.getElem_cons_zero, hze, hye, E0, D0, Nat.zero_mul, Nat.add_zero] at c0 d2
  go_wp2_with fail
  go_ret
  exact ⟨rfl, hb11⟩
end Go.Proofs.Ytpagoinnkknkfaa.Pb
