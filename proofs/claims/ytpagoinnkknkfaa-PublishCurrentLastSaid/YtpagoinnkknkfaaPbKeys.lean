/-
  The sorted keys of a map of changes.
-/
import Derived.Test.YtpagoinnkknkfaaPbMap
namespace Go.Proofs.Ytpagoinnkknkfaa.Pb
open Go Go.RowKit Go.Shelf Go.Maps Go.Sort Go.Proofs.Ytpagoinnkknkfaa.Slc
set_option linter.unusedVariables false
set_option linter.unusedSimpArgs false

/-- how a change reads in a map -/
def rdL : List Value → Option (DW × List MemPlace)
  | [.int .i64 a, .int .i64 b, .int .i64 c, .int .i64 d] => some (.agg [.lit (.int .i64 a), .lit (.int .i64 b), .lit (.int .i64 c), .lit (.int .i64 d)], [])
  | _ => none
def rdC : Value → Option (DW × List MemPlace)
  | .agg cs => rdL cs.toList
  | _ => none
def edC (c : Ch) : DW := .agg [.lit (.int .i64 c.s), .lit (.int .i64 c.t), .lit (.int .i64 c.r), .lit (.int .i64 c.v)]
theorem rdC_mk (c : Ch) : rdC (chV c) = some (edC c, []) := rfl
theorem rdL_inv (l : List Value) (c : Ch) (ps : List MemPlace) (h : rdL l = some (edC c, ps)) : l = encC c := by
  unfold rdL at h
  split at h
  · simp only [Option.some.injEq, Prod.mk.injEq, edC, DataW.agg.injEq, List.cons.injEq, DataW.lit.injEq, Lit.int.injEq, true_and, and_true] at h
    obtain ⟨⟨h1, h2, h3, h4⟩, -⟩ := h
    unfold encC; rw [h1, h2, h3, h4]
  · cases h
theorem rdC_inv (v : Value) (c : Ch) (ps : List MemPlace) (h : rdC v = some (edC c, ps)) : v = chV c := by
  unfold rdC at h
  split at h
  · rename_i cs
    have := rdL_inv _ c ps h
    have e : cs = (encC c).toArray := by rw [← this]
    rw [e]; rfl
  · cases h
/-- the map of the changes so far -/
abbrev OwnC (w : World) (b n : Nat) (f : Int → Option Ch) : Prop := OwnI w Try.prog 3 rdC edC b n f
theorem u_int : Try.prog.underlying 3 = some (.int .i64) := Try.underlying3
theorem u_mapC : Try.prog.underlying 72 = some (.map 3 24) := Try.underlying72
theorem sortsP (m : Nat) : AnyZI.SortsIn Try.prog Try.sortedA_ren Fence.wide m :=
  ⟨fun blk off cap ss W hH hblk hsz => callsIn_wide.2 (AnyM.slices_Sort_int Try.sortA blk off cap ss W hH hblk hsz),
   fun p cap W => callsIn_wide.2 (AnyM.slices_Sort_int_none Try.sortA p cap W)⟩
theorem keysC (b : Option Nat) (W : World) : Calls Try.prog 41 #[.map b] W fun e w' => e = .returned (.func (.func 57) #[] #[.pointer (some ⟨W.heap.size, 0, none⟩)]) ∧ w' = W.alloc (.cells #[.map b] 72) :=
  (callsIn_wide (n := 6)).1 (AnyZI.keys_in Try.keysA Fence.wide 6 trivial rfl b W)
theorem sortedC (b n : Nat) (f : Int → Option Ch) (w : World) (h : OwnC w b n f) (hn : n ≤ 1000000) (ks : List Int) (hnd : ks.Nodup) (hmem : ∀ k, k ∈ ks ↔ (f k).isSome = true) :
    Calls Try.prog 40 #[.func (.func 57) #[] #[.pointer (some ⟨w.heap.size, 0, none⟩)]] (w.alloc (.cells #[.map (some b)] 72))
      fun e w' => ∃ (v : Value), e = .returned v ∧ w'.ownsRow (w.heap.size + 1) 3 1 v ks.length ((ks.mergeSort (fun x y => decide (x ≤ y))).map encZ) ∧ Below (w.heap.size + 1) (w.alloc (.cells #[.map (some b)] 72)) w' := by
  obtain ⟨D, hown, hm⟩ := h
  have hbl := hown.lt
  have hp := keys_perm hown hm u_int hnd hmem
  have hsz : Maps.size D ≤ n := by
    obtain ⟨es, clock, hb, F, hs, rfl⟩ := hown
    simp [Maps.size, length_sorted]; exact hs
  have hseq : SeqGives Fence.wide 3 Try.prog 57 #[.pointer (some ⟨w.heap.size, 0, none⟩)] encZ (fun ss => ss.Perm (intKeys D)) (Maps.size D) (w.alloc (.cells #[.map (some b)] 72)) :=
    AnyZI.keys_gives (ρ := Try.keysA_ren) { Try.keysA with } Fence.wide _ trivial rfl (by omega) w.heap.size b n D _ (by simp) (by simp) (by
      obtain ⟨es, clock, hb, Ft, hs, hD⟩ := hown
      exact ⟨es, clock, (Below.heap_alloc _ _ b hbl).trans hb, Ft, hs, hD⟩)
  have cS := AnyZI.sorted_in Try.sortedA Fence.wide 6 trivial trivial trivial trivial rfl (by omega) (sortsP _) (enters_of Try.func56 (by kernel_rfl) rfl) 57 #[.pointer (some ⟨w.heap.size, 0, none⟩)] trivial (enters_of Try.func57 (by kernel_rfl) rfl) _ _ (by unfold maxLen; omega) (by omega) _ hseq
  refine ((callsIn_wide (n := 6)).1 cS).mono ?_
  rintro e w' ⟨v, ss, rfl, hS, hrow, hnil, hb⟩
  have hpp : ss.Perm ks := hS.trans hp.symm
  rw [World.size_alloc] at hrow hb
  refine ⟨v, rfl, ?_, hb⟩
  have e1 := mergeSort_of_perm_i hpp
  rw [show (ks.mergeSort fun x y => decide (x ≤ y)) = ks.mergeSort leI from rfl, ← e1, ← hpp.length_eq]
  exact hrow
end Go.Proofs.Ytpagoinnkknkfaa.Pb
