/-
  Maps whose keys are ints, as functions.
-/
/-
  The sorted keys of a map of changes.
-/
/-
  publish.Current. (Written by wip/gen/gen_pbcu.py.)
-/
import Derived.Test.YtpagoinnkknkfaaPbAuth
import Derived.Maps.Own
import Derived.Maps.OwnSet
import Derived.Maps.OwnOps
import Derived.Maps.Views
import Derived.Lib.SlKeysI
import Derived.Maps.Range
import Derived.DataShut
import Derived.Test.YtpagoinnkknkfaaShelf
namespace Go.Proofs.Ytpagoinnkknkfaa.Pb
open Go Go.RowKit Go.Shelf Go.Maps Go.Proofs.Ytpagoinnkknkfaa.Slc
set_option linter.unusedVariables false
set_option linter.unusedSimpArgs false

abbrev DW := DataW Unit
structure IsI {γ : Type} (ed : γ → DW) (D : DW) (f : Int → Option γ) : Prop where
  tidy : Tidy D
  at_ : ∀ (k : Int) z, D.atKey (.int .i64 k) z = match f k with | some d => ed d | none => z
  has_ : ∀ k : Int, Maps.has D (.int .i64 k) = (f k).isSome
theorem IsI.empty {γ : Type} (ed : γ → DW) : IsI ed (.map []) (fun _ => none) := ⟨tidy_empty, fun n z => rfl, fun n => rfl⟩
theorem ikey_ok (k : Int) : WideAt.IsKeyLit (.int .i64 k) := trivial
theorem ilit_ne {n m : Int} (h : m ≠ n) : Lit.int .i64 m ≠ Lit.int .i64 n := fun e => h (by injection e)
theorem IsI.put {γ : Type} {ed : γ → DW} {D : DW} {f : Int → Option γ} (h : IsI ed D f) (k : Int) (x : γ) : IsI ed (D.put (.int .i64 k) (ed x)) (fun j => if j = k then some x else f j) := by
  refine ⟨h.tidy.put (ikey_ok k) _, fun m z => ?_, fun m => ?_⟩
  · by_cases e : m = k
    · subst e; rw [atKey_put_same h.tidy.isMap (ikey_ok _)]; simp
    · rw [atKey_put_other (ilit_ne e), h.at_ m z]; simp [e]
  · by_cases e : m = k
    · subst e; rw [has_put_same h.tidy.isMap (ikey_ok _)]; simp
    · rw [has_put_other (ilit_ne e), h.has_ m]; simp [e]
/-- a block that is a map from ints -/
def OwnI {γ : Type} (w : World) (P : Program) (kt : TypeId) (R : Value → Option (DW × List MemPlace)) (ed : γ → DW) (b n : Nat) (f : Int → Option γ) : Prop := ∃ D : DW, w.ownsMap P kt R b n D ∧ IsI ed D f
section
variable {γ : Type} {P : Program} {kt e t : TypeId} {R : Value → Option (DW × List MemPlace)} {ed : γ → DW} {w : World} {b n : Nat} {f : Int → Option γ}
theorem OwnI.lt (h : OwnI w P kt R ed b n f) : b < w.heap.size := by obtain ⟨D, h, _⟩ := h; exact h.lt
theorem OwnI.kept {w' : World} {row : Option Nat} (h : OwnI w P kt R ed b n f) (hg : w.grownBy w' row) (hne : some b ≠ row) : OwnI w' P kt R ed b n f := by
  obtain ⟨D, h, hm⟩ := h; exact ⟨D, h.kept hg hne, hm⟩
theorem OwnI.block {w' : World} (h : OwnI w P kt R ed b n f) (hb : w'.heap[b]? = w.heap[b]?) : OwnI w' P kt R ed b n f := by
  obtain ⟨D, ⟨es, clock, hh, r⟩, hm⟩ := h
  exact ⟨D, ⟨es, clock, by rw [hb]; exact hh, r⟩, hm⟩
theorem OwnI.below {w' : World} (h : OwnI w P kt R ed b n f) (hb : Below w.heap.size w w') : OwnI w' P kt R ed b n f := h.block (hb.block b h.lt)
theorem OwnI.mono {n' : Nat} (h : OwnI w P kt R ed b n f) (hn : n ≤ n') : OwnI w P kt R ed b n' f := by
  obtain ⟨D, h, hm⟩ := h; exact ⟨D, h.mono hn, hm⟩
theorem OwnI.made (w : World) (P : Program) (kt : TypeId) (R : Value → Option (DW × List MemPlace)) (ed : γ → DW) : OwnI (w.alloc (.map #[] 0)) P kt R ed w.heap.size 0 (fun _ => none) := ⟨_, World.ownsMap_made w P kt R, IsI.empty ed⟩
/-- an int that is one -/
def I64 (k : Int) : Prop := -9223372036854775808 ≤ k ∧ k ≤ 9223372036854775807
theorem I64.wf {k : Int} (h : I64 k) : (Lit.int .i64 k).wf = true := by
  exact (Lit.wf_int_iff _ _).2 h
theorem OwnI.put (h : OwnI w P kt R ed b n f) (hk : P.underlying kt = some (.int .i64)) (ht : P.underlying t = some (.map kt e)) (hn : n < maxLen) {k : Int} (hw : I64 k) (x : γ) (v : Value) (hx : R v = some (ed x, [])) :
    ∃ w', (Instr.mapUpdate t (.map (some b)) (.int .i64 k) v).run P w = .ok () w' ∧ OwnI w' P kt R ed b (n + 1) (fun j => if j = k then some x else f j) ∧ w.grownBy w' (some b) := by
  obtain ⟨D, h, hm⟩ := h
  obtain ⟨w', h1, h2, h3⟩ := h.update (int_keyed hk) ht hn (keyOf_int_mk hk hw.wf) hx
  exact ⟨w', h1, ⟨_, h2, hm.put k x⟩, h3⟩
theorem OwnI.look (h : OwnI w P kt R ed b n f) (hk : P.underlying kt = some (.int .i64)) (ht : P.underlying t = some (.map kt e)) (ev : γ → Value) (z0 : γ) (hz : (zeroValue e).run P w = .ok (ev z0) w) (hR : ∀ x, R (ev x) = some (ed x, []))
    (hinv : ∀ v x ps, R v = some (ed x, ps) → v = ev x) {k : Int} (hw : I64 k) :
    (Instr.lookup t (.map (some b)) (.int .i64 k) false).run P w = .ok (ev ((f k).getD z0)) w ∧
    (Instr.lookup t (.map (some b)) (.int .i64 k) true).run P w = .ok (.tuple #[ev ((f k).getD z0), .bool (f k).isSome]) w := by
  obtain ⟨D, h, hm⟩ := h
  have hat : D.atKey (.int .i64 k) (ed z0) = ed ((f k).getD z0) := by rw [hm.at_]; cases f k <;> rfl
  obtain ⟨v, ps, h1, h2⟩ := h.lookup (int_keyed hk) ht hz (hR z0) (keyOf_int_mk hk hw.wf)
  obtain ⟨v', ps', h1', h2'⟩ := h.look_ok (int_keyed hk) ht hz (hR z0) (keyOf_int_mk hk hw.wf)
  rw [hm.has_] at h1'
  rw [hat] at h2 h2'
  exact ⟨by rw [h1, hinv _ _ _ h2], by rw [h1', hinv _ _ _ h2']⟩
theorem keys_perm {D : DW} (h : w.ownsMap P kt R b n D) (hm : IsI ed D f) (hk : P.underlying kt = some (.int .i64)) {ks : List Int} (hnd : ks.Nodup) (hmem : ∀ k, k ∈ ks ↔ (f k).isSome = true) : ks.Perm (intKeys D) := by
  obtain ⟨es, hD, hpw, _⟩ := h.entries (int_keyed hk)
  obtain ⟨es', hD', hko⟩ := h.keysOf
  obtain rfl : es = es' := by rw [hD] at hD'; simpa using hD'
  subst hD
  exact perm_intKeys hpw (fun p hp => by obtain ⟨v, hv⟩ := hko p hp; obtain ⟨x, _, hx, _⟩ := Maps.keyOf_i64 hk hv; exact ⟨x, hx⟩) hnd (fun x => by rw [hmem, hm.has_])
end
end Go.Proofs.Ytpagoinnkknkfaa.Pb

namespace Go.Proofs.Ytpagoinnkknkfaa.Pb
open Go Go.RowKit Go.Shelf Go.Maps Go.Sort Go.Proofs.Ytpagoinnkknkfaa.Slc
set_option linter.unusedVariables false
set_option linter.unusedSimpArgs false

/-- how a change reads in a map -/
def rdL : List Value → Option (DW × List MemPlace)
  | [.int .i64 a, .int .i64 b, .int .i64 c, .int .i64 d] => some (.agg [.lit (.int .i64 a), .lit (.int .i64 b), .lit (.int .i64 c), .lit (.int .i64 d)], [])
  | _ => none
def rdC : Value → Option (DW × List MemPlace)
  | .agg cs => rdL cs.toList
  | _ => none
def edC (c : Ch) : DW := .agg [.lit (.int .i64 c.s), .lit (.int .i64 c.t), .lit (.int .i64 c.r), .lit (.int .i64 c.v)]
theorem rdC_mk (c : Ch) : rdC (chV c) = some (edC c, []) := rfl
theorem rdL_inv (l : List Value) (c : Ch) (ps : List MemPlace) (h : rdL l = some (edC c, ps)) : l = encC c := by
  unfold rdL at h
  split at h
  · simp only [Option.some.injEq, Prod.mk.injEq, edC, DataW.agg.injEq, List.cons.injEq, DataW.lit.injEq, Lit.int.injEq, true_and, and_true] at h
    obtain ⟨⟨h1, h2, h3, h4⟩, -⟩ := h
    unfold encC; rw [h1, h2, h3, h4]
  · cases h
theorem rdC_inv (v : Value) (c : Ch) (ps : List MemPlace) (h : rdC v = some (edC c, ps)) : v = chV c := by
  unfold rdC at h
  split at h
  · rename_i cs
    have := rdL_inv _ c ps h
    have e : cs = (encC c).toArray := by rw [← this]
    rw [e]; rfl
  · cases h
/-- the map of the changes so far -/
abbrev OwnC (w : World) (b n : Nat) (f : Int → Option Ch) : Prop := OwnI w Try.prog 3 rdC edC b n f
theorem u_int : Try.prog.underlying 3 = some (.int .i64) := Try.underlying3
theorem u_mapC : Try.prog.underlying 72 = some (.map 3 24) := Try.underlying72
theorem sortsP (m : Nat) : AnyZI.SortsIn Try.prog Try.sortedA_ren Fence.wide m :=
  ⟨fun blk off cap ss W hH hblk hsz => callsIn_wide.2 (AnyM.slices_Sort_int Try.sortA blk off cap ss W hH hblk hsz),
   fun p cap W => callsIn_wide.2 (AnyM.slices_Sort_int_none Try.sortA p cap W)⟩
theorem keysC (b : Option Nat) (W : World) : Calls Try.prog 41 #[.map b] W fun e w' => e = .returned (.func (.func 57) #[] #[.pointer (some ⟨W.heap.size, 0, none⟩)]) ∧ w' = W.alloc (.cells #[.map b] 72) :=
  (callsIn_wide (n := 6)).1 (AnyZI.keys_in Try.keysA Fence.wide 6 trivial rfl b W)
theorem sortedC (b n : Nat) (f : Int → Option Ch) (w : World) (h : OwnC w b n f) (hn : n ≤ 1000000) (ks : List Int) (hnd : ks.Nodup) (hmem : ∀ k, k ∈ ks ↔ (f k).isSome = true) :
    Calls Try.prog 40 #[.func (.func 57) #[] #[.pointer (some ⟨w.heap.size, 0, none⟩)]] (w.alloc (.cells #[.map (some b)] 72))
      fun e w' => ∃ (v : Value), e = .returned v ∧ w'.ownsRow (w.heap.size + 1) 3 1 v ks.length ((ks.mergeSort (fun x y => decide (x ≤ y))).map encZ) ∧ Below (w.heap.size + 1) (w.alloc (.cells #[.map (some b)] 72)) w' := by
  obtain ⟨D, hown, hm⟩ := h
  have hbl := hown.lt
  have hp := keys_perm hown hm u_int hnd hmem
  have hsz : Maps.size D ≤ n := by
    obtain ⟨es, clock, hb, F, hs, rfl⟩ := hown
    simp [Maps.size, length_sorted]; exact hs
  have hseq : SeqGives Fence.wide 3 Try.prog 57 #[.pointer (some ⟨w.heap.size, 0, none⟩)] encZ (fun ss => ss.Perm (intKeys D)) (Maps.size D) (w.alloc (.cells #[.map (some b)] 72)) :=
    AnyZI.keys_gives (ρ := Try.keysA_ren) { Try.keysA with } Fence.wide _ trivial rfl (by omega) w.heap.size b n D _ (by simp) (by simp) (by
      obtain ⟨es, clock, hb, Ft, hs, hD⟩ := hown
      exact ⟨es, clock, (Below.heap_alloc _ _ b hbl).trans hb, Ft, hs, hD⟩)
  have cS := AnyZI.sorted_in Try.sortedA Fence.wide 6 trivial trivial trivial trivial rfl (by omega) (sortsP _) (enters_of Try.func56 (by kernel_rfl) rfl) 57 #[.pointer (some ⟨w.heap.size, 0, none⟩)] trivial (enters_of Try.func57 (by kernel_rfl) rfl) _ _ (by unfold maxLen; omega) (by omega) _ hseq
  refine ((callsIn_wide (n := 6)).1 cS).mono ?_
  rintro e w' ⟨v, ss, rfl, hS, hrow, hnil, hb⟩
  have hpp : ss.Perm ks := hS.trans hp.symm
  rw [World.size_alloc] at hrow hb
  refine ⟨v, rfl, ?_, hb⟩
  have e1 := mergeSort_of_perm_i hpp
  rw [show (ks.mergeSort fun x y => decide (x ≤ y)) = ks.mergeSort leI from rfl, ← e1, ← hpp.length_eq]
  exact hrow
end Go.Proofs.Ytpagoinnkknkfaa.Pb

namespace Go.Proofs.Ytpagoinnkknkfaa.Pb
open Go Go.RowKit Go.Shelf Go.Maps Go.Proofs.Ytpagoinnkknkfaa.Slc
set_option linter.unusedVariables false
set_option linter.unusedSimpArgs false
attribute [local go_sem] Oper.semAt_some

/-- the serials that occur -/
def kset : List Ch → List Int
  | [] => []
  | c :: l => if c.s ∈ kset l then kset l else c.s :: kset l
theorem kset_mem (x : Int) : ∀ l : List Ch, x ∈ kset l ↔ ∃ c ∈ l, c.s = x
  | [] => by simp [kset]
  | c :: l => by
    unfold kset
    have ih := kset_mem x l
    split
    · rename_i h
      rw [ih]
      constructor
      · rintro ⟨d, hd, he⟩; exact ⟨d, List.mem_cons_of_mem _ hd, he⟩
      · rintro ⟨d, hd, he⟩
        rcases List.mem_cons.1 hd with rfl | hd
        · rw [he] at h; exact ih.1 h
        · exact ⟨d, hd, he⟩
    · rw [List.mem_cons, ih]
      constructor
      · rintro (rfl | ⟨d, hd, he⟩)
        · exact ⟨c, List.mem_cons_self .., rfl⟩
        · exact ⟨d, List.mem_cons_of_mem _ hd, he⟩
      · rintro ⟨d, hd, he⟩
        rcases List.mem_cons.1 hd with rfl | hd
        · exact .inl he.symm
        · exact .inr ⟨d, hd, he⟩
theorem kset_nodup : ∀ l : List Ch, (kset l).Nodup
  | [] => List.nodup_nil
  | c :: l => by
    unfold kset
    split
    · exact kset_nodup l
    · rename_i h; exact List.nodup_cons.2 ⟨h, kset_nodup l⟩
theorem kset_len : ∀ l : List Ch, (kset l).length ≤ l.length
  | [] => Nat.le_refl _
  | c :: l => by
    unfold kset
    have := kset_len l
    split <;> simp <;> omega
theorem last_isSome (l : List Ch) (x : Int) : (lastOf l x).isSome = true ↔ ∃ c ∈ l, c.s = x := by
  unfold lastOf
  rw [List.find?_isSome]
  constructor
  · rintro ⟨c, hc, he⟩; exact ⟨c, List.mem_reverse.1 hc, by simpa using he⟩
  · rintro ⟨c, hc, he⟩; exact ⟨c, List.mem_reverse.2 hc, by simpa using he⟩
theorem last_succ (l : List Ch) (k : Nat) (h : k < l.length) : lastOf (l.take (k + 1)) = fun j => if j = (l[k]).s then some l[k] else lastOf (l.take k) j := by
  funext j
  unfold lastOf
  rw [List.take_succ_eq_append_getElem h, List.reverse_append, List.reverse_singleton, List.singleton_append, List.find?_cons]
  by_cases e : j = (l[k]).s
  · rw [if_pos e]; simp [e]
  · rw [if_neg e]
    have : ((l[k]).s == j) = false := by simp; exact fun q => e q.symm
    rw [this]
/-- what is in force of one serial -/
def curOne (nm : Nm) (l : List Ch) (s : Int) : Option En := match lastOf l s with
  | some c => if c.r = 8 then none else some ⟨s, c.t, c.r, c.v, nm⟩
  | none => none
def ksort (l : List Ch) : List Int := (kset l).mergeSort (fun x y => decide (x ≤ y))
def curE (nm : Nm) (l : List Ch) : List En := (ksort l).filterMap (curOne nm l)
theorem ksort_mem {l : List Ch} {x : Int} (h : x ∈ ksort l) : ∃ c, lastOf l x = some c := by
  have h1 := (List.mergeSort_perm (kset l) _).mem_iff.1 h
  exact Option.isSome_iff_exists.1 ((last_isSome l x).2 ((kset_mem x l).1 h1))
theorem ksort_len (l : List Ch) : (ksort l).length ≤ l.length := by
  unfold ksort; rw [List.length_mergeSort]; exact kset_len l
def encK (k : Int) : List Value := [.int .i64 k]
theorem encK_ok : Enc 1 encK := ⟨fun _ => rfl, fun x u hu => by simp [encK] at hu; subst hu; rfl, by omega⟩
theorem encK_map : ∀ l : List Int, l.flatMap encK = l.map encZ
  | [] => rfl
  | k :: l => by rw [List.flatMap_cons, encK_map l]; rfl
theorem rdK_cells {w : World} {ad : Option Addr} {n c : Nat} {l : List Int} (h : Rd w encK (.slice ad n c) l) : n = l.length ∧ ∀ (W : World), Below w.heap.size w W → ∀ k (hk : k < l.length), ∃ b o, ad = some ⟨b, o, none⟩ ∧ b < w.heap.size ∧ W.cell? ⟨b, o + k, none⟩ = some (.int .i64 (l[k])) := by
  obtain ⟨ad', c', hv, -⟩ := h.form
  simp only [Value.slice.injEq] at hv
  refine ⟨hv.2.1, fun W hW k hk => ?_⟩
  obtain ⟨b, o, c, hv', _, hlt, hc⟩ := h.cells encK_ok (by omega)
  simp only [Value.slice.injEq] at hv'
  have q := hc W (fun k' hk' => hW.block k' (h.lt k' hk')) k hk 0 _ (by omega) rfl
  rw [Nat.mul_one, Nat.add_zero] at q
  exact ⟨b, o, hv'.1, hlt, q⟩
/-- the facts of the last loop's region -/
def CuF (W : World) (ov : Value) (K T R V : Int) (q : Nat) (nv : Value) (nm : Nm) : Nat → Value → World → Prop
  | 0, x, _ => x = ov
  | 1, x, _ => x = .int .i64 K
  | 2, x, _ => x = .pointer (some ⟨q, 1, none⟩)
  | 3, x, _ => x = .int .i64 T
  | 4, x, _ => x = .pointer (some ⟨q, 2, none⟩)
  | 5, x, _ => x = .int .i64 R
  | 6, x, _ => x = .pointer (some ⟨q, 3, none⟩)
  | 7, x, _ => x = .int .i64 V
  | 8, x, _ => x = .agg #[nv]
  | 9, x, w => ∃ u : Sl, x = .agg #[u.val] ∧ NameIn w (fun k => W.heap.size ≤ k) u.val nm
  | 10, x, w => ∃ u : Sl, x = .agg #[.int .i64 K, .int .i64 T, .int .i64 R, .int .i64 V, u.val] ∧ NameIn w (fun k => W.heap.size ≤ k) u.val nm
  | 11, x, w => ∃ (u : Sl) (b : Nat), x = .slice (some ⟨b, 0, none⟩) 1 1 ∧ W.heap.size ≤ b ∧ w.heap[b]? = some (.cells (encE ⟨⟨K, T, R, V, nm⟩, u⟩).toArray 44 (0, 0)) ∧ NameIn w (fun k => W.heap.size ≤ k) u.val nm
  | _, _, _ => True
theorem CuF.stable (W : World) (ov : Value) (K T R V : Int) (q : Nat) (nv : Value) (nm : Nm) (i : Nat) (x : Value) (w w' : World) (h : CuF W ov K T R V q nv nm i x w) (hb : Below w.heap.size w w') : CuF W ov K T R V q nv nm i x w' := by
  match i with
  | 0 | 1 | 2 | 3 | 4 | 5 | 6 | 7 | 8 => exact h
  | 9 => obtain ⟨u, h1, h2⟩ := h; exact ⟨u, h1, h2.below hb⟩
  | 10 => obtain ⟨u, h1, h2⟩ := h; exact ⟨u, h1, h2.below hb⟩
  | 11 => obtain ⟨u, b, h1, h2, h3, h4⟩ := h; exact ⟨u, b, h1, h2, (hb.block b (lt_of_block h3)).trans h3, h4.below hb⟩
  | _ + 12 => exact trivial

set_option maxRecDepth 100000 in
set_option maxHeartbeats 8000000 in
theorem pcur_any (w : World) (nv : Value) (nm : Nm) (hn : NameAt w nv nm) (hnk : Nm.Ok nm) (v : Value) (l : List Ch) (hA : Rd w encC v l) (hl : l.length ≤ 100000) (hs : ∀ c ∈ l, I64 c.s) :
    Calls Try.prog 22 #[.agg #[nv], v] w fun e w' => ∃ (rv : Value) (out : List Et), e = .returned rv ∧ ens out = curE nm l ∧ EO w' w.heap.size rv out ∧ Below w.heap.size w w' := by
  obtain ⟨i0, hi0, hz0, hz1, hz2⟩ := info_parts info_entry
  obtain ⟨ad, cap, rfl, -⟩ := hA.form
  obtain ⟨nvs, hnr, -⟩ := id hn
  obtain ⟨na, nc, hnv, -⟩ := hnr.form
  rw [hnv] at hn
  subst hnv
  clear hnr
  have HN := Bx.mk hn
  have HC := Bx.mk (rdC_cells hA).2
  have HS := Bx.mk hs
  obtain ⟨p, hp⟩ : ∃ p, p = w.heap.size := ⟨_, rfl⟩
  have HP := Bx.mk hp
  rw [← hp]
  obtain ⟨W0, hW0⟩ : ∃ W0, W0 = (w.alloc (.cells #[.slice na nvs.length nc] 36)).alloc (.map #[] 0) := ⟨_, rfl⟩
  have HB0 := Bx.mk (show Below p w W0 by rw [hW0, hp]; exact ((Below.refl _ _).alloc (Nat.le_refl _) _).alloc (by simp) _)
  have HR0 := Bx.mk (show W0.heap[p]? = some (.cells #[.slice na nvs.length nc] 36 (0, 0)) by rw [hW0]; exact alloc_keep (alloc_at hp))
  have HM0 := Bx.mk (show OwnC W0 (p + 1) 0 (lastOf (l.take 0)) by
    have e : lastOf (l.take 0) = fun _ => none := by funext j; simp [lastOf]
    rw [hW0, e]
    have := OwnI.made (w.alloc (.cells #[.slice na nvs.length nc] 36)) Try.prog 3 rdC edC
    rw [World.size_alloc, ← hp] at this
    exact this)
  clear hn hA hs
  have hmm := @run_makeMap Try.prog
  go_enter Try.func22, Try.ntmps22
  go_wp2_with fail
  rw [← hW0]
  try rw [← hp]
  clear hp
  clear hW0 hmm
  go_loopw [15] (fun i wr => ∃ k : Nat, k ≤ l.length ∧ i = .int .i64 k ∧ OwnC wr (p + 1) k (lastOf (l.take k)) ∧ wr.heap[p]? = some (.cells #[.slice na nvs.length nc] 36 (0, 0)) ∧ Below p w wr) (fun i _ => l.length - (intOf i).toNat)
  case atStart => exact ⟨0, by omega, rfl, HM0.out, HR0.out, HB0.out⟩
  case round =>
    obtain ⟨k, hk, rfl, how, hrow, hBw⟩ := hrel
    by_cases hlt : k < l.length
    · obtain ⟨b, o, rfl, hbl, c0, c1, c2, c3⟩ := HC.out wr (HP.out ▸ hBw) k hlt
      have hpl := how.lt
      have HST := Bx.mk (last_succ l k hlt)
      have HSK := Bx.mk (HS.out _ (List.getElem_mem hlt))
      have how1 := how.below ((Below.refl _ wr).alloc (Nat.le_refl _) (.cells #[.int .i64 (l[k]).s, .int .i64 (l[k]).t, .int .i64 (l[k]).r, .int .i64 (l[k]).v] 24))
      obtain ⟨w2, hrun, hop, hgr⟩ := how1.put u_int u_mapC (by unfold maxLen; omega) HSK.out l[k] (chV l[k]) (rdC_mk _)
      have HOP := Bx.mk (show OwnC w2 (p + 1) (k + 1) (lastOf (l.take (k + 1))) by rw [HST.out]; exact hop)
      have HRW := Bx.mk (show w2.heap[p]? = some (.cells #[.slice na nvs.length nc] 36 (0, 0)) from (hgr.block p (by simp; omega) (by simp)).trans (alloc_keep hrow))
      have HBW := Bx.mk (show Below p w w2 from (hBw.alloc (by omega) _).grown hgr (by simp; omega) (fun k hk => by simp only [Option.some.injEq] at hk; omega))
      unfold chV at hrun
      clear how how1 hop hgr hrow hBw HST HSK hbl
      generalize (l[k]).s = S1 at *
      generalize (l[k]).t = T1 at *
      generalize (l[k]).r = R1 at *
      generalize (l[k]).v = V1 at *
      go_wp2_with fail
      go_roundw
      case rel => exact ⟨k + 1, by omega, by go_num, HOP.out, HRW.out, HBW.out⟩
      case measure => simp [intOf]; omega
    · obtain rfl : k = l.length := by omega
      rw [List.take_length] at how
      have HOW := Bx.mk how
      have HROW := Bx.mk hrow
      have hpl := how.lt
      have HBW := Bx.mk hBw
      have hS := sortedC (p + 1) l.length (lastOf l) wr how (by omega) (kset l) (kset_nodup l) (fun x => by rw [kset_mem, last_isSome])
      have hK := keysC (some (p + 1)) wr
      clear how hrow hBw
      go_wp2_with (first
        | (go_at_call 41; refine hK.mono ?_; rintro e w1 ⟨rfl, rfl⟩)
        | (go_at_call 40; refine hS.mono ?_; rintro e w2 ⟨sv, rfl, hsrow, hsb⟩
           have hso : Go.Proofs.Ytpagoinnkknkfaa.Slc.Own w2 (wr.heap.size + 1) 3 1 encK sv (ksort l) := by
             unfold Go.Proofs.Ytpagoinnkknkfaa.Slc.Own ksort; rw [encK_map, List.length_mergeSort]; exact hsrow
           obtain ⟨sa, sc, hsf, -⟩ := hso.rd.form
           subst hsf
           have HKC := Bx.mk (rdK_cells hso.rd).2
           have HSB := Bx.mk (show Below wr.heap.size wr w2 from ((Below.refl _ wr).alloc (Nat.le_refl _) _).trans (hsb.mono (by simp)))
           clear hsrow hso hsb))
      have HOW2 := Bx.mk (HOW.out.below HSB.out)
      have HROW2 := Bx.mk ((HSB.out.block p (by omega)).trans HROW.out)
      have HBW2 := Bx.mk (show Below p w w2 from HBW.out.trans (HSB.out.mono (by omega)))
      have hkl := ksort_len l
      have hpw := HOW2.out.lt
      clear hS hK HOW HROW HBW HSB hpl
      go_loopw [8, 28] (fun ov i wr => ∃ (k : Nat) (out : List Et), k ≤ (ksort l).length ∧ i = .int .i64 k ∧ out.length ≤ k ∧ GE w2 w2.heap.size wr ov out ∧ Bx (ens out = ((ksort l).take k).filterMap (curOne nm l))) (fun _ i _ => (ksort l).length - (intOf i).toNat)
      case atStart => exact ⟨0, [], by omega, rfl, by simp, GE.nil _ _ (Nat.le_refl _), ⟨by simp [ens]⟩⟩
      case round =>
        obtain ⟨k, out, hk, rfl, hlen, hG, hF⟩ := hrel
        obtain ⟨av, cv, rfl, -⟩ := hG.form
        have HGE := Bx.mk hG
        have HLEN := Bx.mk hlen
        have hBw : Below w2.heap.size w2 wr := hG.bel
        by_cases hlt : k < (ksort l).length
        · obtain ⟨b2, o2, rfl, hbl2, ck⟩ := HKC.out wr hBw k hlt
          have hrow3 := (hBw.block p (by omega)).trans HROW2.out
          have how3 := HOW2.out.below hBw
          have hNM3 := (HN.out.below (HP.out ▸ HBW2.out)).below hBw
          obtain ⟨c, hc⟩ := ksort_mem (List.getElem_mem hlt)
          have HSTP := Bx.mk (show ((ksort l).take (k + 1)).filterMap (curOne nm l) = ((ksort l).take k).filterMap (curOne nm l) ++ (match (if c.r = 8 then none else some (⟨(ksort l)[k], c.t, c.r, c.v, nm⟩ : En)) with | none => [] | some e => [e]) by
            rw [List.take_succ_eq_append_getElem hlt, List.filterMap_append]
            congr 1
            simp only [List.filterMap_cons, List.filterMap_nil, curOne, hc]
            by_cases q : c.r = 8 <;> simp [q])
          have hlook := (how3.look u_int u_mapC chV ⟨0, 0, 0, 0⟩ (Try.zeroValue24 _) rdC_mk rdC_inv (k := (ksort l)[k]) (by
            obtain ⟨c', hc1, hc2⟩ := (kset_mem _ _).1 ((List.mergeSort_perm (kset l) _).mem_iff.1 (List.getElem_mem hlt))
            rw [← hc2]; exact HS.out c' hc1)).1
          rw [hc] at hlook
          simp only [Option.getD_some, chV] at hlook
          have hpw3 : p < wr.heap.size := by have := hBw.size; omega
          have HNM3 := Bx.mk hNM3
          have HROW3 := Bx.mk hrow3
          have HBW3 := Bx.mk hBw
          clear hc how3 hrow3 hNM3 hBw hG hbl2 hlen
          obtain ⟨cs, ct, cr, cvv⟩ := c
          simp only at hlook HSTP
          obtain ⟨Kk, hKk⟩ : ∃ Kk, Kk = (ksort l)[k] := ⟨_, rfl⟩
          rw [← hKk] at ck hlook HSTP
          clear hKk
          by_cases q8 : cr = 8
          · subst q8
            have HSN := Bx.mk (show ((ksort l).take (k + 1)).filterMap (curOne nm l) = ((ksort l).take k).filterMap (curOne nm l) by rw [HSTP.out]; simp)
            clear HSTP
            go_wp2_with fail
            go_roundw
            case rel => exact ⟨k + 1, out, by omega, by go_num, by have := HLEN.out; omega, HGE.out.below ((Below.refl _ _).alloc (Nat.le_refl _) _), ⟨by rw [HSN.out]; exact hF.out⟩⟩
            case measure => simp [intOf]; omega
          · have tq : (cr != 8) = true := by simpa using q8
            have HSN := Bx.mk (show ((ksort l).take (k + 1)).filterMap (curOne nm l) = ((ksort l).take k).filterMap (curOne nm l) ++ [⟨Kk, ct, cr, cvv, nm⟩] by rw [HSTP.out]; simp [q8])
            clear HSTP q8
            go_wp2_with fail
            obtain ⟨W5, hW5⟩ : ∃ W5, W5 = wr.alloc (.cells #[.int .i64 cs, .int .i64 ct, .int .i64 cr, .int .i64 cvv] 24) := ⟨_, rfl⟩
            have hb5 : Below wr.heap.size wr W5 := by rw [hW5]; exact (Below.refl _ _).alloc (Nat.le_refl _) _
            have hq5 : W5.heap[wr.heap.size]? = some (.cells #[.int .i64 cs, .int .i64 ct, .int .i64 cr, .int .i64 cvv] 24 (0, 0)) := by rw [hW5]; exact heap_alloc_new _ _
            have hp5 := (hb5.block p hpw3).trans HROW3.out
            rw [← hW5]
            clear hW5
            have hNM5 := HNM3.out.below hb5
            have HCALL := Bx.mk (show ∀ W, Below W5.heap.size W5 W → Calls Try.prog 42 #[.agg #[.slice na nvs.length nc]] W fun e w' => ∃ u : Sl, e = .returned (.agg #[u.val]) ∧ NameIn w' (fun k => W.heap.size ≤ k) u.val nm ∧ Below W.heap.size W w' from fun W hW => copyN_any W _ nm (hNM5.below hW) hnk)
            obtain ⟨q, hq⟩ : ∃ q, q = wr.heap.size := ⟨_, rfl⟩
            have HQ := Bx.mk hq
            rw [← hq] at hq5 ⊢
            clear hq hNM5
            have HGE5 := Bx.mk (HGE.out.below hb5)
            refine wp_region_facts 12 (CuF W5 (.slice av out.length cv) Kk ct cr cvv q (.slice na nvs.length nc) nm) (by kernel_rfl) (by kernel_rfl) (by rfl) (CuF.stable _ _ _ _ _ _ _ _ _) ?_ ?_
            · intro i o hi ho x w7 hb hd
              have hc : i = 0 ∨ i = 1 ∨ i = 2 ∨ i = 3 ∨ i = 4 ∨ i = 5 ∨ i = 6 ∨ i = 7 ∨ i = 8 ∨ i = 9 ∨ i = 10 ∨ i = 11 := by omega
              simp only [List.take_succ_cons, List.take_zero, putFrom]
              have b5 := (hb.block q (lt_of_block hq5)).trans hq5
              have bp := (hb.block p (lt_of_block hp5)).trans hp5
              have m1 := cell_of_row _ _ 1 _ _ _ b5
              have m2 := cell_of_row _ _ 2 _ _ _ b5
              have m3 := cell_of_row _ _ 3 _ _ _ b5
              have mp := cell_of_row _ _ 0 _ _ _ bp
              simp only [List.getElem?_toArray, List.getElem?_cons_zero, List.getElem?_cons_succ] at m1 m2 m3 mp
              have hcall := HCALL.out w7 hb
              clear b5 bp hq5 hp5 hlook ck hF
              rcases hc with rfl | rfl | rfl | rfl | rfl | rfl | rfl | rfl | rfl | rfl | rfl | rfl
              all_goals
                simp only [List.getElem?_cons_succ, List.getElem?_cons_zero, Option.some.injEq] at ho
                subst ho
                simp [Needs, Region.binds, CuF] at hd
              case inr.inr.inr.inr.inr.inr.inr.inr.inr.inl =>
                go_wp2_with (go_at_call 42; refine hcall.mono ?_; rintro e w8 ⟨u, rfl, hnu, hb8⟩)
                exact ⟨rfl, rfl, ⟨u, rfl, hnu.mono fun k _ hk => Nat.le_trans hb.size hk⟩, hb8⟩
              case inr.inr.inr.inr.inr.inr.inr.inr.inr.inr.inl =>
                obtain ⟨h1, h3, h5, h7, ⟨ua, un, uc⟩, h9, hnm⟩ := hd
                simp only [Sl.val] at h9 hnm
                go_wp2_with fail
                exact ⟨rfl, rfl, ⟨⟨ua, un, uc⟩, rfl, hnm⟩, Below.refl _ _⟩
              case inr.inr.inr.inr.inr.inr.inr.inr.inr.inr.inr =>
                obtain ⟨⟨ua, un, uc⟩, h9, hnm⟩ := hd
                simp only [Sl.val] at h9 hnm
                go_wp2_with fail
                exact ⟨rfl, rfl, ⟨⟨ua, un, uc⟩, w7.heap.size, rfl, hb.size, heap_alloc_new _ _, hnm.below ((Below.refl _ _).alloc (Nat.le_refl _) _)⟩, (Below.refl _ _).alloc (Nat.le_refl _) _⟩
              all_goals
                go_wp2_with fail
                exact ⟨rfl, rfl, rfl, Below.refl _ _⟩
            · intro x w7 hb hf
              have f0 := hf 0 (by omega)
              have f11 := hf 11 (by omega)
              simp only [CuF] at f0 f11
              clear hf
              obtain ⟨⟨ua, un, uc⟩, bz, f11, hbz0, hbz1, hnm⟩ := f11
              simp only [List.take_succ_cons, List.take_zero, List.drop_succ_cons, List.drop_zero, putFrom, Nat.zero_add, Nat.reduceAdd, f0, f11]
              have HG7 := Bx.mk (HGE5.out.below hb)
              have hsrc : SrcV w7 5 (.slice (some ⟨bz, 0, none⟩) 1 1) 1 ([(⟨⟨Kk, ct, cr, cvv, nm⟩, ⟨ua, un, uc⟩⟩ : Et)].flatMap encE) := src_new encE_ok hbz1
              have hbzz := HG7.out.sz
              have hm1 : out.length + 1 ≤ maxLen := by have := HLEN.out; unfold maxLen; omega
              have hm2 : (out.length + 1) * 56 ≤ 140737488355328 := by have := HLEN.out; omega
              have HOWN := Bx.mk HG7.out.eo.own
              have HEI := Bx.mk (show ∀ y ∈ [(⟨⟨Kk, ct, cr, cvv, nm⟩, ⟨ua, un, uc⟩⟩ : Et)], EtIn w7 (fun k => (Value.slice av out.length cv).ownBlock ≠ some k) y from fun y hy => by
                rw [List.mem_singleton] at hy; subst hy
                refine ⟨hnm.mono fun k _ hk e => ?_, hnk⟩
                have := (HGE5.out.eo.own.lt k e).2
                omega)
              clear f0 f11 hbz0 hbz1 hnm hlook ck hb hq5 hp5
              generalize x 1 = x1, x 2 = x2, x 3 = x3, x 4 = x4, x 5 = x5, x 6 = x6, x 7 = x7, x 8 = x8, x 9 = x9, x 10 = x10
              simp only [Act.put, List.setIfInBounds_toArray, List.set_cons_succ, List.set_cons_zero]
              go_wp2_with (refine wpList_append_any rfl _ _ _ rfl w2.heap.size 44 i0 _ 5 56 und_entries hi0 hz0 hz1 hz2 rfl (by decide) _ out.length (out.flatMap encE) rfl HOWN.out _ 1 ([(⟨⟨Kk, ct, cr, cvv, nm⟩, ⟨ua, un, uc⟩⟩ : Et)].flatMap encE) rfl hsrc hm1 hm2 hbzz ?_)
              intro v9 w9 hapd
              have HG2 := Bx.mk (HG7.out.apd (m := [(⟨⟨Kk, ct, cr, cvv, nm⟩, ⟨ua, un, uc⟩⟩ : Et)]) HEI.out rfl rfl rfl rfl hapd)
              have HFF := Bx.mk (show ens (out ++ [(⟨⟨Kk, ct, cr, cvv, nm⟩, ⟨ua, un, uc⟩⟩ : Et)]) = ((ksort l).take (k + 1)).filterMap (curOne nm l) by rw [HSN.out, ← hF.out]; simp [ens])
              clear hapd hsrc hbzz HOWN hm1 hm2 hF
              go_wp2
              go_roundw
              case rel => exact ⟨k + 1, out ++ [(⟨⟨Kk, ct, cr, cvv, nm⟩, ⟨ua, un, uc⟩⟩ : Et)], by omega, by go_num, by have := HLEN.out; simp; omega, HG2.out, ⟨HFF.out⟩⟩
              case measure => simp [intOf]; omega
        · obtain rfl : k = (ksort l).length := by omega
          have HFIN := Bx.mk (show ens out = curE nm l by rw [hF.out, List.take_length]; rfl)
          have HEO := Bx.mk (show EO wr p (.slice av out.length cv) out from HGE.out.eo.mono (by omega))
          have HBF := Bx.mk (show Below p w wr from HBW2.out.trans (hBw.mono (by omega)))
          clear hF hG hBw
          go_wp2
          go_ret
          exact ⟨_, out, rfl, HFIN.out, HEO.out, HBF.out⟩
end Go.Proofs.Ytpagoinnkknkfaa.Pb
