/-
  Ranges over a map whose round stores to a key that the map has.
-/
import Derived.Test.YtmagjdocondmhaaMapF
import Derived.Maps.Range
import Derived.Maps.RangeWalk
namespace Go.Proofs.Ytmagjdocondmhaa.Mp
open Go Go.RowKit Go.ChangeMaps Go.MapKept Go.WideShapes
open Go.WideElems (Fit rd rg pl rd_key rd_val rg_of rd_mk other_key)
open Go.Maps (Keyed)
set_option linter.unusedVariables false
set_option linter.unusedSimpArgs false

section
variable {H : Type} {P : Program} {k e t : TypeId} {R : Value → Option (DataW H × List MemPlace)} {w : World} {b r n : Nat} {D : DataW H} {left : Lit → Bool} {cnt : Nat}
theorem setBlock_inj {es es1 es2 : Array MapEntry} {c c1 c2 : Nat} (hb : w.heap[b]? = some (.map es c)) (h : setBlock w b (.map es1 c1) = setBlock w b (.map es2 c2)) : es1 = es2 ∧ c1 = c2 := by
  have h1 := heap_setBlock_same hb (.map es1 c1)
  have h2 := heap_setBlock_same hb (.map es2 c2)
  rw [h, h2] at h1
  simp only [Option.some.injEq, Obj.map.injEq] at h1
  exact ⟨h1.1.symm, h1.2.symm⟩
theorem ranges_put (h : w.ranges P k R b r n D left cnt) (K : Keyed P k) (ht : P.underlying t = some (.map k e)) (hn : n < maxLen) {z : Value} (hz : (zeroValue e).run P w = .ok z w) {key val : Value} {kl : Lit} {d : DataW H} {ps : List MemPlace}
    (hkey : keyOf P k key = some kl) (hhas : Maps.has D kl = true) (hv : R val = some (d, ps)) :
    ∃ w', (Instr.mapUpdate t (.map (some b)) key val).run P w = .ok () w' ∧ w'.ranges P k R b r n (D.put kl d) left cnt ∧ w.grownBy w' (some b) ∧ w'.heap.size = w.heap.size := by
  have hne := h.ne
  obtain ⟨es, clock, since, seen, c0, hb, F, hs, rfl, hr, hold, rfl, hl1, hl2, hsc, hsk⟩ := h
  obtain ⟨es', clock', hrun, F', hput, -, -, -⟩ := Maps.fit_store (R' := R) K ht hb F (Nat.lt_of_le_of_lt hs hn) (fun _ _ _ _ hz => hz) hkey hv
  -- the key is there
  have hex : ∃ e0 ∈ es.toList, e0.key = key := by
    rcases Maps.fit_look true K ht hz hb F hkey with ⟨_, _, hat⟩ | ⟨e0, y, h1, h2, -⟩
    · rw [Maps.has_false_of_atKey hat] at hhas; cases hhas
    · exact ⟨e0, h1, h2⟩
  rcases K.find w hkey es.toList F.keys with ⟨h1, h2⟩ | ⟨j, e0, h1, h2, h3⟩
  · obtain ⟨e0, he, hk⟩ := hex
    exact absurd hk (h2 e0 he)
  have hj : es[j]? = some e0 := by simpa using h2
  have hlist : (es.modify j (fun e' => { e' with key := key, val := val })).toList = es.toList.set j { e0 with key := key, val := val } := by rw [Array.toList_modify, modify_eq_set _ _ _ _ h2]
  have hrun2 : (Instr.mapUpdate t (.map (some b)) key val).run P w = .ok () (setBlock w b (.map (es.modify j (fun e' => { e' with key := key, val := val })) clock)) := by
    simp [Instr.mapUpdate, run_underlying ht, MapKept.run_getObj_map hb, K.check w false hkey, h1, hj, h3, K.stays w hkey, MapKept.run_setObj_map _ hb, Result.andThen, setBlock]
  have hww : setBlock w b (.map es' clock') = setBlock w b (.map (es.modify j (fun e' => { e' with key := key, val := val })) clock) := by
    rw [hrun] at hrun2
    injection hrun2
  obtain ⟨rfl, rfl⟩ := setBlock_inj hb hww
  have hm0 : e0 ∈ es.toList := List.mem_of_getElem? h2
  have hr0 : (rg P k R e0).1 = kl := by
    obtain ⟨y, hy⟩ := F.reads e0 hm0
    have m0 := rd_key hy
    rw [rg_of hy]
    rw [h3, hkey] at m0
    exact (Option.some.inj m0).symm
  have hr1 : (rg P k R { e0 with key := key, val := val }).1 = kl := by rw [rg_of (rd_mk hkey hv)]
  have who : ∀ x ∈ es.toList.set j { e0 with key := key, val := val }, x = { e0 with key := key, val := val } ∨ x ∈ es.toList := fun x hx => by
    rcases List.mem_or_eq_of_mem_set hx with q | q
    · exact .inr q
    · exact .inl q
  refine ⟨_, hrun2, ⟨_, clock', since, seen, c0, heap_setBlock_same hb _, F', by simpa using hs, by rw [DataW.put_eq, hput], (heap_setBlock_other hb _ hne).trans hr, fun x hx => ?_, ?_, fun x hx => ?_, fun kl' hkl' => ?_, hsc, hsk⟩, ⟨rfl, rfl, rfl, by simp [setBlock], fun i _ hi => heap_setBlock_other hb _ (fun e => hi (by rw [e]))⟩, by simp [setBlock]⟩
  · rw [hlist] at hx
    rcases who x hx with rfl | q
    · exact hold e0 hm0
    · exact hold x q
  · have e1 : ∀ a : Array MapEntry, (leftOf a seen).size = ((a.toList.map (·.born)).filter fun q => !seen.contains q).length := fun a => by
      unfold leftOf
      rw [List.filter_map, List.length_map, ← Array.length_toList, Array.toList_filter]; rfl
    rw [e1, e1, hlist, List.map_set]
    congr 2
    apply List.ext_getElem?
    intro i
    rw [List.getElem?_set]
    split
    · rename_i q
      subst q
      split
      · simp [h2]
      · rename_i q2
        have := (List.getElem?_eq_some_iff.1 h2).1
        rw [List.length_map] at q2
        exact absurd this q2
    · rfl
  · rw [hlist] at hx
    rcases who x hx with rfl | q
    · rw [hr1, ← hr0]; exact hl1 e0 hm0
    · exact hl1 x q
  · obtain ⟨x, hx, hxe⟩ := hl2 kl' hkl'
    by_cases q : kl' = kl
    · subst q
      refine ⟨{ e0 with key := key, val := val }, ?_, hr1⟩
      rw [hlist]
      exact List.mem_iff_getElem?.2 ⟨j, by rw [List.getElem?_set_self (List.getElem?_eq_some_iff.1 h2).1]⟩
    · obtain ⟨i, hi, hie⟩ := List.getElem_of_mem hx
      have hij : j ≠ i := by
        rintro rfl
        rw [List.getElem?_eq_getElem hi, hie] at h2
        obtain rfl := Option.some.inj h2
        exact q (hxe.symm.trans hr0)
      refine ⟨x, ?_, hxe⟩
      rw [hlist]
      exact List.mem_iff_getElem?.2 ⟨i, by rw [List.getElem?_set_ne hij, List.getElem?_eq_getElem hi, hie]⟩
end
end Go.Proofs.Ytmagjdocondmhaa.Mp
