/-
  A date that came in by value: six integers.
-/
import Derived.Test.YtmmoimemfdbfgaaDoorChecked
import Derived.WalkKit
import Derived.ProofKit
import Derived.Lib.SmallJoins
import Derived.Deep.Fields
namespace Go.Proofs.YtmmoimemfdbfgaaDoor
open Go.Joins Go.ChangeShapes Go.WideShapes Go.RowKit Go.Deep

/-- the shape of the values of a struct of six integers -/
theorem ints6 {H : Type} {enc : TypeId × Value → H} {P : Program} {w : World} {base b0 : Nat} {spare : Nat → Bool} {held : Bool} {r : Reach} {t e : TypeId} {fs : Array Field} {v : Value} {d : DataW H} {p : List MemPlace}
    (hs : P.underlying t = some (.struct fs)) (he : P.underlying e = some (.int .i64)) (hfs : fs.size = 6) (hall : ∀ (j : Nat) f, fs[j]? = some f → f.type = e) (hone : oneCellFields P fs = true) (hC : P.cellsOf t = 6)
    (hv : Value.okWide P w r b0 t v) (h : DataW.Trod enc P w base spare held t v d p) :
    ∃ a0 a1 a2 a3 a4 a5 : Int, v = .agg #[.int .i64 a0, .int .i64 a1, .int .i64 a2, .int .i64 a3, .int .i64 a4, .int .i64 a5] := by
  obtain ⟨cs, rfl, hsz⟩ := okWide_struct hs hv
  obtain ⟨fuel, hf⟩ := h
  obtain ⟨xs, n, _, _, _, hlen, hg⟩ := DataW.trod_struct hs hf
  have key : ∀ j, j < 6 → ∃ a : Int, cs.toList[j]? = some (.int .i64 a) := by
    intro j hj
    have hjf : j < fs.size := by omega
    have hgf : fs[j]? = some fs[j] := Array.getElem?_eq_getElem hjf
    obtain ⟨o, k⟩ := hone_of hone j fs[j] hgf
    have h1 := hg j fs[j] hgf
    rw [hall j _ hgf, o] at h1
    have hjx : j < xs.length := by omega
    rw [List.getElem?_eq_getElem hjx] at h1
    have hjc : j < cs.toList.length := by simp; omega
    have hd : (Value.cells (.agg cs)).toList.drop j = cs.toList[j] :: cs.toList.drop (j + 1) := List.drop_eq_getElem_cons hjc
    have hkk : P.cellsOf e = 1 := by rw [← hall j _ hgf]; exact k
    rw [hkk, hd] at h1
    obtain ⟨a, ha, _, _⟩ := DataW.trod_int he h1
    refine ⟨a, ?_⟩
    rw [List.getElem?_eq_getElem hjc]
    simpa using ha
  obtain ⟨a0, h0⟩ := key 0 (by omega)
  obtain ⟨a1, h1⟩ := key 1 (by omega)
  obtain ⟨a2, h2⟩ := key 2 (by omega)
  obtain ⟨a3, h3⟩ := key 3 (by omega)
  obtain ⟨a4, h4⟩ := key 4 (by omega)
  obtain ⟨a5, h5⟩ := key 5 (by omega)
  refine ⟨a0, a1, a2, a3, a4, a5, ?_⟩
  congr 1
  apply Array.toList_inj.1
  apply List.ext_getElem?
  intro i
  have hl : cs.toList.length = 6 := by simp; omega
  have : i = 0 ∨ i = 1 ∨ i = 2 ∨ i = 3 ∨ i = 4 ∨ i = 5 ∨ 6 ≤ i := by omega
  rcases this with rfl | rfl | rfl | rfl | rfl | rfl | h6
  · exact h0
  · exact h1
  · exact h2
  · exact h3
  · exact h4
  · exact h5
  · rw [List.getElem?_eq_none (by omega), List.getElem?_eq_none (by simpa using h6)]

noncomputable def dateFields : Array Field := (match Tryd.prog.underlying 27 with | some (.struct fs) => fs | _ => #[])
theorem date_struct : Tryd.prog.underlying 27 = some (.struct dateFields) := by kernel_rfl
theorem date_size : dateFields.size = 6 := by kernel_rfl
theorem date_types : dateFields.toList.map (·.type) = [3, 3, 3, 3, 3, 3] := by kernel_rfl
theorem date_all (j : Nat) (f : Field) (h : dateFields[j]? = some f) : f.type = 3 := by
  have h1 : (dateFields.toList.map (·.type))[j]? = some f.type := by
    rw [List.getElem?_map, Array.getElem?_toList, h]; rfl
  rw [date_types] at h1
  have := List.mem_of_getElem? h1
  simpa using this

theorem date_open {H : Type} {enc : TypeId × Value → H} {w : World} {base b0 : Nat} {spare : Nat → Bool} {held : Bool} {r : Reach} {v : Value} {d : DataW H} {p : List MemPlace}
    (hv : Value.okWide Tryd.prog w r b0 27 v) (h : DataW.Trod enc Tryd.prog w base spare held 27 v d p) :
    ∃ a0 a1 a2 a3 a4 a5 : Int, v = .agg #[.int .i64 a0, .int .i64 a1, .int .i64 a2, .int .i64 a3, .int .i64 a4, .int .i64 a5] :=
  ints6 date_struct Tryd.underlying3 date_size date_all (by kernel_rfl) (by kernel_rfl) hv h

end Go.Proofs.YtmmoimemfdbfgaaDoor
