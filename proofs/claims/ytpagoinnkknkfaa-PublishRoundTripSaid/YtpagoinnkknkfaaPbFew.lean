/-
  Entries that made2 has written have at most fifteen keys: so no sort sees twenty entries.
-/
import Derived.Test.YtpagoinnkknkfaaPbMade
import Derived.Test.YtpagoinnkknkfaaPbRComb
namespace Go.Proofs.Ytpagoinnkknkfaa.Pb
open Go Go.RowKit Go.Proofs.Ytpagoinnkknkfaa.Slc
set_option linter.unusedVariables false
set_option linter.unusedSimpArgs false

theorem nodup_le {α : Type} [DecidableEq α] : ∀ (l m : List α), l.Nodup → (∀ a ∈ l, a ∈ m) → l.length ≤ m.length
  | [], m, _, _ => Nat.zero_le _
  | a :: l, m, h, hm => by
    have h1 := List.nodup_cons.1 h
    have ha := hm a (by simp)
    have := nodup_le l (m.erase a) h1.2 fun b hb => by
      have hne : b ≠ a := fun e => h1.1 (e ▸ hb)
      exact (List.mem_erase_of_ne hne).2 (hm b (by simp [hb]))
    rw [List.length_erase_of_mem ha] at this
    have hp : 0 < m.length := List.length_pos_of_mem ha
    simp only [List.length_cons]
    omega
def nk (a : Nat) : List (B × B) := (authN a).map attrK
theorem nk8 : nk 8 = nk 0 := by decide
def K15 : List Key := [(1, nk 0), (2, nk 0), (3, nk 0), (4, nk 0), (5, nk 0), (1, nk 2), (2, nk 2), (3, nk 2), (4, nk 2), (5, nk 2), (1, nk 4), (2, nk 4), (3, nk 4), (4, nk 4), (5, nk 4)]
/-- serials and issuers of made2 -/
def Mk (e : En) : Prop := (1 ≤ e.s ∧ e.s ≤ 5) ∧ Is4 e.iss
theorem mk_key {e : En} (h : Mk e) : keyE e ∈ K15 := by
  obtain ⟨⟨h1, h2⟩, a, ha, hi⟩ := h
  have hs : e.s = 1 ∨ e.s = 2 ∨ e.s = 3 ∨ e.s = 4 ∨ e.s = 5 := by omega
  have hk : keyE e = (e.s, nk a) := by unfold keyE nk; rw [hi]
  rw [hk]
  have ha' : nk a = nk 0 ∨ nk a = nk 2 ∨ nk a = nk 4 := by
    rcases ha with rfl | rfl | rfl | rfl
    · exact .inl rfl
    · exact .inl nk8
    · exact .inr (.inl rfl)
    · exact .inr (.inr rfl)
  unfold K15
  rcases ha' with q | q | q <;> rw [q] <;> rcases hs with r | r | r | r | r <;> rw [r] <;> simp
theorem nd_15 {l : List En} (h : nd l) (hm : ∀ e ∈ l, Mk e) : l.length ≤ 15 := by
  have := nodup_le (l.map keyE) K15 h fun k hk => by
    obtain ⟨e, he, rfl⟩ := List.mem_map.1 hk
    exact mk_key (hm e he)
  rw [List.length_map] at this
  exact this
theorem firstA_is : ∀ (l pre : List En), nd (firstA pre l) ∧ ∀ x ∈ firstA pre l, x ∈ l ∧ findE pre x = none
  | [], pre => ⟨by unfold nd; simp [firstA], fun x hx => by simp [firstA] at hx⟩
  | a :: l, pre => by
    obtain ⟨h1, h2⟩ := firstA_is l (pre ++ [a])
    have sub : ∀ x, findE (pre ++ [a]) x = none → findE pre x = none := fun x hx => findE_none'.2 fun y hy => findE_none'.1 hx y (by simp [hy])
    rw [firstA]
    by_cases hs : (findE pre a).isSome
    · rw [if_pos hs]
      exact ⟨h1, fun x hx => ⟨by simp [(h2 x hx).1], sub x (h2 x hx).2⟩⟩
    · rw [if_neg hs]
      have hn : findE pre a = none := by simpa using hs
      refine ⟨nd_iff.2 (List.pairwise_cons.2 ⟨fun x hx => findE_none'.1 (h2 x hx).2 a (by simp), nd_iff.1 h1⟩), fun x hx => ?_⟩
      rcases List.mem_cons.1 hx with q | q
      · rw [q]; exact ⟨by simp, hn⟩
      · exact ⟨by simp [(h2 x q).1], sub x (h2 x q).2⟩
theorem first_is (l : List En) : nd (firstE l) ∧ ∀ x ∈ firstE l, x ∈ l := ⟨(firstA_is l []).1, fun x hx => ((firstA_is l []).2 x hx).1⟩
theorem diff_15 {old now : List En} (ho : ∀ e ∈ old, Mk e) (hn : ∀ e ∈ now, Mk e) (t : Int) : (diffE old now t).length < 20 := by
  unfold diffE
  rw [(sort_perm _).length_eq]
  obtain ⟨n1, n2⟩ := first_is now
  obtain ⟨o1, o2⟩ := first_is old
  have hnd : nd ((firstE now).filter (chg old) ++ ((firstE old).filter (fun e => (findE now e).isNone)).map (gone t)) := by
    refine nd_iff.2 (List.pairwise_append.2 ⟨nd_iff.1 (n1.filter _), ?_, fun x hx y hy => ?_⟩)
    · rw [List.pairwise_map]
      exact nd_iff.1 (o1.filter _)
    · obtain ⟨e, he, rfl⟩ := List.mem_map.1 hy
      obtain ⟨-, he2⟩ := List.mem_filter.1 he
      rw [Option.isNone_iff_eq_none] at he2
      exact findE_none'.1 he2 x (n2 x (List.mem_filter.1 hx).1)
  have := nd_15 hnd fun e he => by
    rcases List.mem_append.1 he with q | q
    · exact hn e (n2 e (List.mem_filter.1 q).1)
    · obtain ⟨x, hx, rfl⟩ := List.mem_map.1 q
      exact ho x (o2 x (List.mem_filter.1 hx).1)
  omega
theorem comb_15 {base delta : List En} (ho : ∀ e ∈ base, Mk e) (hn : ∀ e ∈ delta, Mk e) : (combE base delta).1.length < 20 := by
  unfold combE
  cases hb : dupE base with
  | true => simp
  | false =>
    cases hd : dupE delta with
    | true => simp
    | false =>
      simp only [Bool.or_self, Bool.false_eq_true, if_false]
      split
      · simp
      · rw [(sort_perm _).length_eq]
        have hnd : nd (base.filter (fun e => (findE delta e).isNone) ++ delta.filter (fun e => decide (e.r ≠ 8))) := by
          refine nd_iff.2 (List.pairwise_append.2 ⟨nd_iff.1 (nd.filter ((dup_iff _).1 hb) _), nd_iff.1 (nd.filter ((dup_iff _).1 hd) _), fun x hx y hy => ?_⟩)
          obtain ⟨-, h2⟩ := List.mem_filter.1 hx
          rw [Option.isNone_iff_eq_none] at h2
          exact fun e => findE_none'.1 h2 y (List.mem_filter.1 hy).1 e.symm
        have := nd_15 hnd fun e he => by
          rcases List.mem_append.1 he with q | q
          · exact ho e (List.mem_filter.1 q).1
          · exact hn e (List.mem_filter.1 q).1
        omega
theorem EnOk.mk_ {plain : Bool} {l : List Et} (h : EnOk plain l) : ∀ e ∈ ens l, Mk e := fun e he => by
  obtain ⟨x, hx, rfl⟩ := List.mem_map.1 he
  exact ⟨h.s5 x hx, h.i4 x hx⟩
/-- entries that lie in blocks from B on, whatever happens elsewhere -/
theorem EN.far {w w' : World} {B : Nat} {v : Value} {l : List Et} (h : EN w B v l) (hs : w.heap.size ≤ w'.heap.size) (hk : ∀ k, B ≤ k → k < w.heap.size → w'.heap[k]? = w.heap[k]?) : EL w' v l :=
  ⟨h.own.rd.keep hs fun k q hlt => hk k (h.own.lt k q).1 hlt, fun x hx => ((h.nm x hx).keep hs fun k q hlt => hk k q.1 hlt).at_⟩
end Go.Proofs.Ytpagoinnkknkfaa.Pb
