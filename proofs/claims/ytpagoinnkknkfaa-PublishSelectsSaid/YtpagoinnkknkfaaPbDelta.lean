/-
  A difference, applied to its base, gives the present entries: plain.
-/
import Derived.Test.YtpagoinnkknkfaaPbRCur
import Derived.Test.YtpagoinnkknkfaaPbSame
namespace Go.Proofs.Ytpagoinnkknkfaa.Pb
open Go Go.Proofs.Ytpagoinnkknkfaa.St
set_option linter.unusedVariables false

abbrev Key := Int × List (B × B)
/-- all that SameEntries looks at -/
def cano (e : En) : Key × Int × Int × Int := (keyE e, e.t, e.r, e.v)
theorem same1_iff {x y : En} : same1 x y = true ↔ cano x = cano y := by
  unfold same1 cano about
  simp only [Bool.and_eq_true, decide_eq_true_eq, beq_iff_eq, Prod.mk.injEq, and_assoc]
theorem sameB_iff : ∀ {l m : List En}, sameB l m = true ↔ l.map cano = m.map cano
  | [], [] => by simp [sameB]
  | [], _ :: _ => by simp [sameB]
  | _ :: _, [] => by simp [sameB]
  | x :: l, y :: m => by
    rw [sameB, Bool.and_eq_true, same1_iff, sameB_iff, List.map_cons, List.map_cons, List.cons.injEq]
/-- no two entries about one certificate -/
def nd (l : List En) : Prop := (l.map keyE).Nodup
theorem nd_iff {l : List En} : nd l ↔ l.Pairwise (fun a b => keyE a ≠ keyE b) := by
  unfold nd; rw [List.nodup_iff_pairwise_ne, List.pairwise_map]
theorem nd.filter {l : List En} (h : nd l) (p : En → Bool) : nd (l.filter p) := nd_iff.2 ((nd_iff.1 h).filter p)
theorem nd.cano {l : List En} (h : nd l) : (l.map cano).Nodup := by
  rw [List.nodup_iff_pairwise_ne, List.pairwise_map]
  exact (nd_iff.1 h).imp fun h e => h (by unfold Pb.cano at e; simp only [Prod.mk.injEq] at e; exact e.1)
theorem nd.inj {l : List En} (h : nd l) {x y : En} (hx : x ∈ l) (hy : y ∈ l) (e : keyE x = keyE y) : x = y := by
  induction l with
  | nil => cases hx
  | cons a l ih =>
    have h1 := List.pairwise_cons.1 (nd_iff.1 h)
    rcases List.mem_cons.1 hx with q | q
    · rcases List.mem_cons.1 hy with q' | q'
      · rw [q, q']
      · exact absurd (q ▸ e) (h1.1 y q')
    · rcases List.mem_cons.1 hy with q' | q'
      · exact absurd (q' ▸ e.symm) (h1.1 x q)
      · exact ih (nd_iff.2 h1.2) q q'
theorem findE_none' {l : List En} {e : En} : findE l e = none ↔ ∀ x ∈ l, keyE x ≠ keyE e := by
  rw [find_none]; simp [about]
theorem findE_mem {l : List En} {e x : En} (h : findE l e = some x) : x ∈ l ∧ keyE x = keyE e := by
  unfold findE at h
  have h1 := List.find?_some h
  exact ⟨List.mem_of_find?_eq_some h, by simpa [about] using h1⟩
theorem findE_at {l : List En} (hl : nd l) {e x : En} (hx : x ∈ l) (he : keyE x = keyE e) : findE l e = some x := by
  cases q : findE l e with
  | none => exact absurd he (findE_none'.1 q x hx)
  | some y =>
    obtain ⟨hy, hk⟩ := findE_mem q
    rw [hl.inj hy hx (hk.trans he.symm)]
theorem firstA_nd : ∀ (l pre : List En), nd l → (∀ x ∈ l, findE pre x = none) → firstA pre l = l
  | [], _, _, _ => rfl
  | a :: l, pre, h, hp => by
    have h1 := List.pairwise_cons.1 (nd_iff.1 h)
    rw [firstA, hp a (by simp), if_neg (by simp), firstA_nd l _ (nd_iff.2 h1.2)]
    intro x hx
    refine findE_none'.2 fun y hy => ?_
    rw [List.mem_append, List.mem_singleton] at hy
    rcases hy with hy | rfl
    · exact findE_none'.1 (hp x (by simp [hx])) y hy
    · exact h1.1 x hx
theorem first_nd {l : List En} (h : nd l) : firstE l = l := firstA_nd l [] h fun _ _ => rfl
theorem dup_nd {l : List En} (h : nd l) : dupE l = false := (dup_iff l).2 h
theorem gone_key (t : Int) (e : En) : keyE (gone t e) = keyE e := rfl
/-- what Difference says of two lists without doubles -/
def diffX (old now : List En) (t : Int) : List En := now.filter (chg old) ++ (old.filter (fun e => (findE now e).isNone)).map (gone t)
theorem diff_nd {old now : List En} (ho : nd old) (hn : nd now) (t : Int) : diffE old now t = sortE (diffX old now t) := by
  unfold diffE diffX; rw [first_nd ho, first_nd hn]
theorem diffX_nd {old now : List En} (ho : nd old) (hn : nd now) (t : Int) : nd (diffX old now t) := by
  unfold diffX
  refine nd_iff.2 (List.pairwise_append.2 ⟨nd_iff.1 (hn.filter _), ?_, fun x hx y hy => ?_⟩)
  · rw [List.pairwise_map]
    exact nd_iff.1 (ho.filter _)
  · obtain ⟨e, he, rfl⟩ := List.mem_map.1 hy
    obtain ⟨-, he2⟩ := List.mem_filter.1 he
    rw [Option.isNone_iff_eq_none] at he2
    exact findE_none'.1 he2 x (List.mem_filter.1 hx).1
/-- what stays of the base, as it is -/
theorem stay_perm {old now : List En} (ho : nd old) (hn : nd now) (t : Int) : ((old.filter (fun e => (findE (diffX old now t) e).isNone)).map cano).Perm ((now.filter (fun e => !chg old e)).map cano) := by
  have hX := diffX_nd ho hn t
  refine (List.perm_ext_iff_of_nodup (ho.filter _).cano (hn.filter _).cano).2 fun a => ?_
  simp only [List.mem_map, List.mem_filter]
  constructor
  · rintro ⟨x, ⟨hx, hf⟩, rfl⟩
    rw [Option.isNone_iff_eq_none] at hf
    have hf := findE_none'.1 hf
    cases q : findE now x with
    | none =>
      refine absurd (gone_key t x) (hf (gone t x) ?_)
      unfold diffX
      exact List.mem_append_right _ (List.mem_map_of_mem (List.mem_filter.2 ⟨hx, by rw [q]; rfl⟩))
    | some y =>
      obtain ⟨hy, hk⟩ := findE_mem q
      have hc : chg old y = false := by
        cases c : chg old y with
        | false => rfl
        | true =>
          refine absurd hk (hf y ?_)
          unfold diffX
          exact List.mem_append_left _ (List.mem_filter.2 ⟨hy, c⟩)
      refine ⟨y, ⟨hy, by rw [hc]; rfl⟩, ?_⟩
      unfold chg at hc
      rw [findE_at ho hx hk.symm] at hc
      simp only [otherE, Bool.or_eq_false_iff, decide_eq_false_iff_not, Decidable.not_not] at hc
      unfold Pb.cano
      rw [hk, hc.1.1, hc.1.2, hc.2]
  · rintro ⟨y, ⟨hy, hc⟩, rfl⟩
    rw [Bool.not_eq_true'] at hc
    have hc0 := hc
    unfold chg at hc
    cases q : findE old y with
    | none => rw [q] at hc; cases hc
    | some o =>
      rw [q] at hc
      simp only [otherE, Bool.or_eq_false_iff, decide_eq_false_iff_not, Decidable.not_not] at hc
      obtain ⟨hoo, hk⟩ := findE_mem q
      refine ⟨o, ⟨hoo, ?_⟩, by unfold Pb.cano; rw [hk, hc.1.1, hc.1.2, hc.2]⟩
      rw [Option.isNone_iff_eq_none]
      refine findE_none'.2 fun d hd he => ?_
      unfold diffX at hd
      rcases List.mem_append.1 hd with hd | hd
      · obtain ⟨h1, h2⟩ := List.mem_filter.1 hd
        have := hn.inj h1 hy (he.trans hk)
        rw [this, hc0] at h2; cases h2
      · obtain ⟨e, he2, rfl⟩ := List.mem_map.1 hd
        obtain ⟨-, he3⟩ := List.mem_filter.1 he2
        rw [Option.isNone_iff_eq_none] at he3
        exact findE_none'.1 he3 y hy (hk.symm.trans (he.symm.trans (gone_key t e)))
theorem isNone_perm {l m : List En} (h : l.Perm m) (e : En) : (findE l e).isNone = (findE m e).isNone := by
  rw [Bool.eq_iff_iff, Option.isNone_iff_eq_none, Option.isNone_iff_eq_none, findE_none', findE_none']
  exact ⟨fun q x hx => q x (h.mem_iff.2 hx), fun q x hx => q x (h.mem_iff.1 hx)⟩
theorem round_plain {old now : List En} (ho : nd old) (hn : nd now) (h8o : ∀ e ∈ old, e.r ≠ 8) (h8n : ∀ e ∈ now, e.r ≠ 8) (t : Int) :
    ∃ C0, combE old (diffE old now t) = (sortE C0, 0) ∧ (C0.map cano).Perm (now.map cano) := by
  have hX := diffX_nd ho hn t
  have hD : (diffE old now t).Perm (diffX old now t) := by rw [diff_nd ho hn]; exact sort_perm _
  have hDn : dupE (diffE old now t) = false := by rw [dup_perm hD]; exact dup_nd hX
  have h8 : old.any (fun e => decide (e.r = 8)) = false := by
    rw [List.any_eq_false]; intro e he; simp; exact h8o e he
  refine ⟨old.filter (fun e => (findE (diffE old now t) e).isNone) ++ (diffE old now t).filter (fun e => decide (e.r ≠ 8)), ?_, ?_⟩
  · unfold combE
    rw [dup_nd ho, hDn, h8]
    simp
  · have e1 : (fun e => (findE (diffE old now t) e).isNone) = fun e => (findE (diffX old now t) e).isNone := funext fun e => isNone_perm hD e
    have e2 : (diffX old now t).filter (fun e => decide (e.r ≠ 8)) = now.filter (chg old) := by
      unfold diffX
      rw [List.filter_append, List.filter_filter, List.filter_map]
      have h1 : (old.filter (fun e => (findE now e).isNone)).filter ((fun e : En => decide (e.r ≠ 8)) ∘ gone t) = [] := by
        rw [List.filter_eq_nil_iff]; intro e _; simp [gone]
      rw [h1, List.map_nil, List.append_nil]
      refine List.filter_congr fun e he => ?_
      simp [h8n e he]
    rw [List.map_append, e1]
    have h3 := ((hD.filter (fun e => decide (e.r ≠ 8))).map cano)
    rw [e2] at h3
    refine ((stay_perm ho hn t).append h3).trans ?_
    rw [← List.map_append]
    refine (List.perm_append_comm.trans ?_).map cano
    exact List.filter_append_perm _ _
/-- with one issuer and ascending serials: the very same list -/
theorem sorted_cano {C0 now : List En} (hp : (C0.map cano).Perm (now.map cano)) (hs : now.Pairwise (fun a b => a.s < b.s)) : sameB (sortE C0) now = true := by
  rw [sameB_iff]
  have h1 : ((sortE C0).map cano).Perm (now.map cano) := ((sort_perm C0).map cano).trans hp
  have h2 : ((sortE C0).map cano).Pairwise (fun a b => a.1.1 ≤ b.1.1) := by
    rw [List.pairwise_map]
    refine (sortE_ok C0).1.imp fun {a b} h => ?_
    simp [ltN] at h; exact h
  have h3 : (now.map cano).Pairwise (fun a b => a.1.1 < b.1.1) := by
    rw [List.pairwise_map]; exact hs
  refine h1.eq_of_pairwise (le := fun a b => a.1.1 ≤ b.1.1) (fun a b ha hb hab hba => ?_) h2 (h3.imp fun {a b} h => Int.le_of_lt h)
  have ha' := h1.mem_iff.1 ha
  have hab : a.1.1 = b.1.1 := by omega
  clear ha hba h1 h2
  revert ha' hb h3
  generalize now.map cano = L
  intro h3 hb ha
  induction L with
  | nil => cases ha
  | cons c L ih =>
    have h := List.pairwise_cons.1 h3
    rcases List.mem_cons.1 ha with q | q
    · rcases List.mem_cons.1 hb with q' | q'
      · rw [q, q']
      · have := h.1 b q'; rw [← q] at this; omega
    · rcases List.mem_cons.1 hb with q' | q'
      · have := h.1 a q; rw [← q'] at this; omega
      · exact ih h.2 q' q
theorem cur_nd (nm : Nm) (l : List Ch) : nd (curE nm l) := nd_iff.2 ((curE_lt nm l).imp fun {a b} h e => by
  have : a.s = b.s := congrArg Prod.fst e
  omega)
theorem cur_8 (nm : Nm) (l : List Ch) : ∀ e ∈ curE nm l, e.r ≠ 8 := by
  intro e he
  have := (curE_mem nm l e).1 he
  unfold curOne at this
  split at this
  · split at this
    · cases this
    · rename_i h; simp only [Option.some.injEq] at this; rw [← this]; exact h
  · cases this
/-- at most six entries, as there are six serials -/
theorem cur_six (nm : Nm) (l : List Ch) (h : ∀ c ∈ l, 0 ≤ c.s ∧ c.s ≤ 5) : (curE nm l).length ≤ 6 := by
  have h1 : (curE nm l).Pairwise (fun a b => a.s < b.s) := curE_lt nm l
  have h2 : ∀ e ∈ curE nm l, 0 ≤ e.s ∧ e.s ≤ 5 := by
    intro e he
    have h3 := (curE_mem nm l e).1 he
    unfold curOne at h3
    have h4 : (lastOf l e.s).isSome = true := by
      cases q : lastOf l e.s with
      | none => rw [q] at h3; cases h3
      | some c => rfl
    obtain ⟨c, hc, hs⟩ := (last_isSome l e.s).1 h4
    rw [← hs]; exact h c hc
  have key : ∀ (L : List En) (a : Int), L.Pairwise (fun a b => a.s < b.s) → (∀ e ∈ L, a ≤ e.s ∧ e.s ≤ 5) → a ≤ 6 → (L.length : Int) ≤ 6 - a := by
    intro L
    induction L with
    | nil => intro a _ _ ha; simp; omega
    | cons e L ih =>
      intro a hp hm ha
      have hq := List.pairwise_cons.1 hp
      have he := hm e (by simp)
      have := ih (e.s + 1) hq.2 (fun x hx => ⟨by have := hq.1 x hx; omega, (hm x (by simp [hx])).2⟩) (by omega)
      simp only [List.length_cons]
      omega
  have := key _ 0 h1 h2 (by omega)
  omega
theorem delta_plain (nm : Nm) (l m : List Ch) (t : Int) : ∃ C, combE (curE nm l) (diffE (curE nm l) (curE nm m) t) = (C, 0) ∧ sameB C (curE nm m) = true := by
  obtain ⟨C0, h1, h2⟩ := round_plain (cur_nd nm l) (cur_nd nm m) (cur_8 nm l) (cur_8 nm m) t
  exact ⟨_, h1, sorted_cano h2 (curE_lt nm m)⟩
theorem diff_self {l : List En} (h : nd l) (t : Int) : diffE l l t = [] := by
  have h1 : l.filter (chg l) = [] := by
    rw [List.filter_eq_nil_iff]
    intro e he
    unfold chg
    rw [findE_at h he rfl]; simp [otherE]
  have h2 : l.filter (fun e => (findE l e).isNone) = [] := by
    rw [List.filter_eq_nil_iff]
    intro e he
    rw [findE_at h he rfl]; simp
  rw [diff_nd h h]
  unfold diffX
  rw [h1, h2]; rfl
end Go.Proofs.Ytpagoinnkknkfaa.Pb
