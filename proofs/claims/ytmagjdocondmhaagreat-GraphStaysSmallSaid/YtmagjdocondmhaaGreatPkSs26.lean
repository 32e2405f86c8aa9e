/-
Pruning makes a graph valid: plain Lean.
The reference's Sources and Subjects.
Enter and Map keep graphs valid, and levels small: plain Lean.
made.Policy, made2.Policies, made2.Mappings.
-/
import Derived.Test.YtmagjdocondmhaaGreatPkSs22
import Derived.Test.YtmagjdocondmhaaGreatPkSs08
import Derived.Test.YtmagjdocondmhaaGreatPkSs17
import Derived.Test.YtmagjdocondmhaaGreatPkSs06
import Derived.Test.YtmagjdocondmhaaGreatPkSs25
import Derived.Test.YtmagjdocondmhaaGreatPkSs11
import Derived.Test.YtmagjdocondmhaaGreatPkSs01
namespace Go.Proofs.YtmagjdocondmhaaGreat.Tr.Gr
open Go Go.RowKit Go.Proofs.YtmagjdocondmhaaGreat.Slc Go.Proofs.YtmagjdocondmhaaGreat.St Go.Proofs.YtmagjdocondmhaaGreat.Mp Go.Proofs.YtmagjdocondmhaaGreat.Tr Go.Proofs.YtmagjdocondmhaaGreat.Rg
set_option linter.unusedVariables false
set_option linter.unusedSimpArgs false

abbrev OrdP (l : List Vx) : Prop := l.Pairwise fun a b => a.pol < b.pol
/-- a vertex that may lie below a level, with or without parents -/
structure FitP (v : Vx) (ab : List Vx) : Prop where
  ex : ascB v.ex = true
  asc : v.par.Pairwise (· < ·)
  rg : ∀ p ∈ v.par, 0 ≤ p ∧ p < (ab.length : Int)
  sp : specV v = true → v.par.length ≤ 1 ∧ (∀ p ∈ v.par, specV ab[p.toNat]! = true) ∧ onlyB v.ex = true
  ns : specV v = false → anyP ∉ v.ex
/-- a graph that is valid but for vertices without parents or children -/
structure PV (g : List (List Vx)) : Prop where
  top : topB g[0]! = true ∨ g[0]! = []
  ord : ∀ (k : Nat), OrdP g[k]!
  fit : ∀ k, k + 1 < g.length → ∀ v ∈ g[k + 1]!, FitP v g[k]!
theorem renP_asc {m : List Bool} {ps : List Int} (h : ps.Pairwise (· < ·)) (h0 : ∀ p ∈ ps, 0 ≤ p) : (renP m ps).Pairwise (· < ·) := by
  unfold renP
  rw [List.pairwise_map]
  refine List.Pairwise.imp_of_mem ?_ (h.filter _)
  intro a b ha hb hab
  have h1 := List.mem_filter.1 ha
  have h2 := List.mem_filter.1 hb
  have a0 := h0 a h1.1
  have b0 := h0 b h2.1
  have := rk_lt m (i := a.toNat) (j := b.toNat) (by omega) h1.2
  omega
theorem onlyB_len {l : List Vx} (h : topB l = true) : ∃ v, l = [v] ∧ specV v = true ∧ onlyB v.ex = true ∧ v.par = [] := by
  unfold topB at h
  simp only [Bool.and_eq_true, decide_eq_true_eq] at h
  obtain ⟨v, rfl⟩ := List.length_eq_one_iff.1 h.1
  exact ⟨v, rfl, h.2.1, h.2.2.1, List.length_eq_zero_iff.1 h.2.2.2⟩
theorem keepT_ord {l : List Vx} (h : OrdP l) (m : List Bool) : OrdP (keepT l m l.length) := h.sublist (keepT_sub l m)
theorem renL_ord {l : List Vx} (h : OrdP l) (m : List Bool) : OrdP (l.map (renV m)) := by
  unfold OrdP
  rw [List.pairwise_map]
  exact h
theorem FitP.ren {v : Vx} {ab : List Vx} (h : FitP v ab) (m : List Bool) : FitP (renV m v) (keepT ab m ab.length) := by
  refine ⟨h.ex, renP_asc h.asc fun p hp => (h.rg p hp).1, fun q hq => ?_, fun hs => ?_, h.ns⟩
  · rw [keepT_len]; exact renP_in h.rg q hq
  · obtain ⟨h1, h2, h3⟩ := h.sp hs
    refine ⟨Nat.le_trans (renP_len _ _) h1, fun q hq => ?_, h3⟩
    unfold renV renP at hq
    obtain ⟨p, hp, rfl⟩ := List.mem_map.1 hq
    obtain ⟨hp1, hp2⟩ := List.mem_filter.1 hp
    have hr := h.rg p hp1
    obtain ⟨-, h5⟩ := keepT_at (l := ab) (m := m) (p := p.toNat) (n := ab.length) (by omega) hp2
    rw [Int.toNat_natCast, h5]
    exact h2 p hp1
theorem FitP.map {v : Vx} {ab : List Vx} (h : FitP v ab) (m : List Bool) : FitP v (ab.map (renV m)) := by
  refine ⟨h.ex, h.asc, fun p hp => by rw [List.length_map]; exact h.rg p hp, fun hs => ?_, h.ns⟩
  obtain ⟨h1, h2, h3⟩ := h.sp hs
  refine ⟨h1, fun p hp => ?_, h3⟩
  have hr := h.rg p hp
  have := h2 p hp
  rw [getElem!_pos ab p.toNat (by omega)] at this
  rw [getElem!_pos (ab.map (renV m)) p.toNat (by rw [List.length_map]; omega), List.getElem_map]
  exact this
theorem PV.filt {g : List (List Vx)} (h : PV g) {k : Nat} (hk : k < g.length) (m : List Bool) : PV (filtG g k m) := by
  refine ⟨?_, fun j => ?_, fun j hj v hv => ?_⟩
  · rw [filtG_at hk 0]
    by_cases e : 0 = k
    · rw [if_pos e]
      subst e
      rcases h.top with h1 | h1
      · obtain ⟨v, hv, -⟩ := onlyB_len h1
        rw [hv] at h1 ⊢
        have : keepT [v] m [v].length = if m[0]! then [v] else [] := by
          rw [show [v].length = 0 + 1 from rfl, keepT_succ]; simp [keepT]
        rw [this]
        split
        · exact .inl h1
        · exact .inr rfl
      · rw [h1]; exact .inr rfl
    · rw [if_neg e, if_neg (by omega)]; exact h.top
  · rw [filtG_at hk j]
    split
    · exact keepT_ord (h.ord k) m
    · split
      · exact renL_ord (h.ord j) m
      · exact h.ord j
  · rw [filtG_len] at hj
    rw [filtG_at hk (j + 1)] at hv
    rw [filtG_at hk j]
    by_cases e1 : j + 1 = k
    · rw [if_pos e1] at hv
      rw [if_neg (by omega), if_neg (by omega)]
      have hv' := keepT_mem (Nat.le_refl _) hv
      rw [← e1] at hv'
      exact h.fit j hj v hv'
    · rw [if_neg e1] at hv
      by_cases e2 : j + 1 = k + 1
      · rw [if_pos e2] at hv
        have e3 : j = k := by omega
        subst e3
        rw [if_pos rfl]
        obtain ⟨u, hu, rfl⟩ := List.mem_map.1 hv
        exact (h.fit j hj u hu).ren m
      · rw [if_neg e2] at hv
        rw [if_neg (by omega)]
        by_cases e4 : j = k + 1
        · rw [if_pos e4]; exact (h.fit j hj v hv).map m
        · rw [if_neg e4]; exact h.fit j hj v hv
theorem fwdG_pv {g : List (List Vx)} (h : PV g) : ∀ n, n < g.length ∨ n = 0 → PV (fwdG g n)
  | 0, _ => h
  | n + 1, hn => by
    rw [fwdG]
    exact (fwdG_pv h n (by omega)).filt (by rw [fwdG_len]; omega) _
/-- behind the way down each vertex has parents -/
theorem fwdG_par (g : List (List Vx)) : ∀ n, n < g.length ∨ n = 0 → ∀ k, 1 ≤ k → k ≤ n → ∀ v ∈ (fwdG g n)[k]!, v.par ≠ []
  | 0, _, k, h1, h2 => by omega
  | n + 1, hn, k, h1, h2 => by
    intro v hv
    rw [fwdG, filtG_at (by rw [fwdG_len]; omega) k] at hv
    by_cases e : k = n + 1
    · rw [if_pos e] at hv
      unfold keepT at hv
      obtain ⟨j, hj, rfl⟩ := List.mem_map.1 hv
      obtain ⟨hj1, hj2⟩ := List.mem_filter.1 hj
      rw [List.mem_range] at hj1
      rw [marksA_at _ j hj1, decide_eq_true_eq] at hj2
      intro e2
      rw [e2] at hj2; simp at hj2
    · rw [if_neg e, if_neg (by omega)] at hv
      exact fwdG_par g n (by omega) k h1 (by omega) v hv
/-- what the way up has done -/
structure BW (g : List (List Vx)) (lo : Nat) : Prop where
  pv : PV g
  par : ∀ k, 1 ≤ k → k < g.length → ∀ v ∈ g[k]!, v.par ≠ []
  cov : ∀ k, lo ≤ k → k + 1 < g.length → ∀ (j : Nat), j < (g[k]!).length → ∃ v ∈ g[k + 1]!, (j : Int) ∈ v.par
theorem marksB_at {n : Nat} {bl : List Vx} {j : Nat} (hj : j < n) : (marksB n bl)[j]! = bl.any fun v => decide ((j : Int) ∈ v.par) := by
  unfold marksB
  rw [getElem!_pos _ j (by simpa using hj)]; simp
theorem renP_all {m : List Bool} {ps : List Int} (h : ∀ p ∈ ps, m[p.toNat]! = true) : renP m ps = ps.map fun p => ((rk m p.toNat : Nat) : Int) := by
  unfold renP
  rw [List.filter_eq_self.2 h]
theorem keepT_idx {α : Type} [Inhabited α] {l : List α} {m : List Bool} {n r : Nat} (hr : r < (keepT l m n).length) : ∃ j, j < n ∧ m[j]! = true ∧ rk m j = r := by
  induction n with
  | zero => simp [keepT] at hr
  | succ n ih =>
    rw [keepT_succ] at hr
    by_cases h : r < (keepT l m n).length
    · obtain ⟨j, h1, h2, h3⟩ := ih h
      exact ⟨j, by omega, h2, h3⟩
    · cases hm : m[n]! with
      | false => rw [hm] at hr; simp at hr; omega
      | true =>
        rw [hm] at hr
        simp at hr
        exact ⟨n, by omega, hm, by rw [keepT_len] at h hr; omega⟩
theorem BW.step {g : List (List Vx)} {lo : Nat} (h : BW g (lo + 1)) (hl : lo + 1 < g.length) : BW (filtG g lo (marksB (g[lo]!).length g[lo + 1]!)) lo := by
  have hk : lo < g.length := by omega
  have hfull : ∀ u ∈ g[lo + 1]!, ∀ p ∈ u.par, (marksB (g[lo]!).length g[lo + 1]!)[p.toNat]! = true := fun u hu p hp => by
    have hr := (h.pv.fit lo hl u hu).rg p hp
    rw [marksB_at (by omega), List.any_eq_true]
    exact ⟨u, hu, by rw [decide_eq_true_eq, Int.toNat_of_nonneg hr.1]; exact hp⟩
  refine ⟨h.pv.filt hk _, fun k h1 h2 v hv => ?_, fun k h1 h2 j hj => ?_⟩
  · rw [filtG_len] at h2
    rw [filtG_at hk k] at hv
    by_cases e : k = lo
    · rw [if_pos e] at hv
      have hv' := keepT_mem (Nat.le_refl _) hv
      exact h.par lo (by omega) hk v hv'
    · rw [if_neg e] at hv
      by_cases e2 : k = lo + 1
      · rw [if_pos e2] at hv
        obtain ⟨u, hu, rfl⟩ := List.mem_map.1 hv
        rw [e2] at hu
        have := h.par (lo + 1) (by omega) hl u hu
        unfold renV
        simp only
        rw [renP_all (hfull u hu)]
        simpa using this
      · rw [if_neg e2] at hv
        exact h.par k h1 h2 v hv
  · rw [filtG_len] at h2
    rw [filtG_at hk k] at hj
    rw [filtG_at hk (k + 1)]
    by_cases e : k = lo
    · subst e
      rw [if_pos rfl] at hj
      rw [if_neg (by omega), if_pos rfl]
      obtain ⟨i, hi, hm, rfl⟩ := keepT_idx hj
      have hm' := hm
      rw [marksB_at hi, List.any_eq_true] at hm'
      obtain ⟨u, hu, hui⟩ := hm'
      rw [decide_eq_true_eq] at hui
      refine ⟨_, List.mem_map.2 ⟨u, hu, rfl⟩, ?_⟩
      unfold renV renP
      refine List.mem_map.2 ⟨(i : Int), List.mem_filter.2 ⟨hui, ?_⟩, ?_⟩
      · rw [Int.toNat_natCast]; exact hm
      · rw [Int.toNat_natCast]
    · rw [if_neg e] at hj
      rw [if_neg (by omega), if_neg (by omega)]
      have hj' : j < (g[k]!).length := by
        split at hj
        · rwa [List.length_map] at hj
        · exact hj
      exact h.cov k (by omega) h2 j hj'
theorem bwdG_bw {g : List (List Vx)} (h : BW g (g.length - 1)) (hl : 0 < g.length) : ∀ n, n ≤ g.length - 1 → BW (bwdG g n) (g.length - 1 - n)
  | 0, _ => h
  | n + 1, hn => by
    have h1 := bwdG_bw h hl n (by omega)
    obtain ⟨lo, hlo⟩ : ∃ lo, lo = g.length - 1 - (n + 1) := ⟨_, rfl⟩
    rw [show g.length - 1 - n = lo + 1 by omega] at h1
    rw [bwdG, show g.length - 2 - n = lo by omega, ← hlo]
    exact h1.step (by rw [bwdG_len]; omega)
theorem PV.good {g : List (List Vx)} (h : BW g 0) (hl : 0 < g.length) (hne : ∀ l ∈ g, l ≠ []) : gvalidB g = true := by
  have hn : ∀ k, k < g.length → g[k]! ≠ [] := fun k hk => by rw [getElem!_pos g k hk]; exact hne _ (List.getElem_mem hk)
  unfold gvalidB
  rw [decide_eq_false (by omega), Bool.false_or, Bool.and_eq_true]
  refine ⟨h.pv.top.elim id fun e => absurd e (hn 0 hl), ?_⟩
  rw [List.all_eq_true]
  intro k hk
  rw [List.mem_range] at hk
  have hk1 : k + 1 < g.length := by omega
  unfold lvlB
  rw [Bool.and_eq_true, Bool.and_eq_true, List.all_eq_true, List.all_eq_true]
  refine ⟨fun i hi => ?_, decide_eq_true (fun e => hn (k + 1) hk1 (List.length_eq_zero_iff.1 e)), fun j hj => ?_⟩
  · rw [List.mem_range] at hi
    have hm : (g[k + 1]!)[i]! ∈ g[k + 1]! := by rw [getElem!_pos _ i hi]; exact List.getElem_mem hi
    have hf := h.pv.fit k hk1 _ hm
    have hp := h.par (k + 1) (by omega) hk1 _ hm
    rw [Bool.and_eq_true]
    constructor
    · obtain ⟨v, hv⟩ : ∃ v, v = (g[k + 1]!)[i]! := ⟨_, rfl⟩
      rw [← hv] at hf hp ⊢
      have hlen : 0 < v.par.length := List.length_pos_iff.2 hp
      have h0 := hf.rg v.par[0]! (by rw [getElem!_pos v.par 0 hlen]; exact List.getElem_mem _)
      have h1 := hf.rg v.par[v.par.length - 1]! (by rw [getElem!_pos v.par (v.par.length - 1) (by omega)]; exact List.getElem_mem _)
      unfold gfitB
      rw [Bool.and_eq_true]
      constructor
      · unfold badV
        have hai : ascI v.par = true := by
          unfold ascI
          rw [Bool.and_eq_true, decide_eq_true_eq]
          exact ⟨hf.asc, by cases e : v.par with
            | nil => exact absurd e hp
            | cons a b => rfl⟩
        rw [hf.ex, hai, decide_eq_false (by omega), decide_eq_false (by omega)]; rfl
      · cases hs : specV v with
        | true =>
          obtain ⟨a1, a2, a3⟩ := hf.sp hs
          simp only [if_true, Bool.and_eq_true, decide_eq_true_eq]
          exact ⟨by omega, a2 _ (by rw [getElem!_pos v.par 0 hlen]; exact List.getElem_mem _), a3⟩
        | false =>
          simp only [Bool.false_eq_true, if_false, Bool.not_eq_true', decide_eq_false_iff_not]
          exact hf.ns hs
    · unfold ordB
      rcases Nat.eq_zero_or_pos i with e | e
      · rw [decide_eq_true e]; rfl
      · have ho := List.pairwise_iff_getElem.1 (h.pv.ord (k + 1)) (i - 1) i (by omega) hi (by omega)
        rw [Bool.or_eq_true, decide_eq_true_eq, decide_eq_true_eq]
        right
        rw [getElem!_pos _ (i - 1) (by omega), getElem!_pos _ i hi]
        exact ho
  · rw [List.mem_range] at hj
    obtain ⟨v, hv, hjv⟩ := h.cov k (by omega) hk1 j hj
    rw [List.any_eq_true]
    exact ⟨v, hv, decide_eq_true hjv⟩
/-- pruning makes valid -/
theorem prune_valid {g : List (List Vx)} (h : PV g) : gvalidB (pruneG g) = true := by
  unfold pruneG
  simp only
  rcases Nat.eq_zero_or_pos g.length with h0 | hl
  · have : g = [] := List.length_eq_zero_iff.1 h0
    subst this
    rfl
  have h1 := fwdG_pv h (g.length - 1) (.inl (by omega))
  have hbw : BW (fwdG g (g.length - 1)) ((fwdG g (g.length - 1)).length - 1) := by
    refine ⟨h1, fun k a b v hv => ?_, fun k a b => by omega⟩
    rw [fwdG_len] at b
    exact fwdG_par g (g.length - 1) (.inl (by omega)) k a (by omega) v hv
  have h2 := bwdG_bw hbw (by rw [fwdG_len]; exact hl) (g.length - 1) (by rw [fwdG_len]; exact Nat.le_refl _)
  rw [fwdG_len, Nat.sub_self] at h2
  split
  · rfl
  · rename_i hne
    refine PV.good h2 (by rw [bwdG_len, fwdG_len]; exact hl) fun l hlm e => hne ?_
    rw [List.any_eq_true]
    exact ⟨l, hlm, by rw [e]; rfl⟩
theorem valid_pv {g : List (List Vx)} (h : gvalidB g = true) : PV g := by
  refine ⟨?_, fun k => ?_, fun k hk v hv => ?_⟩
  · rcases Nat.eq_zero_or_pos g.length with h0 | hl
    · right
      rw [getElem!_neg g 0 (by omega)]; rfl
    · left
      unfold gvalidB at h
      rw [decide_eq_false (by omega), Bool.false_or, Bool.and_eq_true] at h
      exact h.1
  · by_cases hk : k < g.length
    · cases k with
      | zero =>
        obtain ⟨v, hv, -⟩ := gvalid_top h hk
        rw [hv]; exact List.pairwise_singleton _ _
      | succ k =>
        unfold gvalidB at h
        rw [decide_eq_false (by omega), Bool.false_or, Bool.and_eq_true] at h
        have h2 := List.all_eq_true.1 h.2 k (by rw [List.mem_range]; omega)
        unfold lvlB at h2
        rw [Bool.and_eq_true, List.all_eq_true] at h2
        have h3 : ∀ i, 0 < i → i < (g[k + 1]!).length → ((g[k + 1]!)[i - 1]!).pol < ((g[k + 1]!)[i]!).pol := fun i h0 hi => by
          have := h2.1 i (by rw [List.mem_range]; exact hi)
          rw [Bool.and_eq_true] at this
          have h4 := this.2
          unfold ordB at h4
          rw [decide_eq_false (by omega), Bool.false_or, decide_eq_true_eq] at h4
          exact h4
        refine List.pairwise_iff_getElem.2 fun i j hi hj hij => ?_
        have key : ∀ d, i + 1 + d < (g[k + 1]!).length → ((g[k + 1]!)[i]!).pol < ((g[k + 1]!)[i + 1 + d]!).pol := by
          intro d
          induction d with
          | zero =>
            intro hd
            have := h3 (i + 1) (by omega) hd
            rwa [Nat.add_sub_cancel] at this
          | succ d ih =>
            intro hd
            have h5 := h3 (i + 1 + (d + 1)) (by omega) hd
            rw [show i + 1 + (d + 1) - 1 = i + 1 + d by omega] at h5
            exact ltB_tr (ih (by omega)) h5
        have := key (j - (i + 1)) (by omega)
        rw [show i + 1 + (j - (i + 1)) = j by omega, getElem!_pos _ i hi, getElem!_pos _ j hj] at this
        exact this
    · rw [getElem!_neg g k hk]; exact List.Pairwise.nil
  · have h1 := (gvalid_at h k hk).2 v hv
    have h2 := gfit_par h1
    unfold gfitB at h1
    rw [Bool.and_eq_true] at h1
    have h3 := h1.1
    unfold badV at h3
    simp only [Bool.not_or, Bool.not_not, Bool.and_eq_true] at h3
    have h4 := h3.2.1
    unfold ascI at h4
    rw [Bool.and_eq_true, decide_eq_true_eq] at h4
    refine ⟨h3.1, h4.1, h2.2.2, fun hs => ?_, fun hs => ?_⟩
    · have h5 := h1.2
      rw [if_pos hs] at h5
      simp only [Bool.and_eq_true, decide_eq_true_eq] at h5
      obtain ⟨p, hp⟩ := List.length_eq_one_iff.1 h5.1
      refine ⟨by omega, fun q hq => ?_, h5.2.2⟩
      rw [hp] at hq h5
      rw [List.mem_singleton] at hq
      subst hq
      exact h5.2.1
    · have h5 := h1.2
      rw [if_neg (by rw [hs]; simp)] at h5
      simpa using h5
end Go.Proofs.YtmagjdocondmhaaGreat.Tr.Gr
namespace Go.Proofs.YtmagjdocondmhaaGreat.Tr
open Go Go.RowKit Go.Proofs.YtmagjdocondmhaaGreat.Slc Go.Proofs.YtmagjdocondmhaaGreat.St Go.Proofs.YtmagjdocondmhaaGreat.Mp Go.Proofs.YtmagjdocondmhaaGreat.Rg
set_option linter.unusedVariables false
set_option linter.unusedSimpArgs false
attribute [local go_sem] Oper.semAt_some

end Go.Proofs.YtmagjdocondmhaaGreat.Tr

namespace Go.Proofs.YtmagjdocondmhaaGreat.Tr
open Go Go.RowKit Go.Proofs.YtmagjdocondmhaaGreat.Slc Go.Proofs.YtmagjdocondmhaaGreat.St Go.Proofs.YtmagjdocondmhaaGreat.Mp Go.Proofs.YtmagjdocondmhaaGreat.Rg
set_option linter.unusedVariables false
set_option linter.unusedSimpArgs false
attribute [local go_sem] Oper.semAt_some

end Go.Proofs.YtmagjdocondmhaaGreat.Tr
namespace Go.Proofs.YtmagjdocondmhaaGreat.Tr.Gr
open Go Go.RowKit Go.Proofs.YtmagjdocondmhaaGreat.Slc Go.Proofs.YtmagjdocondmhaaGreat.St Go.Proofs.YtmagjdocondmhaaGreat.Mp Go.Proofs.YtmagjdocondmhaaGreat.Tr Go.Proofs.YtmagjdocondmhaaGreat.Rg
set_option linter.unusedVariables false
set_option linter.unusedSimpArgs false

/-- what a level of a valid graph says of policies -/
structure LQ (l : List Vx) : Prop where
  ord : OrdP l
  ex : ∀ v ∈ l, ascB v.ex = true
  ns : ∀ v ∈ l, specV v = false → anyP ∉ v.ex
theorem valid_lq {g : List (List Vx)} (h : gvalidB g = true) {k : Nat} (hk : k < g.length) : LQ g[k]! := by
  have hp := valid_pv h
  cases k with
  | zero =>
    obtain ⟨v, hv, -, ho, hs⟩ := gvalid_top h hk
    rw [hv]
    refine ⟨List.pairwise_singleton _ _, fun u hu => ?_, fun u hu hs' => ?_⟩
    · rw [List.mem_singleton] at hu; subst hu
      have : u.ex = [anyP] := of_decide_eq_true ho
      rw [this]; rfl
    · rw [List.mem_singleton] at hu; subst hu; rw [hs] at hs'; cases hs'
  | succ k => exact ⟨hp.ord (k + 1), fun v hv => (hp.fit k hk v hv).ex, fun v hv => (hp.fit k hk v hv).ns⟩
theorem exJ_succ (l : List Vx) (k : Nat) (p : B) : exJ l (k + 1) p = exJ l k p ++ ((l[k]!).ex.filter fun q => decide (q = p)).map fun _ => (k : Int) := by
  unfold exJ
  rw [List.range_succ, List.flatMap_append]; simp
theorem filt_one {l : List B} (h : l.Pairwise (· < ·)) (p : B) : (l.filter fun q => decide (q = p)) = if p ∈ l then [p] else [] := by
  induction l with
  | nil => simp
  | cons x l ih =>
    rw [List.pairwise_cons] at h
    rw [List.filter_cons, ih h.2]
    by_cases e : x = p
    · subst e
      have : x ∉ l := fun hm => ltB_irr _ (h.1 x hm)
      simp [this]
    · have e' : ¬ p = x := fun q => e q.symm
      simp [e, e']
theorem ascB_pw {l : List B} (h : ascB l = true) : l.Pairwise (· < ·) := (ascB_iff.1 h).1
theorem exJ_one {l : List Vx} (h : LQ l) {k : Nat} (hk : k < l.length) (p : B) : exJ l (k + 1) p = exJ l k p ++ if p ∈ (l[k]!).ex then [(k : Int)] else [] := by
  rw [exJ_succ, filt_one (ascB_pw (h.ex _ (by rw [getElem!_pos l k hk]; exact List.getElem_mem hk)))]
  split <;> simp
theorem exJ_asc {l : List Vx} (h : LQ l) (p : B) : ∀ k, k ≤ l.length → (exJ l k p).Pairwise (· < ·)
  | 0, _ => by rw [exJ_zero]; exact List.Pairwise.nil
  | k + 1, hk => by
    rw [exJ_one h (by omega)]
    refine List.pairwise_append.2 ⟨exJ_asc h p k (by omega), ?_, fun a ha b hb => ?_⟩
    · split
      · exact List.pairwise_singleton _ _
      · exact List.Pairwise.nil
    · have := exJ_range l k p a ha
      split at hb
      · rw [List.mem_singleton] at hb; omega
      · cases hb
theorem exJ_has {l : List Vx} {k : Nat} {p : B} {i : Int} (h : i ∈ exJ l k p) : ∃ j, j < k ∧ i = (j : Int) ∧ p ∈ (l[j]!).ex := by
  unfold exJ at h
  obtain ⟨j, hj, h⟩ := List.mem_flatMap.1 h
  obtain ⟨q, hq, rfl⟩ := List.mem_map.1 h
  obtain ⟨h1, h2⟩ := List.mem_filter.1 hq
  rw [decide_eq_true_eq] at h2
  subst h2
  exact ⟨j, List.mem_range.1 hj, rfl, h1⟩
theorem parF_asc {l : List Vx} (h : LQ l) (ps : List B) (cnt : Bool) (p : B) : (parF l ps cnt p).Pairwise (· < ·) := by
  have h1 : (exI l p).Pairwise (· < ·) := exJ_asc h p l.length (Nat.le_refl _)
  unfold parF
  split
  · exact h1
  · split
    · split
      · exact h1
      · split
        · exact List.pairwise_singleton _ _
        · exact List.Pairwise.nil
    · exact List.Pairwise.nil
theorem ord_one {l : List Vx} (h : OrdP l) {i j : Nat} (hi : i < l.length) (hj : j < l.length) (he : (l[i]!).pol = (l[j]!).pol) : i = j := by
  rw [getElem!_pos l i hi, getElem!_pos l j hj] at he
  have h2 := List.pairwise_iff_getElem.1 h
  rcases Nat.lt_trichotomy i j with q | q | q
  · have := h2 i j hi hj q
    rw [he] at this; exact absurd this (ltB_irr _)
  · exact q
  · have := h2 j i hj hi q
    rw [he] at this; exact absurd this (ltB_irr _)
theorem asc_same {l : List Int} (h : l.Pairwise (· < ·)) (hs : ∀ x ∈ l, ∀ y ∈ l, x = y) : l.length ≤ 1 := by
  match l, h with
  | [], _ => simp
  | [x], _ => simp
  | x :: y :: r, h =>
    rw [List.pairwise_cons] at h
    have h1 := h.1 y (by simp)
    have h2 := hs x (by simp) y (by simp)
    omega
theorem levP_ord (l : List Vx) (ps : List B) (cnt : Bool) : OrdP (levP l ps cnt) := by
  unfold levP OrdP
  rw [List.pairwise_map]
  exact keyL_asc l ps cnt
theorem levP_fit {l : List Vx} (h : LQ l) (ps : List B) (cnt : Bool) : ∀ v ∈ levP l ps cnt, FitP v l := by
  intro v hv
  unfold levP at hv
  obtain ⟨p, hp, rfl⟩ := List.mem_map.1 hv
  refine ⟨rfl, parF_asc h ps cnt p, parF_range l ps cnt p, fun hs => ?_, fun hs => ?_⟩
  · have e : p = anyP := of_decide_eq_true hs
    subst e
    have hpar : ∀ i ∈ parF l ps cnt anyP, ∃ j, j < l.length ∧ i = (j : Int) ∧ specV l[j]! = true := fun i hi => by
      have : i ∈ exI l anyP := by
        unfold parF at hi
        split at hi
        · exact hi
        · simp at hi
      obtain ⟨j, h1, h2, h3⟩ := exJ_has this
      refine ⟨j, h1, h2, ?_⟩
      cases hsp : specV l[j]! with
      | true => rfl
      | false => exact absurd h3 (h.ns _ (by rw [getElem!_pos l j h1]; exact List.getElem_mem h1) hsp)
    refine ⟨asc_same (parF_asc h ps cnt anyP) fun x hx y hy => ?_, fun i hi => ?_, rfl⟩
    · obtain ⟨a, a1, rfl, a3⟩ := hpar x hx
      obtain ⟨b, b1, rfl, b3⟩ := hpar y hy
      have e1 : (l[a]!).pol = anyP := of_decide_eq_true a3
      have e2 : (l[b]!).pol = anyP := of_decide_eq_true b3
      rw [ord_one h.ord a1 b1 (by rw [e1, e2])]
    · obtain ⟨j, -, rfl, h3⟩ := hpar i hi
      rw [Int.toNat_natCast]; exact h3
  · simp only [lvV, List.mem_singleton]
    intro e
    have : specV (lvV (parF l ps cnt) p) = true := decide_eq_true e.symm
    rw [hs] at this; cases this
theorem PV.snoc {g : List (List Vx)} (h : PV g) (hg : 0 < g.length) {l : List Vx} (ho : OrdP l) (hf : ∀ v ∈ l, FitP v g[g.length - 1]!) : PV (g ++ [l]) := by
  have hat : ∀ j, j < g.length → (g ++ [l])[j]! = g[j]! := fun j hj => by
    rw [getElem!_pos _ j (by simp; omega), List.getElem_append_left hj, getElem!_pos g j hj]
  have hla : (g ++ [l])[g.length]! = l := by
    rw [getElem!_pos _ g.length (by simp), List.getElem_append_right (Nat.le_refl _)]; simp
  refine ⟨by rw [hat 0 hg]; exact h.top, fun k => ?_, fun k hk v hv => ?_⟩
  · rcases Nat.lt_trichotomy k g.length with q | q | q
    · rw [hat k q]; exact h.ord k
    · rw [q, hla]; exact ho
    · rw [getElem!_neg _ k (by simp; omega)]; exact List.Pairwise.nil
  · rw [List.length_append, List.length_singleton] at hk
    by_cases e : k + 1 < g.length
    · rw [hat (k + 1) e] at hv
      rw [hat k (by omega)]
      exact h.fit k e v hv
    · have e' : k + 1 = g.length := by omega
      rw [e', hla] at hv
      rw [hat k (by omega), show k = g.length - 1 by omega]
      exact hf v hv
theorem enter_valid {g : List (List Vx)} (h : gvalidB g = true) (ps : List B) (cnt : Bool) : gvalidB (genterP g ps cnt).1 = true := by
  unfold genterP
  rw [h]
  simp only [if_true]
  split
  · rfl
  · rename_i h0
    exact prune_valid ((valid_pv h).snoc (by omega) (levP_ord _ _ _) (levP_fit (valid_lq h (by omega)) ps cnt))
theorem PV.setLast {g : List (List Vx)} (h : PV g) {k : Nat} (hk : k + 2 = g.length) {l : List Vx} (ho : OrdP l) (hf : ∀ v ∈ l, FitP v g[k]!) : PV (g.set (k + 1) l) := by
  have hat : ∀ (j : Nat), j ≠ k + 1 → (g.set (k + 1) l)[j]! = g[j]! := fun j hj => by
    by_cases h1 : j < g.length
    · rw [getElem!_pos _ j (by simpa using h1), List.getElem_set, if_neg (fun e => hj e.symm), getElem!_pos g j h1]
    · rw [getElem!_neg _ j (by simpa using h1), getElem!_neg g j h1]
  have hla := set_at_self (g := g) (k := k + 1) (by omega) l
  refine ⟨by rw [hat 0 (by omega)]; exact h.top, fun j => ?_, fun j hj v hv => ?_⟩
  · by_cases e : j = k + 1
    · rw [e, hla]; exact ho
    · rw [hat j e]; exact h.ord j
  · rw [List.length_set] at hj
    by_cases e : j + 1 = k + 1
    · rw [e, hla] at hv
      rw [hat j (by omega), show j = k by omega]
      exact hf v hv
    · rw [hat (j + 1) e] at hv
      rw [hat j (by omega)]
      exact h.fit j hj v hv
theorem tw_mem {p : Vx → Bool} : ∀ {l : List Vx} {v : Vx}, v ∈ l.takeWhile p → p v = true
  | [], v, h => by cases h
  | x :: l, v, h => by
    rw [List.takeWhile_cons] at h
    split at h
    · rename_i hx
      rcases List.mem_cons.1 h with rfl | h
      · exact hx
      · exact tw_mem h
    · cases h
theorem tw_take (p : Vx → Bool) (l : List Vx) : l.take (l.takeWhile p).length = l.takeWhile p := by
  have h3 := List.takeWhile_append_dropWhile (p := p) (l := l)
  conv => lhs; arg 2; rw [← h3]
  exact List.take_left' rfl
theorem insV_ord {l : List Vx} (h : OrdP l) {x : Vx} (hx : ∀ v ∈ l, v.pol ≠ x.pol) : OrdP (insV l x) := by
  unfold insV
  have e1 : l.take (plc l x.pol) = l.takeWhile fun v => decide (v.pol < x.pol) := by
    unfold plc
    exact tw_take _ _
  have hlt : ∀ v ∈ l.take (plc l x.pol), v.pol < x.pol := fun v hv => by
    rw [e1] at hv
    exact of_decide_eq_true (tw_mem hv)
  have hp : (l.take (plc l x.pol) ++ l.drop (plc l x.pol)).Pairwise fun a b => a.pol < b.pol := by rw [List.take_append_drop]; exact h
  obtain ⟨a1, a2, a3⟩ := List.pairwise_append.1 hp
  have hge : ∀ v ∈ l.drop (plc l x.pol), x.pol < v.pol := by
    intro v hv
    have hd : ∀ y r, l.drop (plc l x.pol) = y :: r → ¬ y.pol < x.pol := by
      intro y r hyr hlt'
      have h2 : l.dropWhile (fun v => decide (v.pol < x.pol)) = y :: r := by
        rw [← hyr]
        unfold plc
        have h3 := List.takeWhile_append_dropWhile (p := fun v : Vx => decide (v.pol < x.pol)) (l := l)
        conv => rhs; rw [← h3]
        rw [List.drop_left' (by rw [h3])]
      have h4 := List.head_dropWhile_not (p := fun v : Vx => decide (v.pol < x.pol)) (l := l) (by rw [h2]; simp)
      simp only [h2, List.head_cons] at h4
      rw [decide_eq_true hlt'] at h4
      cases h4
    cases hr : l.drop (plc l x.pol) with
    | nil => rw [hr] at hv; cases hv
    | cons y r =>
      have h1 := hd y r hr
      have hy : y ∈ l := List.mem_of_mem_drop (by rw [hr]; simp)
      have h2 : x.pol < y.pol := ltB_or h1 (hx y hy)
      rw [hr] at hv a2
      rcases List.mem_cons.1 hv with rfl | hv
      · exact h2
      · exact ltB_tr h2 ((List.pairwise_cons.1 a2).1 v hv)
  refine List.pairwise_append.2 ⟨a1, List.pairwise_cons.2 ⟨hge, a2⟩, fun a ha b hb => ?_⟩
  rcases List.mem_cons.1 hb with rfl | hb
  · exact hlt a ha
  · exact a3 a ha b hb
theorem OrdP.set {l : List Vx} (h : OrdP l) (i : Nat) {x : Vx} (hx : i < l.length → x.pol = (l[i]!).pol) : OrdP (l.set i x) := by
  refine List.pairwise_iff_getElem.2 fun a b ha hb hab => ?_
  have ha' : a < l.length := by simpa using ha
  have hb' : b < l.length := by simpa using hb
  have h2 := List.pairwise_iff_getElem.1 h a b ha' hb' hab
  have hat : ∀ (j : Nat) (hj : j < l.length), ((l.set i x)[j]'(by simpa using hj)).pol = (l[j]).pol := fun j hj => by
    rw [List.getElem_set]
    split
    · rename_i e
      subst e
      rw [hx hj, getElem!_pos l i hj]
    · rfl
  rw [hat a ha', hat b hb']; exact h2
theorem mapS_ord {ms : List (B × B)} {star above : Int} {l : List Vx} (h : OrdP l) (p : B) : OrdP (mapS ms star above l p) := by
  unfold mapS
  split
  · rename_i h0
    obtain ⟨k, hk, he, -⟩ := fndP_some h0
    rw [he, Int.toNat_natCast]
    exact h.set k fun _ => rfl
  · rename_i h0
    split
    · refine insV_ord h fun v hv e => ?_
      exact h0 (fndP_has hv e)
    · exact h
theorem mapS_fit {ms : List (B × B)} {star above : Int} {ab l : List Vx} {p : B} (hp : p ∈ srcL ms) (hab : 0 ≤ star → 0 ≤ above ∧ above < (ab.length : Int)) (h : ∀ v ∈ l, FitP v ab) : ∀ v ∈ mapS ms star above l p, FitP v ab := by
  have hpa : p ≠ anyP := fun e => srcL_any ms (e ▸ hp)
  intro v hv
  unfold mapS at hv
  split at hv
  · rename_i h0
    obtain ⟨k, hk, he, hpk, -⟩ := fndP_some h0
    rw [he, Int.toNat_natCast] at hv
    rcases List.mem_or_eq_of_mem_set hv with q | rfl
    · exact h v q
    · have hf := h l[k]! (by rw [getElem!_pos l k hk]; exact List.getElem_mem hk)
      refine ⟨subL_asc hp, hf.asc, hf.rg, fun hs => ?_, fun _ => subL_any ms p⟩
      have : (l[k]!).pol = anyP := of_decide_eq_true hs
      rw [hpk] at this
      exact absurd this hpa
  · split at hv
    · rename_i h1
      rcases insV_mem hv with q | rfl
      · exact h v q
      · refine ⟨subL_asc hp, List.pairwise_singleton _ _, fun q hq => ?_, fun hs => ?_, fun _ => subL_any ms p⟩
        · rw [List.mem_singleton] at hq; subst hq; exact hab h1
        · exact absurd (of_decide_eq_true hs) hpa
    · exact h v hv
theorem mapL_good {ms : List (B × B)} {star above : Int} {ab : List Vx} (hab : 0 ≤ star → 0 ≤ above ∧ above < (ab.length : Int)) : ∀ (ks : List B) (l : List Vx), (∀ p ∈ ks, p ∈ srcL ms) → OrdP l → (∀ v ∈ l, FitP v ab) → OrdP (mapL ms star above l ks) ∧ ∀ v ∈ mapL ms star above l ks, FitP v ab
  | [], l, _, ho, hf => ⟨ho, hf⟩
  | p :: ks, l, hk, ho, hf => mapL_good hab ks (mapS ms star above l p) (fun q hq => hk q (List.mem_cons_of_mem _ hq)) (mapS_ord ho p) (mapS_fit (hk p (by simp)) hab hf)
theorem gmapL_pv {g : List (List Vx)} (h : gvalidB g = true) (hg : 2 ≤ g.length) (ms : List (B × B)) (ok : Bool) : PV (g.set (g.length - 1) (gmapL g ms ok)) := by
  obtain ⟨k, hk⟩ : ∃ k, k + 2 = g.length := ⟨g.length - 2, by omega⟩
  have e1 : g.length - 1 = k + 1 := by omega
  have e2 : g.length - 2 = k := by omega
  have hp := valid_pv h
  rw [e1]
  unfold gmapL
  rw [e1, e2]
  cases ok with
  | true =>
    simp only [if_true]
    have h1 := mapL_good (ms := ms) (star := fndP g[k + 1]! anyP) (above := fndP g[k]! anyP) (ab := g[k]!) (fun hs => by
      have h3 := gvalid_star h (by omega) hs
      exact ⟨h3, fndP_lt h3⟩) (srcL ms) g[k + 1]! (fun p hp => hp) (hp.ord (k + 1)) (hp.fit k (by omega))
    exact hp.setLast hk h1.1 h1.2
  | false =>
    simp only [Bool.false_eq_true, if_false]
    exact hp.setLast hk ((hp.ord (k + 1)).filter _) fun v hv => hp.fit k (by omega) v (List.mem_filter.1 hv).1
theorem map_valid {g : List (List Vx)} (h : gvalidB g = true) (ms : List (B × B)) (ok : Bool) : gvalidB (gmapP g ms ok).1 = true := by
  unfold gmapP
  split
  · rename_i h1
    rw [h, Bool.true_and, Bool.not_eq_true', decide_eq_false_iff_not] at h1
    split
    · rfl
    · exact prune_valid (gmapL_pv h (by omega) ms ok)
  · rfl
/-- a level that keeps policies and what they expect of another one -/
def SubL (l l' : List Vx) : Prop := l.length ≤ l'.length ∧ ∀ v ∈ l, ∃ u ∈ l', v.pol = u.pol ∧ v.ex = u.ex
theorem SubL.refl (l : List Vx) : SubL l l := ⟨Nat.le_refl _, fun v hv => ⟨v, hv, rfl, rfl⟩⟩
theorem SubL.trans {a b c : List Vx} (h : SubL a b) (h' : SubL b c) : SubL a c := ⟨Nat.le_trans h.1 h'.1, fun v hv => by
  obtain ⟨u, hu, e1, e2⟩ := h.2 v hv
  obtain ⟨z, hz, e3, e4⟩ := h'.2 u hu
  exact ⟨z, hz, e1.trans e3, e2.trans e4⟩⟩
theorem filtG_sub {g : List (List Vx)} {k : Nat} (hk : k < g.length) (m : List Bool) (j : Nat) : SubL (filtG g k m)[j]! g[j]! := by
  rw [filtG_at hk j]
  split
  · rename_i e
    subst e
    exact ⟨keepT_le _ _, fun v hv => ⟨v, keepT_mem (Nat.le_refl _) hv, rfl, rfl⟩⟩
  · split
    · refine ⟨by rw [List.length_map]; exact Nat.le_refl _, fun v hv => ?_⟩
      obtain ⟨u, hu, rfl⟩ := List.mem_map.1 hv
      exact ⟨u, hu, rfl, rfl⟩
    · exact SubL.refl _
theorem fwdG_sub (g : List (List Vx)) (j : Nat) : ∀ n, n < g.length ∨ n = 0 → SubL (fwdG g n)[j]! g[j]!
  | 0, _ => SubL.refl _
  | n + 1, hn => by
    rw [fwdG]
    exact (filtG_sub (by rw [fwdG_len]; omega) _ j).trans (fwdG_sub g j n (by omega))
theorem bwdG_sub (g : List (List Vx)) (j : Nat) : ∀ n, n < g.length ∨ n = 0 → SubL (bwdG g n)[j]! g[j]!
  | 0, _ => SubL.refl _
  | n + 1, hn => by
    rw [bwdG]
    exact (filtG_sub (by rw [bwdG_len]; omega) _ j).trans (bwdG_sub g j n (by omega))
theorem pruneG_sub (g : List (List Vx)) : pruneG g = [] ∨ ((pruneG g).length = g.length ∧ ∀ (j : Nat), SubL (pruneG g)[j]! g[j]!) := by
  rcases Nat.eq_zero_or_pos g.length with h0 | hl
  · have : g = [] := List.length_eq_zero_iff.1 h0
    subst this
    exact .inl rfl
  unfold pruneG
  simp only
  split
  · exact .inl rfl
  · right
    refine ⟨by rw [bwdG_len, fwdG_len], fun j => ?_⟩
    exact (bwdG_sub _ j _ (by rw [fwdG_len]; omega)).trans (fwdG_sub g j _ (by omega))
theorem nodup_le : ∀ (l m : List B), l.Nodup → (∀ x ∈ l, x ∈ m) → l.length ≤ m.length
  | [], m, _, _ => by simp
  | x :: l, m, hn, hs => by
    rw [List.nodup_cons] at hn
    have hx := hs x (by simp)
    have h1 := nodup_le l (m.erase x) hn.2 fun y hy => (List.mem_erase_of_ne (show y ≠ x from fun e => by subst e; exact hn.1 hy)).2 (hs y (List.mem_cons_of_mem _ hy))
    rw [List.length_erase_of_mem hx] at h1
    have := List.length_pos_of_mem hx
    rw [List.length_cons]; omega
theorem subL_le (l : List (B × B)) (x : B) : (subL l x).length ≤ l.length := by
  unfold subL
  have h1 := setB_length ((l.filter fun m => decide (m.1 = x) && okM m).map (·.2))
  have h2 := List.length_filter_le (fun m => decide (m.1 = x) && okM m) l
  rw [List.length_map] at h1
  omega
/-- a graph with small levels and no special vertex below its root -/
structure SmG (G : List (List Vx)) (n : Nat) : Prop where
  val : gvalidB G = true
  len : G = [] ∨ G.length = n + 1
  lv : ∀ (k : Nat), 1 ≤ k → (G[k]!).length ≤ 4 ∧ ∀ v ∈ G[k]!, v.pol ≠ anyP ∧ v.ex.length ≤ 16
theorem SmG.root : SmG rootG 0 := ⟨by kernel_rfl, .inr rfl, fun k hk => by
  rw [getElem!_neg _ k (by show ¬ k < 1; omega)]
  exact ⟨by simp [default], fun v hv => by cases hv⟩⟩
theorem SmG.prune {g : List (List Vx)} {n : Nat} (hv : gvalidB (pruneG g) = true) (hl : g.length = n + 1) (h : ∀ (k : Nat), 1 ≤ k → (g[k]!).length ≤ 4 ∧ ∀ v ∈ g[k]!, v.pol ≠ anyP ∧ v.ex.length ≤ 16) : SmG (pruneG g) n := by
  refine ⟨hv, ?_, fun k hk => ?_⟩
  · rcases pruneG_sub g with e | ⟨e, -⟩
    · exact .inl e
    · exact .inr (e.trans hl)
  · rcases pruneG_sub g with e | ⟨-, e⟩
    · rw [e, getElem!_neg _ k (by simp)]
      exact ⟨by simp [default], fun v hv => by cases hv⟩
    · obtain ⟨h1, h2⟩ := e k
      obtain ⟨h3, h4⟩ := h k hk
      refine ⟨Nat.le_trans h1 h3, fun v hv => ?_⟩
      obtain ⟨u, hu, e1, e2⟩ := h2 v hv
      rw [e1, e2]; exact h4 u hu
theorem SmG.enter {G : List (List Vx)} {n : Nat} (h : SmG G n) {ps : List B} (hp : anyP ∉ ps) (hl : ps.length ≤ 4) : (genterP G ps true).2 = 0 ∧ SmG (genterP G ps true).1 (n + 1) := by
  have hev := enter_valid h.val ps true
  unfold genterP at hev ⊢
  rw [h.val] at hev ⊢
  simp only [if_true] at hev ⊢
  split
  · exact ⟨rfl, rfl, .inl rfl, fun k hk => by
      rw [getElem!_neg _ k (by simp)]
      exact ⟨by simp [default], fun v hv => by cases hv⟩⟩
  · rename_i h0
    rw [if_neg h0] at hev
    have hlen : G.length = n + 1 := by
      rcases h.len with e | e
      · rw [e] at h0; exact absurd rfl h0
      · exact e
    refine ⟨rfl, SmG.prune hev (by rw [List.length_append, hlen]; rfl) fun k hk => ?_⟩
    rcases Nat.lt_trichotomy k G.length with q | q | q
    · rw [getElem!_pos _ k (by simp; omega), List.getElem_append_left q, ← getElem!_pos G k q]
      exact h.lv k hk
    · rw [q, getElem!_pos _ G.length (by simp), List.getElem_append_right (Nat.le_refl _)]
      simp only [Nat.sub_self, List.getElem_cons_zero]
      have hkm : ∀ p ∈ keyL G[G.length - 1]! ps true, p ∈ ps ∧ p ≠ anyP := fun p hp' => by
        rw [keyL_mem] at hp'
        unfold parF at hp'
        rw [decide_eq_false hp] at hp'
        simp only [Bool.and_false, Bool.false_and, Bool.false_eq_true, if_false] at hp'
        split at hp'
        · rename_i h2
          simp only [Bool.and_eq_true, decide_eq_true_eq] at h2
          exact h2
        · exact absurd rfl hp'
      refine ⟨?_, fun v hv => ?_⟩
      · unfold levP
        rw [List.length_map]
        have h2 : (keyL G[G.length - 1]! ps true).Nodup := (keyL_asc _ _ _).imp fun {a b} hab e => by subst e; exact ltB_irr _ hab
        exact Nat.le_trans (nodup_le _ _ h2 fun p hp' => (hkm p hp').1) hl
      · unfold levP at hv
        obtain ⟨p, hp', rfl⟩ := List.mem_map.1 hv
        exact ⟨(hkm p hp').2, by simp [lvV]⟩
    · rw [getElem!_neg _ k (by simp; omega)]
      exact ⟨by simp [default], fun v hv => by cases hv⟩
theorem mapL_small {ms : List (B × B)} (hm : ms.length ≤ 16) : ∀ (ks : List B) (l : List Vx) (above : Int), (l.length ≤ 4 ∧ ∀ v ∈ l, v.pol ≠ anyP ∧ v.ex.length ≤ 16) → (mapL ms (-1) above l ks).length ≤ 4 ∧ ∀ v ∈ mapL ms (-1) above l ks, v.pol ≠ anyP ∧ v.ex.length ≤ 16
  | [], l, above, h => h
  | p :: ks, l, above, h => by
    refine mapL_small hm ks (mapS ms (-1) above l p) above ?_
    unfold mapS
    split
    · rename_i h0
      obtain ⟨k, hk, he, -⟩ := fndP_some h0
      rw [he, Int.toNat_natCast]
      refine ⟨by rw [List.length_set]; exact h.1, fun v hv => ?_⟩
      rcases List.mem_or_eq_of_mem_set hv with q | rfl
      · exact h.2 v q
      · refine ⟨(h.2 l[k]! (by rw [getElem!_pos l k hk]; exact List.getElem_mem hk)).1, Nat.le_trans (subL_le ms p) hm⟩
    · rw [if_neg (by omega)]; exact h
theorem SmG.map {G : List (List Vx)} {n : Nat} (h : SmG G n) (hn : 1 ≤ n) {ms : List (B × B)} (hm : ms.length ≤ 16) : (gmapP G ms true).2 = 0 ∧ SmG (gmapP G ms true).1 n := by
  have hmv := map_valid h.val ms true
  have h1 : ¬ G.length = 1 := by
    rcases h.len with e | e
    · rw [e]; simp
    · omega
  unfold gmapP at hmv ⊢
  rw [h.val, decide_eq_false h1] at hmv ⊢
  simp only [Bool.not_false, Bool.and_self, if_true] at hmv ⊢
  split
  · exact ⟨rfl, rfl, .inl rfl, fun k hk => by
      rw [getElem!_neg _ k (by simp)]
      exact ⟨by simp [default], fun v hv => by cases hv⟩⟩
  · rename_i h0
    rw [if_neg h0] at hmv
    have hlen : G.length = n + 1 := by
      rcases h.len with e | e
      · rw [e] at h0; exact absurd rfl h0
      · exact e
    refine ⟨rfl, SmG.prune hmv (by rw [List.length_set, hlen]) fun k hk => ?_⟩
    by_cases e : k = G.length - 1
    · rw [e, set_at_self (by omega)]
      have hlast := h.lv (G.length - 1) (by omega)
      have hst : fndP G[G.length - 1]! anyP = -1 := idxG_no fun i hi => decide_eq_false (hlast.2 _ (by rw [getElem!_pos _ i hi]; exact List.getElem_mem hi)).1
      unfold gmapL
      simp only [if_true]
      rw [hst]
      exact mapL_small hm (srcL ms) _ _ hlast
    · have : (G.set (G.length - 1) (gmapL G ms true))[k]! = G[k]! := by
        by_cases hk' : k < G.length
        · rw [getElem!_pos _ k (by simpa using hk'), List.getElem_set, if_neg (fun q => e q.symm), getElem!_pos G k hk']
        · rw [getElem!_neg _ k (by simpa using hk'), getElem!_neg G k hk']
      rw [this]; exact h.lv k hk
theorem SmG.size {G : List (List Vx)} {n : Nat} (h : SmG G n) : sizG G ≤ 1 + 4 * n := by
  have key : ∀ k, k ≤ G.length → sizK G k ≤ 1 + 4 * (k - 1) := by
    intro k
    induction k with
    | zero => intro _; simp [sizK]
    | succ k ih =>
      intro hk
      rw [sizK_succ G k (by omega)]
      have := ih (by omega)
      cases k with
      | zero =>
        have h0 : sizK G 0 = 0 := by simp [sizK]
        obtain ⟨v, hv, -⟩ := gvalid_top h.val (by omega)
        rw [h0, hv]; simp
      | succ k =>
        have := (h.lv (k + 1) (by omega)).1
        omega
  have := key G.length (Nat.le_refl _)
  unfold sizG
  rcases h.len with e | e
  · rw [e]; simp [sizK]
  · omega
/-- sizes of such a graph -/
theorem SmG.lens {G : List (List Vx)} {n : Nat} (h : SmG G n) : ∀ l ∈ G, l.length ≤ 4 ∧ (allJ l l.length).length ≤ 64 := by
  intro l hl
  obtain ⟨k, hk, rfl⟩ := List.getElem_of_mem hl
  have hall : ∀ (l : List Vx) (j : Nat), j ≤ l.length → (∀ v ∈ l, v.ex.length ≤ 16) → (allJ l j).length ≤ 16 * j := by
    intro l j
    induction j with
    | zero => intro _ _; simp [allJ]
    | succ j ih =>
      intro hj hv
      rw [allJ_succ]
      have h1 := ih (by omega) hv
      have h2 := hv l[j]! (by rw [getElem!_pos l j (by omega)]; exact List.getElem_mem _)
      omega
  cases k with
  | zero =>
    obtain ⟨v, hv, -, ho, -⟩ := gvalid_top h.val hk
    rw [getElem!_pos G 0 hk] at hv
    rw [hv]
    have : v.ex = [anyP] := of_decide_eq_true ho
    refine ⟨by simp, ?_⟩
    have := hall [v] 1 (by simp) (fun u hu => by rw [List.mem_singleton] at hu; subst hu; rw [this]; simp)
    exact Nat.le_trans this (by omega)
  | succ k =>
    have h1 := h.lv (k + 1) (by omega)
    rw [getElem!_pos G (k + 1) hk] at h1
    have := hall _ _ (Nat.le_refl _) (fun v hv => (h1.2 v hv).2)
    exact ⟨h1.1, by omega⟩
end Go.Proofs.YtmagjdocondmhaaGreat.Tr.Gr
namespace Go.Proofs.YtmagjdocondmhaaGreat.Tr
open Go Go.RowKit Go.Proofs.YtmagjdocondmhaaGreat.Slc Go.Proofs.YtmagjdocondmhaaGreat.St Go.Proofs.YtmagjdocondmhaaGreat.Mp
set_option linter.unusedVariables false
set_option linter.unusedSimpArgs false
attribute [local go_sem] Oper.semAt_some

theorem grown_below {w w' : World} {g : Option Nat} (h : Below w.heap.size w w') : w.grownBy w' g := ⟨h.os, h.tape, h.output, h.size, fun k hk _ => h.block k hk⟩
theorem deck_keep {W0 : World} {v : Value} {zs : List Int} {w w' : World} {g B : Nat} (h : Deck W0 v zs w g) (hb : Below B w w') (hg : g < B) (hB : W0.heap.size ≤ B) : Deck W0 v zs w' g := by
  obtain ⟨k, hk, hc⟩ := h.c1
  exact ⟨h.ints, h.bel.trans (hb.mono hB), h.ge, (hb.cell (p := ⟨g, 0, none⟩) hg).trans h.c0, ⟨k, hk, (hb.cell (p := ⟨g, 1, none⟩) hg).trans hc⟩, fun k => (hb.frozen (p := ⟨g, k, none⟩) hg).trans (h.fr k), Nat.lt_of_lt_of_le h.lt hb.size, fun j s e => h.ns j s ((hb.cell (p := ⟨g, j, none⟩) hg).symm.trans e)⟩
theorem own_grown {α : Type} {w w' : World} {B z g : Nat} {t : TypeId} {enc : α → List Value} {v : Value} {l : List α} (h : Slc.Own w B t z enc v l) (hg : w.grownBy w' (some g)) (hgB : g < B) : Slc.Own w' B t z enc v l :=
  h.keep fun k hk hlt => hg.block k hlt (by simp only [ne_eq, Option.some.injEq]; intro e; have := (h.lt k hk).1; omega)
/-- a string is never read from the deck -/
theorem rd_deck {W0 : World} {v u : Value} {zs : List Int} {w w' : World} {g : Nat} {l : List B} (h : Rd w encS u l) (hd : Deck W0 v zs w g) (hg : w.grownBy w' (some g)) : Rd w' encS u l := by
  rcases h with h | ⟨b, o, c, rfl, hlt, hc, hcell⟩
  · exact .inl h
  · refine .inr ⟨b, o, c, rfl, by have := hg.size; omega, hc, fun j x hj => ?_⟩
    have hne : b ≠ g := by
      rintro rfl
      have h1 := hcell j x hj
      have hx : ∃ s, x = .string s := by
        have := List.mem_of_getElem? hj
        rw [List.mem_flatMap] at this
        obtain ⟨y, -, hy⟩ := this
        simp [encS] at hy
        exact ⟨_, hy⟩
      obtain ⟨s, rfl⟩ := hx
      exact hd.ns _ _ h1
    rw [← hcell j x hj]
    have := hg.block b hlt (by simp only [ne_eq, Option.some.injEq]; exact hne)
    unfold World.cell?
    rw [this]
theorem TO.deck {W0 : World} {v tv : Value} {zs : List Int} {w w' : World} {g Bk : Nat} {l : List Nt} (h : TO w Bk tv l) (hd : Deck W0 v zs w g) (hg : w.grownBy w' (some g)) (hgB : g < Bk) : TO w' Bk tv l :=
  ⟨own_grown h.own hg hgB, fun x hx => ⟨⟨rd_deck (h.nm x hx).1.1 hd hg, (h.nm x hx).1.2⟩, (h.nm x hx).2⟩⟩
section
variable {α : Type} {t : TypeId} {z : Nat} {enc : α → List Value} {W0 : World} {v : Value} {zs : List Int} {w : World} {g : Nat} {hv : Value} {out : List α} {wr w' : World}
end
theorem info_map2 : (Tryz.prog.info? 49).map (fun i => (i.zero, i.size, i.bytes)) = some (some (.agg #[.string ⟨#[]⟩, .string ⟨#[]⟩]), 2, 32) := by kernel_rfl
theorem und_maps : Tryz.prog.underlying 40 = some (.slice 49) := by kernel_rfl
theorem src_map (w : World) (x y : B) : SrcV (w.alloc (.cells #[.string (bstr x), .string (bstr y)] 49)) 2 (.slice (some ⟨w.heap.size, 0, none⟩) 1 1) 1 ([(x, y)].flatMap encP) := src_new encP_ok (heap_alloc_new _ _)
end Go.Proofs.YtmagjdocondmhaaGreat.Tr
