/- packed -/
import Derived.Test.YtmagjdocondmhaaGreatPkLk18
set_option linter.unusedVariables false
set_option linter.unusedSimpArgs false
set_option maxRecDepth 100000
set_option maxHeartbeats 64000000
namespace Go.Proofs.YtmagjdocondmhaaGreat.Tr.Gr
open Go Go.RowKit Slc St Mp Tr Rg
abbrev OrdP (l : List Vx) : Prop := l.Pairwise fun a b => a.pol < b.pol
structure FitP (v : Vx) (ab : List Vx) : Prop where
 ex : ascB v.ex = true
 asc : v.par.Pairwise (· < ·)
 rg : ∀ p ∈ v.par, 0 <= p /\ p < (ab.length : Int)
 sp : specV v = true -> v.par.length <= 1 /\ (∀ p ∈ v.par, specV ab[p.toNat]! = true) /\ onlyB v.ex = true
 ns : specV v = false -> anyP ∉ v.ex
structure PV (g : List (List Vx)) : Prop where
 top : topB g[0]! = true \/ g[0]! = []
 ord : ∀ (k : Nat), OrdP g[k]!
 fit : ∀ k, k + 1 < g.length -> ∀ v ∈ g[k + 1]!, FitP v g[k]!
theorem renP_asc {m : List Bool} {ps : List Int} (h : ps.Pairwise (· < ·)) (h0 : ∀ p ∈ ps, 0 <= p) : (renP m ps).Pairwise (· < ·) := by
 unfold renP;rw [List.pairwise_map];refine List.Pairwise.imp_of_mem ?_ (h.filter _);intro a b ha hb hab;have h1 := List.mem_filter.1 ha;have h2 := List.mem_filter.1 hb;have a0 := h0 a h1.1;have b0 := h0 b h2.1;have := rk_lt m (i := a.toNat) (j := b.toNat) (by omega) h1.2;omega
theorem onlyB_len {l : List Vx} (h : topB l = true) : ∃ v, l = [v] /\ specV v = true /\ onlyB v.ex = true /\ v.par = [] := by
 unfold topB at h;simp only [Bool.and_eq_true, decide_eq_true_eq] at h
 obtain ⟨v, rfl⟩ := List.length_eq_one_iff.1 h.1;exact ⟨v, rfl, h.2.1, h.2.2.1, List.length_eq_zero_iff.1 h.2.2.2⟩
theorem keepT_ord {l : List Vx} (h : OrdP l) (m : List Bool) : OrdP (keepT l m l.length) := h.sublist (keepT_sub l m)
theorem renL_ord {l : List Vx} (h : OrdP l) (m : List Bool) : OrdP (l.map (renV m)) := by
 unfold OrdP;rw [List.pairwise_map];exact h
theorem FitP.ren {v : Vx} {ab : List Vx} (h : FitP v ab) (m : List Bool) : FitP (renV m v) (keepT ab m ab.length) := by
 refine ⟨h.ex, renP_asc h.asc fun p hp => (h.rg p hp).1, fun q hq => ?_, fun hs => ?_, h.ns⟩
 ·rw [keepT_len]; exact renP_in h.rg q hq
 ·obtain ⟨h1, h2, h3⟩ := h.sp hs;refine ⟨Nat.le_trans (renP_len _ _) h1, fun q hq => ?_, h3⟩;unfold renV renP at hq;obtain ⟨p, hp, rfl⟩ := List.mem_map.1 hq;obtain ⟨hp1, hp2⟩ := List.mem_filter.1 hp;have hr := h.rg p hp1;obtain ⟨-, h5⟩ := keepT_at (l := ab) (m := m) (p := p.toNat) (n := ab.length) (by omega) hp2;rw [Int.toNat_natCast, h5];exact h2 p hp1
theorem FitP.map {v : Vx} {ab : List Vx} (h : FitP v ab) (m : List Bool) : FitP v (ab.map (renV m)) := by
 refine ⟨h.ex, h.asc, fun p hp => by rw [List.length_map]; exact h.rg p hp, fun hs => ?_, h.ns⟩;obtain ⟨h1, h2, h3⟩ := h.sp hs;refine ⟨h1, fun p hp => ?_, h3⟩;have hr := h.rg p hp;have := h2 p hp;rw [getElem!_pos ab p.toNat (by omega)] at this;rw [getElem!_pos (ab.map (renV m)) p.toNat (by rw [List.length_map]; omega), List.getElem_map];exact this
theorem PV.filt {g : List (List Vx)} (h : PV g) {k : Nat} (hk : k < g.length) (m : List Bool) : PV (filtG g k m) := by
 refine ⟨?_, fun j => ?_, fun j hj v hv => ?_⟩
 ·rw [filtG_at hk 0];by_cases e : 0 = k
  ·rw [if_pos e];subst e;rcases h.top with h1 | h1
   ·obtain ⟨v, hv, -⟩ := onlyB_len h1;rw [hv] at h1 |-
    have : keepT [v] m [v].length = if m[0]! then [v] else [] := by
     rw [show [v].length = 0 + 1 from rfl, keepT_succ]; simp [keepT]
    rw [this];split
    ·exact .inl h1
    ·exact .inr rfl
   ·rw [h1]; exact .inr rfl
  ·rw [if_neg e, if_neg (by omega)]; exact h.top
 ·rw [filtG_at hk j];split
  ·exact keepT_ord (h.ord k) m
  ·split
   ·exact renL_ord (h.ord j) m
   ·exact h.ord j
 ·rw [filtG_len] at hj;rw [filtG_at hk (j + 1)] at hv;rw [filtG_at hk j];by_cases e1 : j + 1 = k
  ·rw [if_pos e1] at hv;rw [if_neg (by omega), if_neg (by omega)];have hv' := keepT_mem (zR _) hv;rw [<- e1] at hv';exact h.fit j hj v hv'
  ·rw [if_neg e1] at hv;by_cases e2 : j + 1 = k + 1
   ·rw [if_pos e2] at hv;have e3 : j = k := (by omega);subst e3;rw [if_pos rfl];obtain ⟨u, hu, rfl⟩ := List.mem_map.1 hv;exact (h.fit j hj u hu).ren m
   ·rw [if_neg e2] at hv;rw [if_neg (by omega)];by_cases e4 : j = k + 1
    ·rw [if_pos e4]; exact (h.fit j hj v hv).map m
    ·rw [if_neg e4]; exact h.fit j hj v hv
theorem fwdG_pv {g : List (List Vx)} (h : PV g) : ∀ n, n < g.length \/ n = 0 -> PV (fwdG g n)
 | 0, _ => h
 | n + 1, hn => by
  rw [fwdG];exact (fwdG_pv h n (by omega)).filt (by rw [fwdG_len]; omega) _
theorem fwdG_par (g : List (List Vx)) : ∀ n, n < g.length \/ n = 0 -> ∀ k, 1 <= k -> k <= n -> ∀ v ∈ (fwdG g n)[k]!, v.par ≠ []
 | 0, _, k, h1, h2 => by omega
 | n + 1, hn, k, h1, h2 => by
  intro v hv;rw [fwdG, filtG_at (by rw [fwdG_len]; omega) k] at hv;by_cases e : k = n + 1
  ·rw [if_pos e] at hv;unfold keepT at hv;obtain ⟨j, hj, rfl⟩ := List.mem_map.1 hv;obtain ⟨hj1, hj2⟩ := List.mem_filter.1 hj;rw [List.mem_range] at hj1;rw [marksA_at _ j hj1, decide_eq_true_eq] at hj2;intro e2;rw [e2] at hj2; simp at hj2
  ·rw [if_neg e, if_neg (by omega)] at hv;exact fwdG_par g n (by omega) k h1 (by omega) v hv
structure BW (g : List (List Vx)) (lo : Nat) : Prop where
 pv : PV g
 par : ∀ k, 1 <= k -> k < g.length -> ∀ v ∈ g[k]!, v.par ≠ []
 cov : ∀ k, lo <= k -> k + 1 < g.length -> ∀ (j : Nat), j < (g[k]!).length -> ∃ v ∈ g[k + 1]!, (j : Int) ∈ v.par
theorem marksB_at {n : Nat} {bl : List Vx} {j : Nat} (hj : j < n) : (marksB n bl)[j]! = bl.any fun v => decide ((j : Int) ∈ v.par) := by
 unfold marksB;rw [getElem!_pos _ j (by simpa using hj)]; simp
theorem renP_all {m : List Bool} {ps : List Int} (h : ∀ p ∈ ps, m[p.toNat]! = true) : renP m ps = ps.map fun p => ((rk m p.toNat : Nat) : Int) := by
 unfold renP;rw [List.filter_eq_self.2 h]
theorem keepT_idx {α : Type} [Inhabited α] {l : List α} {m : List Bool} {n r : Nat} (hr : r < (keepT l m n).length) : ∃ j, j < n /\ m[j]! = true /\ rk m j = r := by
 induction n with
 | zero => simp [keepT] at hr
 | succ n ih =>
  rw [keepT_succ] at hr;by_cases h : r < (keepT l m n).length
  ·obtain ⟨j, h1, h2, h3⟩ := ih h;exact ⟨j, by omega, h2, h3⟩
  ·cases hm : m[n]! with
   | false => rw [hm] at hr; simp at hr; omega
   | true =>
    rw [hm] at hr;simp at hr
    exact ⟨n, by omega, hm, by rw [keepT_len] at h hr; omega⟩
theorem BW.step {g : List (List Vx)} {lo : Nat} (h : BW g (lo + 1)) (hl : lo + 1 < g.length) : BW (filtG g lo (marksB (g[lo]!).length g[lo + 1]!)) lo := by
 have hk : lo < g.length := by omega
 have hfull : ∀ u ∈ g[lo + 1]!, ∀ p ∈ u.par, (marksB (g[lo]!).length g[lo + 1]!)[p.toNat]! = true := fun u hu p hp => by
  have hr := (h.pv.fit lo hl u hu).rg p hp;rw [marksB_at (by omega), List.any_eq_true];exact ⟨u, hu, by rw [decide_eq_true_eq, Int.toNat_of_nonneg hr.1]; exact hp⟩
 refine ⟨h.pv.filt hk _, fun k h1 h2 v hv => ?_, fun k h1 h2 j hj => ?_⟩
 ·rw [filtG_len] at h2;rw [filtG_at hk k] at hv;by_cases e : k = lo
  ·rw [if_pos e] at hv;have hv' := keepT_mem (zR _) hv;exact h.par lo (by omega) hk v hv'
  ·rw [if_neg e] at hv;by_cases e2 : k = lo + 1
   ·rw [if_pos e2] at hv;obtain ⟨u, hu, rfl⟩ := List.mem_map.1 hv;rw [e2] at hu;have := h.par (lo + 1) (by omega) hl u hu;unfold renV;simp only
    rw [renP_all (hfull u hu)];simpa using this
   ·rw [if_neg e2] at hv;exact h.par k h1 h2 v hv
 ·rw [filtG_len] at h2;rw [filtG_at hk k] at hj;rw [filtG_at hk (k + 1)];by_cases e : k = lo
  ·subst e;rw [if_pos rfl] at hj;rw [if_neg (by omega), if_pos rfl];obtain ⟨i, hi, hm, rfl⟩ := keepT_idx hj;have hm' := hm;rw [marksB_at hi, List.any_eq_true] at hm';obtain ⟨u, hu, hui⟩ := hm';rw [decide_eq_true_eq] at hui;refine ⟨_, List.mem_map.2 ⟨u, hu, rfl⟩, ?_⟩;unfold renV renP;refine List.mem_map.2 ⟨(i : Int), List.mem_filter.2 ⟨hui, ?_⟩, ?_⟩
   ·rw [Int.toNat_natCast]; exact hm
   ·rw [Int.toNat_natCast]
  ·rw [if_neg e] at hj;rw [if_neg (by omega), if_neg (by omega)]
   have hj' : j < (g[k]!).length := by
    split at hj
    ·rwa [List.length_map] at hj
    ·exact hj
   exact h.cov k (by omega) h2 j hj'
theorem bwdG_bw {g : List (List Vx)} (h : BW g (g.length - 1)) (hl : 0 < g.length) : ∀ n, n <= g.length - 1 -> BW (bwdG g n) (g.length - 1 - n)
 | 0, _ => h
 | n + 1, hn => by
  have h1 := bwdG_bw h hl n (by omega);obtain ⟨lo, hlo⟩ : ∃ lo, lo = g.length - 1 - (n + 1) := ⟨_, rfl⟩
  rw [show g.length - 1 - n = lo + 1 by omega] at h1;rw [bwdG, show g.length - 2 - n = lo by omega, <- hlo];exact h1.step (by rw [bwdG_len]; omega)
theorem PV.good {g : List (List Vx)} (h : BW g 0) (hl : 0 < g.length) (hne : ∀ l ∈ g, l ≠ []) : gvalidB g = true := by
 have hn : ∀ k, k < g.length -> g[k]! ≠ [] := fun k hk => by rw [getElem!_pos g k hk]; exact hne _ (zM hk)
 unfold gvalidB;rw [zF (by omega), Bool.false_or, Bool.and_eq_true];refine ⟨h.pv.top.elim id fun e => absurd e (hn 0 hl), ?_⟩;rw [List.all_eq_true];intro k hk;rw [List.mem_range] at hk;have hk1 : k + 1 < g.length := by omega
 unfold lvlB;rw [Bool.and_eq_true, Bool.and_eq_true, List.all_eq_true, List.all_eq_true];refine ⟨fun i hi => ?_, zT (fun e => hn (k + 1) hk1 (List.length_eq_zero_iff.1 e)), fun j hj => ?_⟩
 ·rw [List.mem_range] at hi;have hm : (g[k + 1]!)[i]! ∈ g[k + 1]! := by rw [getElem!_pos _ i hi]; exact zM hi
  have hf := h.pv.fit k hk1 _ hm;have hp := h.par (k + 1) (by omega) hk1 _ hm;rw [Bool.and_eq_true];constructor
  ·obtain ⟨v, hv⟩ : ∃ v, v = (g[k + 1]!)[i]! := ⟨_, rfl⟩
   rw [<- hv] at hf hp |-;have hlen : 0 < v.par.length := List.length_pos_iff.2 hp;have h0 := hf.rg v.par[0]! (by rw [getElem!_pos v.par 0 hlen]; exact zM _);have h1 := hf.rg v.par[v.par.length - 1]! (by rw [getElem!_pos v.par (v.par.length - 1) (by omega)]; exact zM _);unfold gfitB;rw [Bool.and_eq_true];constructor
   ·unfold badV
    have hai : ascI v.par = true := by
     unfold ascI;rw [Bool.and_eq_true, decide_eq_true_eq]
     exact ⟨hf.asc, by cases e : v.par with
      | nil => exact absurd e hp
      | cons a b => rfl⟩
    rw [hf.ex, hai, zF (by omega), zF (by omega)]; rfl
   ·cases hs : specV v with
    | true =>
     obtain ⟨a1, a2, a3⟩ := hf.sp hs;simp only [if_true, Bool.and_eq_true, decide_eq_true_eq]
     exact ⟨by omega, a2 _ (by rw [getElem!_pos v.par 0 hlen]; exact zM _), a3⟩
    | false =>
     simp only [Bool.false_eq_true, if_false, Bool.not_eq_true', decide_eq_false_iff_not]
     exact hf.ns hs
  ·unfold ordB;rcases Nat.eq_zero_or_pos i with e | e
   ·rw [zT e]; rfl
   ·have ho := List.pairwise_iff_getElem.1 (h.pv.ord (k + 1)) (i - 1) i (by omega) hi (by omega);rw [Bool.or_eq_true, decide_eq_true_eq, decide_eq_true_eq];right
    rw [getElem!_pos _ (i - 1) (by omega), getElem!_pos _ i hi];exact ho
 ·rw [List.mem_range] at hj;obtain ⟨v, hv, hjv⟩ := h.cov k (by omega) hk1 j hj;rw [List.any_eq_true];exact ⟨v, hv, zT hjv⟩
theorem prune_valid {g : List (List Vx)} (h : PV g) : gvalidB (pruneG g) = true := by
 unfold pruneG;simp only
 rcases Nat.eq_zero_or_pos g.length with h0 | hl
 ·have : g = [] := List.length_eq_zero_iff.1 h0;subst this;rfl
 have h1 := fwdG_pv h (g.length - 1) (.inl (by omega))
 have hbw : BW (fwdG g (g.length - 1)) ((fwdG g (g.length - 1)).length - 1) := by
  refine ⟨h1, fun k a b v hv => ?_, fun k a b => by omega⟩;rw [fwdG_len] at b;exact fwdG_par g (g.length - 1) (.inl (by omega)) k a (by omega) v hv
 have h2 := bwdG_bw hbw (by rw [fwdG_len]; exact hl) (g.length - 1) (by rw [fwdG_len]; exact zR _);rw [fwdG_len, Nat.sub_self] at h2;split
 ·rfl
 ·rename_i hne
  refine PV.good h2 (by rw [bwdG_len, fwdG_len]; exact hl) fun l hlm e => hne ?_
  rw [List.any_eq_true];exact ⟨l, hlm, by rw [e]; rfl⟩
theorem valid_pv {g : List (List Vx)} (h : gvalidB g = true) : PV g := by
 refine ⟨?_, fun k => ?_, fun k hk v hv => ?_⟩
 ·rcases Nat.eq_zero_or_pos g.length with h0 | hl
  ·right
   rw [getElem!_neg g 0 (by omega)]; rfl
  ·left
   unfold gvalidB at h;rw [zF (by omega), Bool.false_or, Bool.and_eq_true] at h;exact h.1
 ·by_cases hk : k < g.length
  ·cases k with
   | zero =>
    obtain ⟨v, hv, -⟩ := gvalid_top h hk
    rw [hv]; exact List.pairwise_singleton _ _
   | succ k =>
    unfold gvalidB at h;rw [zF (by omega), Bool.false_or, Bool.and_eq_true] at h;have h2 := List.all_eq_true.1 h.2 k (by rw [List.mem_range]; omega);unfold lvlB at h2;rw [Bool.and_eq_true, List.all_eq_true] at h2
    have h3 : ∀ i, 0 < i -> i < (g[k + 1]!).length -> ((g[k + 1]!)[i - 1]!).pol < ((g[k + 1]!)[i]!).pol := fun i h0 hi => by
     have := h2.1 i (by rw [List.mem_range]; exact hi);rw [Bool.and_eq_true] at this;have h4 := this.2;unfold ordB at h4;rw [zF (by omega), Bool.false_or, decide_eq_true_eq] at h4;exact h4
    refine List.pairwise_iff_getElem.2 fun i j hi hj hij => ?_
    have key : ∀ d, i + 1 + d < (g[k + 1]!).length -> ((g[k + 1]!)[i]!).pol < ((g[k + 1]!)[i + 1 + d]!).pol := by
     intro d
     induction d with
     | zero =>
      intro hd;have := h3 (i + 1) (by omega) hd
      rwa [Nat.add_sub_cancel] at this
     | succ d ih =>
      intro hd;have h5 := h3 (i + 1 + (d + 1)) (by omega) hd;rw [show i + 1 + (d + 1) - 1 = i + 1 + d by omega] at h5;exact ltB_tr (ih (by omega)) h5
    have := key (j - (i + 1)) (by omega);rw [show i + 1 + (j - (i + 1)) = j by omega, getElem!_pos _ i hi, getElem!_pos _ j hj] at this;exact this
  ·rw [getElem!_neg g k hk]; exact List.Pairwise.nil
 ·have h1 := (gvalid_at h k hk).2 v hv;have h2 := gfit_par h1;unfold gfitB at h1;rw [Bool.and_eq_true] at h1;have h3 := h1.1;unfold badV at h3;simp only [Bool.not_or, Bool.not_not, Bool.and_eq_true] at h3
  have h4 := h3.2.1;unfold ascI at h4;rw [Bool.and_eq_true, decide_eq_true_eq] at h4;refine ⟨h3.1, h4.1, h2.2.2, fun hs => ?_, fun hs => ?_⟩
  ·have h5 := h1.2;rw [if_pos hs] at h5;simp only [Bool.and_eq_true, decide_eq_true_eq] at h5
   obtain ⟨p, hp⟩ := List.length_eq_one_iff.1 h5.1;refine ⟨by omega, fun q hq => ?_, h5.2.2⟩;rw [hp] at hq h5;rw [zS] at hq;subst hq;exact h5.2.1
  ·have h5 := h1.2;rw [if_neg (by rw [hs]; simp)] at h5;simpa using h5
end Go.Proofs.YtmagjdocondmhaaGreat.Tr.Gr
namespace Go.Proofs.YtmagjdocondmhaaGreat.Tr
open Go Go.RowKit Slc St Mp Rg
attribute [local go_sem] Oper.semAt_some
end Go.Proofs.YtmagjdocondmhaaGreat.Tr
namespace Go.Proofs.YtmagjdocondmhaaGreat.Tr
open Go Go.RowKit Slc St Mp Rg
attribute [local go_sem] Oper.semAt_some
end Go.Proofs.YtmagjdocondmhaaGreat.Tr
namespace Go.Proofs.YtmagjdocondmhaaGreat.Tr.Gr
open Go Go.RowKit Slc St Mp Tr Rg
attribute [local go_sem] Oper.semAt_some
def sizK (g : List (List Vx)) (k : Nat) : Nat := ((g.take k).map List.length).sum
def sizG (g : List (List Vx)) : Nat := sizK g g.length
theorem sizK_succ (g : List (List Vx)) (k : Nat) (hk : k < g.length) : sizK g (k + 1) = sizK g k + (g[k]!).length := by
 unfold sizK;rw [zA hk, List.map_append, List.sum_append, getElem!_pos g k hk]; simp
theorem sizK_le {g : List (List Vx)} (h : ∀ l ∈ g, l.length <= 100000) (k : Nat) (hk : k <= g.length) : sizK g k <= k * 100000 := by
 induction k with
 | zero => simp [sizK]
 | succ k ih =>
  rw [sizK_succ g k (by omega), getElem!_pos g k (by omega)];have := ih (by omega);have := h _ (zM (show k < g.length by omega));omega
theorem gsize_any (w : World) (v : Value) (g : List Lv) (h : GQ w v g) (hn : g.length <= 100000) (hln : ∀ L ∈ g, L.vs.length <= 100000) :
  Calls Tryz.prog 17 #[v] w fun e w' => e = .returned (.int .i64 (sizG (gxs g) : Nat)) /\ Below w.heap.size w w' := by
 obtain ⟨ad, c, rfl, -⟩ := h.rd.form;have HG := Bx.mk h;have HLN := Bx.mk hln;obtain ⟨N, hN⟩ : ∃ N, N = g.length := ⟨_, rfl⟩
 have HN := Bx.mk hN
 have HSL := Bx.mk (show ∀ k, k <= N -> sizK (gxs g) k <= k * 100000 from fun k hk => sizK_le (fun l hl => by
  obtain ⟨L0, h0, rfl⟩ := List.mem_map.1 hl
  rw [vxs_len]; exact hln L0 h0) k (by rw [gxs_len, <- hN]; exact hk))
 rw [<- hN] at hn |-;clear h hln hN;go_enter Tryz.func17, Tryz.ntmps17;go_wp2_with fail
 go_loopw [3, 8] (fun s i wr => ∃ (k n : Nat), k <= N /\ i = .int .i64 k /\ s = .int .i64 n /\ Bx (n = sizK (gxs g) k) /\ Bx (Below w.heap.size w wr)) (fun _ i _ => N - (intOf i).toNat)
 case atStart => exact ⟨0, 0, by omega, rfl, rfl, ⟨by simp [sizK]⟩, ⟨Below.refl _ _⟩⟩
 case round =>
  obtain ⟨k, n, hk, rfl, rfl, hS, hB⟩ := hrel;by_cases hlt : k < N
  ·have hkl : k < g.length := by rw [<- HN.out]; exact hlt
   obtain ⟨b, o, rfl, -, c0⟩ := HG.out.at1 wr hB.out k hkl;have HSS := Bx.mk (show sizK (gxs g) (k + 1) = sizK (gxs g) k + (g[k]).vs.length by rw [sizK_succ _ k (by rw [gxs_len]; exact hkl), gxs_at g k hkl, vxs_len]);obtain ⟨la, lc, hls, -⟩ := (HG.out.lv _ (zM hkl)).rd.form;rw [hls] at c0;obtain ⟨M, hM⟩ : ∃ M, M = (g[k]'hkl).vs.length := ⟨_, rfl⟩
   rw [<- hM] at c0 HSS;clear hls hM hkl;have hb := HSL.out (k + 1) (by omega);rw [HSS.out, <- hS.out] at hb;have hw1 : IntKind.i64.wrap ((n : Int) + (M : Int)) = ((n + M : Nat) : Int) := by rw [IntWalk.i64_in _ (by omega)]; omega
   have hba : Below wr.heap.size wr (wr.alloc (.cells #[.slice la M lc] 63)) := (Below.refl _ _).alloc (zR _) _;have HB2 := Bx.mk (hB.out.trans (hba.mono hB.out.size));have HS2 := Bx.mk (show n + M = sizK (gxs g) (k + 1) by rw [HSS.out, hS.out]);clear hba;go_wp2_with fail
   go_roundw
   case rel => exact ⟨k + 1, n + M, by omega, by go_num, by go_num, HS2, HB2⟩
   case measure => simp [intOf]; omega
  ·obtain rfl : N = k := by omega
   have HS2 := Bx.mk (show n = sizG (gxs g) by rw [hS.out]; unfold sizG; rw [gxs_len, HN.out]);go_wp2_with fail
   go_ret;exact ⟨by rw [<- HS2.out]; rfl, hB.out⟩
def rootG : List (List Vx) := [[⟨anyP, [anyP], []⟩]]
theorem groot_any (w : World) : Calls Tryz.prog 20 #[] w fun e w' => ∃ v' g', e = .returned v' /\ GO w' w.heap.size v' g' /\ gxs g' = rootG /\ Below w.heap.size w w' := by
 go_enter Tryz.func20, Tryz.ntmps20;go_wp2
 go_ret;obtain ⟨W1, hW1⟩ : ∃ W1, W1 = w.alloc (.cells #[.string ⟨#[50, 46, 53, 46, 50, 57, 46, 51, 50, 46, 48]⟩] 9) := ⟨_, rfl⟩
 have ho1 : Slc.Own W1 w.heap.size 9 1 encS (.slice (some ⟨w.heap.size, 0, none⟩) 1 1) [anyP] := by
  rw [hW1]; exact own_alloc encS_ok w [anyP] _ rfl (zR _) (by unfold maxLen; simp)
 have hs1 : W1.heap.size = w.heap.size + 1 := by rw [hW1]; simp
 have hb1 : Below w.heap.size w W1 := by rw [hW1]; exact (Below.refl _ _).alloc (zR _) _
 rw [<- hW1];obtain ⟨W2, hW2⟩ : ∃ W2, W2 = W1.alloc (.cells #[.string ⟨#[50, 46, 53, 46, 50, 57, 46, 51, 50, 46, 48]⟩, .slice (some ⟨w.heap.size, 0, none⟩) 1 1, .slice none 0 0] 65) := ⟨_, rfl⟩
 have ho2 : Slc.Own W2 w.heap.size 65 3 encV (.slice (some ⟨w.heap.size + 1, 0, none⟩) 1 1) [⟨⟨anyP, [anyP], []⟩, ⟨some ⟨w.heap.size, 0, none⟩, 1, 1⟩, ⟨none, 0, 0⟩⟩] := by
  rw [hW2, <- hs1]; exact own_alloc encV_ok W1 [⟨⟨anyP, [anyP], []⟩, ⟨some ⟨w.heap.size, 0, none⟩, 1, 1⟩, ⟨none, 0, 0⟩⟩] _ rfl (by omega) (by unfold maxLen; simp)
 have hs2 : W2.heap.size = w.heap.size + 2 := by rw [hW2]; simp [hs1]
 have hb2 : Below w.heap.size w W2 := by rw [hW2]; exact hb1.alloc (by omega) _
 have ho12 : Slc.Own W2 w.heap.size 9 1 encS (.slice (some ⟨w.heap.size, 0, none⟩) 1 1) [anyP] := by rw [hW2]; exact ho1.below ((Below.refl _ _).alloc (zR _) _)
 rw [<- hW2];obtain ⟨W3, hW3⟩ : ∃ W3, W3 = W2.alloc (.cells #[.slice (some ⟨w.heap.size + 1, 0, none⟩) 1 1] 63) := ⟨_, rfl⟩
 have hba : Below W2.heap.size W2 W3 := by rw [hW3]; exact (Below.refl _ _).alloc (zR _) _
 have ho3 : Slc.Own W3 w.heap.size 63 1 encL (.slice (some ⟨w.heap.size + 2, 0, none⟩) 1 1) [⟨[⟨⟨anyP, [anyP], []⟩, ⟨some ⟨w.heap.size, 0, none⟩, 1, 1⟩, ⟨none, 0, 0⟩⟩], ⟨some ⟨w.heap.size + 1, 0, none⟩, 1, 1⟩⟩] := by
  rw [hW3, <- hs2]; exact own_alloc encL_ok W2 [⟨[⟨⟨anyP, [anyP], []⟩, ⟨some ⟨w.heap.size, 0, none⟩, 1, 1⟩, ⟨none, 0, 0⟩⟩], ⟨some ⟨w.heap.size + 1, 0, none⟩, 1, 1⟩⟩] _ rfl (by omega) (by unfold maxLen; simp)
 rw [<- hW3];refine ⟨_, [⟨[⟨⟨anyP, [anyP], []⟩, ⟨some ⟨w.heap.size, 0, none⟩, 1, 1⟩, ⟨none, 0, 0⟩⟩], ⟨some ⟨w.heap.size + 1, 0, none⟩, 1, 1⟩⟩], rfl, ⟨ho3, fun L hL => ?_, fun i j hi hj hij => ?_, fun L hL k hk => ?_, fun L hL x hx => ?_⟩, rfl, hb2.trans (hba.mono hb2.size)⟩
 ·rw [zS] at hL; subst hL; exact ho2.below hba
 ·simp only [List.length_singleton] at hi hj; omega
 ·rw [zS] at hL; subst hL
  have hk' : some (w.heap.size + 1) = some k := hk;rw [<- hk'];simp [Value.ownBlock]
 ·rw [zS] at hL; subst hL
  rw [zS] at hx; subst hx
  refine ⟨⟨(ho12.below hba).rd, fun k hk hn => ?_⟩, .inl ⟨rfl, _, _, rfl⟩, ⟨by simp, fun b hb => ?_⟩, by show 11 <= 1000000; omega, by simp, fun p hp => by cases hp⟩
  ·have hk' : some w.heap.size = some k := hk;simp only [zO] at hk'
   rcases hn with hn | ⟨L, hL, hn⟩
   ·have : some (w.heap.size + 2) = some k := hn;simp only [zO] at this; omega
   ·rw [zS] at hL; subst hL
    have : some (w.heap.size + 1) = some k := hn;simp only [zO] at this; omega
  ·rw [zS] at hb; subst hb
   show 11 <= 1000000; omega
end Go.Proofs.YtmagjdocondmhaaGreat.Tr.Gr
namespace Go.Proofs.YtmagjdocondmhaaGreat.Tr.Gr
open Go Go.RowKit Slc St Mp Tr Rg
structure LQ (l : List Vx) : Prop where
 ord : OrdP l
 ex : ∀ v ∈ l, ascB v.ex = true
 ns : ∀ v ∈ l, specV v = false -> anyP ∉ v.ex
theorem valid_lq {g : List (List Vx)} (h : gvalidB g = true) {k : Nat} (hk : k < g.length) : LQ g[k]! := by
 have hp := valid_pv h
 cases k with
 | zero =>
  obtain ⟨v, hv, -, ho, hs⟩ := gvalid_top h hk;rw [hv];refine ⟨List.pairwise_singleton _ _, fun u hu => ?_, fun u hu hs' => ?_⟩
  ·rw [zS] at hu; subst hu
   have : u.ex = [anyP] := of_decide_eq_true ho;rw [this]; rfl
  ·rw [zS] at hu; subst hu; rw [hs] at hs'; cases hs'
 | succ k => exact ⟨hp.ord (k + 1), fun v hv => (hp.fit k hk v hv).ex, fun v hv => (hp.fit k hk v hv).ns⟩
theorem exJ_succ (l : List Vx) (k : Nat) (p : B) : exJ l (k + 1) p = exJ l k p ++ ((l[k]!).ex.filter fun q => decide (q = p)).map fun _ => (k : Int) := by
 unfold exJ;rw [List.range_succ, List.flatMap_append]; simp
theorem filt_one {l : List B} (h : l.Pairwise (· < ·)) (p : B) : (l.filter fun q => decide (q = p)) = if p ∈ l then [p] else [] := by
 induction l with
 | nil => simp
 | cons x l ih =>
  rw [List.pairwise_cons] at h;rw [List.filter_cons, ih h.2];by_cases e : x = p
  ·subst e;have : x ∉ l := fun hm => ltB_irr _ (h.1 x hm)
   simp [this]
  ·have e' : ¬ p = x := fun q => e q.symm
   simp [e, e']
theorem ascB_pw {l : List B} (h : ascB l = true) : l.Pairwise (· < ·) := (ascB_iff.1 h).1
theorem exJ_one {l : List Vx} (h : LQ l) {k : Nat} (hk : k < l.length) (p : B) : exJ l (k + 1) p = exJ l k p ++ if p ∈ (l[k]!).ex then [(k : Int)] else [] := by
 rw [exJ_succ, filt_one (ascB_pw (h.ex _ (by rw [getElem!_pos l k hk]; exact zM hk)))];split <;> simp
theorem exJ_asc {l : List Vx} (h : LQ l) (p : B) : ∀ k, k <= l.length -> (exJ l k p).Pairwise (· < ·)
 | 0, _ => by rw [exJ_zero]; exact List.Pairwise.nil
 | k + 1, hk => by
  rw [exJ_one h (by omega)];refine List.pairwise_append.2 ⟨exJ_asc h p k (by omega), ?_, fun a ha b hb => ?_⟩
  ·split
   ·exact List.pairwise_singleton _ _
   ·exact List.Pairwise.nil
  ·have := exJ_range l k p a ha;split at hb
   ·rw [zS] at hb; omega
   ·cases hb
theorem exJ_has {l : List Vx} {k : Nat} {p : B} {i : Int} (h : i ∈ exJ l k p) : ∃ j, j < k /\ i = (j : Int) /\ p ∈ (l[j]!).ex := by
 unfold exJ at h;obtain ⟨j, hj, h⟩ := List.mem_flatMap.1 h;obtain ⟨q, hq, rfl⟩ := List.mem_map.1 h;obtain ⟨h1, h2⟩ := List.mem_filter.1 hq;rw [decide_eq_true_eq] at h2;subst h2;exact ⟨j, List.mem_range.1 hj, rfl, h1⟩
theorem parF_asc {l : List Vx} (h : LQ l) (ps : List B) (cnt : Bool) (p : B) : (parF l ps cnt p).Pairwise (· < ·) := by
 have h1 : (exI l p).Pairwise (· < ·) := exJ_asc h p l.length (zR _);unfold parF;split
 ·exact h1
 ·split
  ·split
   ·exact h1
   ·split
    ·exact List.pairwise_singleton _ _
    ·exact List.Pairwise.nil
  ·exact List.Pairwise.nil
theorem ord_one {l : List Vx} (h : OrdP l) {i j : Nat} (hi : i < l.length) (hj : j < l.length) (he : (l[i]!).pol = (l[j]!).pol) : i = j := by
 rw [getElem!_pos l i hi, getElem!_pos l j hj] at he;have h2 := List.pairwise_iff_getElem.1 h;rcases Nat.lt_trichotomy i j with q | q | q
 ·have := h2 i j hi hj q;rw [he] at this; exact absurd this (ltB_irr _)
 ·exact q
 ·have := h2 j i hj hi q;rw [he] at this; exact absurd this (ltB_irr _)
theorem asc_same {l : List Int} (h : l.Pairwise (· < ·)) (hs : ∀ x ∈ l, ∀ y ∈ l, x = y) : l.length <= 1 := by
 match l, h with
 | [], _ => simp
 | [x], _ => simp
 | x :: y :: r, h =>
  rw [List.pairwise_cons] at h;have h1 := h.1 y (by simp);have h2 := hs x (by simp) y (by simp);omega
theorem levP_ord (l : List Vx) (ps : List B) (cnt : Bool) : OrdP (levP l ps cnt) := by
 unfold levP OrdP;rw [List.pairwise_map];exact keyL_asc l ps cnt
theorem levP_fit {l : List Vx} (h : LQ l) (ps : List B) (cnt : Bool) : ∀ v ∈ levP l ps cnt, FitP v l := by
 intro v hv;unfold levP at hv;obtain ⟨p, hp, rfl⟩ := List.mem_map.1 hv;refine ⟨rfl, parF_asc h ps cnt p, parF_range l ps cnt p, fun hs => ?_, fun hs => ?_⟩
 ·have e : p = anyP := of_decide_eq_true hs;subst e
  have hpar : ∀ i ∈ parF l ps cnt anyP, ∃ j, j < l.length /\ i = (j : Int) /\ specV l[j]! = true := fun i hi => by
   have : i ∈ exI l anyP := by
    unfold parF at hi;split at hi
    ·exact hi
    ·simp at hi
   obtain ⟨j, h1, h2, h3⟩ := exJ_has this;refine ⟨j, h1, h2, ?_⟩
   cases hsp : specV l[j]! with
   | true => rfl
   | false => exact absurd h3 (h.ns _ (by rw [getElem!_pos l j h1]; exact zM h1) hsp)
  refine ⟨asc_same (parF_asc h ps cnt anyP) fun x hx y hy => ?_, fun i hi => ?_, rfl⟩
  ·obtain ⟨a, a1, rfl, a3⟩ := hpar x hx;obtain ⟨b, b1, rfl, b3⟩ := hpar y hy;have e1 : (l[a]!).pol = anyP := of_decide_eq_true a3;have e2 : (l[b]!).pol = anyP := of_decide_eq_true b3;rw [ord_one h.ord a1 b1 (by rw [e1, e2])]
  ·obtain ⟨j, -, rfl, h3⟩ := hpar i hi;rw [Int.toNat_natCast]; exact h3
 ·simp only [lvV, zS]
  intro e;have : specV (lvV (parF l ps cnt) p) = true := zT e.symm;rw [hs] at this; cases this
theorem PV.snoc {g : List (List Vx)} (h : PV g) (hg : 0 < g.length) {l : List Vx} (ho : OrdP l) (hf : ∀ v ∈ l, FitP v g[g.length - 1]!) : PV (g ++ [l]) := by
 have hat : ∀ j, j < g.length -> (g ++ [l])[j]! = g[j]! := fun j hj => by
  rw [getElem!_pos _ j (by simp; omega), List.getElem_append_left hj, getElem!_pos g j hj]
 have hla : (g ++ [l])[g.length]! = l := by
  rw [getElem!_pos _ g.length (by simp), List.getElem_append_right (zR _)]; simp
 refine ⟨by rw [hat 0 hg]; exact h.top, fun k => ?_, fun k hk v hv => ?_⟩
 ·rcases Nat.lt_trichotomy k g.length with q | q | q
  ·rw [hat k q]; exact h.ord k
  ·rw [q, hla]; exact ho
  ·rw [getElem!_neg _ k (by simp; omega)]; exact List.Pairwise.nil
 ·rw [List.length_append, List.length_singleton] at hk;by_cases e : k + 1 < g.length
  ·rw [hat (k + 1) e] at hv;rw [hat k (by omega)];exact h.fit k e v hv
  ·have e' : k + 1 = g.length := by omega
   rw [e', hla] at hv;rw [hat k (by omega), show k = g.length - 1 by omega];exact hf v hv
theorem enter_valid {g : List (List Vx)} (h : gvalidB g = true) (ps : List B) (cnt : Bool) : gvalidB (genterP g ps cnt).1 = true := by
 unfold genterP;rw [h];simp only [if_true]
 split
 ·rfl
 ·rename_i h0
  exact prune_valid ((valid_pv h).snoc (by omega) (levP_ord _ _ _) (levP_fit (valid_lq h (by omega)) ps cnt))
theorem PV.setLast {g : List (List Vx)} (h : PV g) {k : Nat} (hk : k + 2 = g.length) {l : List Vx} (ho : OrdP l) (hf : ∀ v ∈ l, FitP v g[k]!) : PV (g.set (k + 1) l) := by
 have hat : ∀ (j : Nat), j ≠ k + 1 -> (g.set (k + 1) l)[j]! = g[j]! := fun j hj => by
  by_cases h1 : j < g.length
  ·rw [getElem!_pos _ j (by simpa using h1), List.getElem_set, if_neg (fun e => hj e.symm), getElem!_pos g j h1]
  ·rw [getElem!_neg _ j (by simpa using h1), getElem!_neg g j h1]
 have hla := set_at_self (g := g) (k := k + 1) (by omega) l;refine ⟨by rw [hat 0 (by omega)]; exact h.top, fun j => ?_, fun j hj v hv => ?_⟩
 ·by_cases e : j = k + 1
  ·rw [e, hla]; exact ho
  ·rw [hat j e]; exact h.ord j
 ·rw [zL] at hj;by_cases e : j + 1 = k + 1
  ·rw [e, hla] at hv;rw [hat j (by omega), show j = k by omega];exact hf v hv
  ·rw [hat (j + 1) e] at hv;rw [hat j (by omega)];exact h.fit j hj v hv
theorem tw_mem {p : Vx -> Bool} : ∀ {l : List Vx} {v : Vx}, v ∈ l.takeWhile p -> p v = true
 | [], v, h => by cases h
 | x :: l, v, h => by
  rw [List.takeWhile_cons] at h;split at h
  ·rename_i hx
   rcases List.mem_cons.1 h with rfl | h
   ·exact hx
   ·exact tw_mem h
  ·cases h
theorem tw_take (p : Vx -> Bool) (l : List Vx) : l.take (l.takeWhile p).length = l.takeWhile p := by
 have h3 := List.takeWhile_append_dropWhile (p := p) (l := l)
 conv => lhs; arg 2; rw [<- h3]
 exact List.take_left' rfl
theorem insV_ord {l : List Vx} (h : OrdP l) {x : Vx} (hx : ∀ v ∈ l, v.pol ≠ x.pol) : OrdP (insV l x) := by
 unfold insV
 have e1 : l.take (plc l x.pol) = l.takeWhile fun v => decide (v.pol < x.pol) := by
  unfold plc;exact tw_take _ _
 have hlt : ∀ v ∈ l.take (plc l x.pol), v.pol < x.pol := fun v hv => by
  rw [e1] at hv;exact of_decide_eq_true (tw_mem hv)
 have hp : (l.take (plc l x.pol) ++ l.drop (plc l x.pol)).Pairwise fun a b => a.pol < b.pol := by rw [List.take_append_drop]; exact h
 obtain ⟨a1, a2, a3⟩ := List.pairwise_append.1 hp
 have hge : ∀ v ∈ l.drop (plc l x.pol), x.pol < v.pol := by
  intro v hv
  have hd : ∀ y r, l.drop (plc l x.pol) = y :: r -> ¬ y.pol < x.pol := by
   intro y r hyr hlt'
   have h2 : l.dropWhile (fun v => decide (v.pol < x.pol)) = y :: r := by
    rw [<- hyr];unfold plc;have h3 := List.takeWhile_append_dropWhile (p := fun v : Vx => decide (v.pol < x.pol)) (l := l)
    conv => rhs; rw [<- h3]
    rw [List.drop_left' (by rw [h3])]
   have h4 := List.head_dropWhile_not (p := fun v : Vx => decide (v.pol < x.pol)) (l := l) (by rw [h2]; simp);simp only [h2, List.head_cons] at h4
   rw [zT hlt'] at h4
   cases h4
  cases hr : l.drop (plc l x.pol) with
  | nil => rw [hr] at hv; cases hv
  | cons y r =>
   have h1 := hd y r hr;have hy : y ∈ l := List.mem_of_mem_drop (by rw [hr]; simp);have h2 : x.pol < y.pol := ltB_or h1 (hx y hy);rw [hr] at hv a2;rcases List.mem_cons.1 hv with rfl | hv
   ·exact h2
   ·exact ltB_tr h2 ((List.pairwise_cons.1 a2).1 v hv)
 refine List.pairwise_append.2 ⟨a1, List.pairwise_cons.2 ⟨hge, a2⟩, fun a ha b hb => ?_⟩;rcases List.mem_cons.1 hb with rfl | hb
 ·exact hlt a ha
 ·exact a3 a ha b hb
theorem OrdP.set {l : List Vx} (h : OrdP l) (i : Nat) {x : Vx} (hx : i < l.length -> x.pol = (l[i]!).pol) : OrdP (l.set i x) := by
 refine List.pairwise_iff_getElem.2 fun a b ha hb hab => ?_
 have ha' : a < l.length := by simpa using ha
 have hb' : b < l.length := by simpa using hb
 have h2 := List.pairwise_iff_getElem.1 h a b ha' hb' hab
 have hat : ∀ (j : Nat) (hj : j < l.length), ((l.set i x)[j]'(by simpa using hj)).pol = (l[j]).pol := fun j hj => by
  rw [List.getElem_set];split
  ·rename_i e
   subst e;rw [hx hj, getElem!_pos l i hj]
  ·rfl
 rw [hat a ha', hat b hb']; exact h2
theorem mapS_ord {ms : List (B × B)} {star above : Int} {l : List Vx} (h : OrdP l) (p : B) : OrdP (mapS ms star above l p) := by
 unfold mapS;split
 ·rename_i h0
  obtain ⟨k, hk, he, -⟩ := fndP_some h0;rw [he, Int.toNat_natCast];exact h.set k fun _ => rfl
 ·rename_i h0
  split
  ·refine insV_ord h fun v hv e => ?_
   exact h0 (fndP_has hv e)
  ·exact h
theorem mapS_fit {ms : List (B × B)} {star above : Int} {ab l : List Vx} {p : B} (hp : p ∈ srcL ms) (hab : 0 <= star -> 0 <= above /\ above < (ab.length : Int)) (h : ∀ v ∈ l, FitP v ab) : ∀ v ∈ mapS ms star above l p, FitP v ab := by
 have hpa : p ≠ anyP := fun e => srcL_any ms (e ▸ hp)
 intro v hv;unfold mapS at hv;split at hv
 ·rename_i h0
  obtain ⟨k, hk, he, hpk, -⟩ := fndP_some h0;rw [he, Int.toNat_natCast] at hv;rcases List.mem_or_eq_of_mem_set hv with q | rfl
  ·exact h v q
  ·have hf := h l[k]! (by rw [getElem!_pos l k hk]; exact zM hk);refine ⟨subL_asc hp, hf.asc, hf.rg, fun hs => ?_, fun _ => subL_any ms p⟩;have : (l[k]!).pol = anyP := of_decide_eq_true hs;rw [hpk] at this;exact absurd this hpa
 ·split at hv
  ·rename_i h1
   rcases insV_mem hv with q | rfl
   ·exact h v q
   ·refine ⟨subL_asc hp, List.pairwise_singleton _ _, fun q hq => ?_, fun hs => ?_, fun _ => subL_any ms p⟩
    ·rw [zS] at hq; subst hq; exact hab h1
    ·exact absurd (of_decide_eq_true hs) hpa
  ·exact h v hv
theorem mapL_good {ms : List (B × B)} {star above : Int} {ab : List Vx} (hab : 0 <= star -> 0 <= above /\ above < (ab.length : Int)) : ∀ (ks : List B) (l : List Vx), (∀ p ∈ ks, p ∈ srcL ms) -> OrdP l -> (∀ v ∈ l, FitP v ab) -> OrdP (mapL ms star above l ks) /\ ∀ v ∈ mapL ms star above l ks, FitP v ab
 | [], l, _, ho, hf => ⟨ho, hf⟩
 | p :: ks, l, hk, ho, hf => mapL_good hab ks (mapS ms star above l p) (fun q hq => hk q (List.mem_cons_of_mem _ hq)) (mapS_ord ho p) (mapS_fit (hk p (by simp)) hab hf)
theorem gmapL_pv {g : List (List Vx)} (h : gvalidB g = true) (hg : 2 <= g.length) (ms : List (B × B)) (ok : Bool) : PV (g.set (g.length - 1) (gmapL g ms ok)) := by
 obtain ⟨k, hk⟩ : ∃ k, k + 2 = g.length := ⟨g.length - 2, by omega⟩
 have e1 : g.length - 1 = k + 1 := by omega
 have e2 : g.length - 2 = k := by omega
 have hp := valid_pv h;rw [e1];unfold gmapL;rw [e1, e2]
 cases ok with
 | true =>
  simp only [if_true]
  have h1 := mapL_good (ms := ms) (star := fndP g[k + 1]! anyP) (above := fndP g[k]! anyP) (ab := g[k]!) (fun hs => by
   have h3 := gvalid_star h (by omega) hs
   exact ⟨h3, fndP_lt h3⟩) (srcL ms) g[k + 1]! (fun p hp => hp) (hp.ord (k + 1)) (hp.fit k (by omega))
  exact hp.setLast hk h1.1 h1.2
 | false =>
  simp only [Bool.false_eq_true, if_false]
  exact hp.setLast hk ((hp.ord (k + 1)).filter _) fun v hv => hp.fit k (by omega) v (List.mem_filter.1 hv).1
theorem map_valid {g : List (List Vx)} (h : gvalidB g = true) (ms : List (B × B)) (ok : Bool) : gvalidB (gmapP g ms ok).1 = true := by
 unfold gmapP;split
 ·rename_i h1
  rw [h, Bool.true_and, Bool.not_eq_true', decide_eq_false_iff_not] at h1;split
  ·rfl
  ·exact prune_valid (gmapL_pv h (by omega) ms ok)
 ·rfl
def SubL (l l' : List Vx) : Prop := l.length <= l'.length /\ ∀ v ∈ l, ∃ u ∈ l', v.pol = u.pol /\ v.ex = u.ex
theorem SubL.refl (l : List Vx) : SubL l l := ⟨zR _, fun v hv => ⟨v, hv, rfl, rfl⟩⟩
theorem SubL.trans {a b c : List Vx} (h : SubL a b) (h' : SubL b c) : SubL a c := ⟨Nat.le_trans h.1 h'.1, fun v hv => by
 obtain ⟨u, hu, e1, e2⟩ := h.2 v hv;obtain ⟨z, hz, e3, e4⟩ := h'.2 u hu
 exact ⟨z, hz, e1.trans e3, e2.trans e4⟩⟩
theorem filtG_sub {g : List (List Vx)} {k : Nat} (hk : k < g.length) (m : List Bool) (j : Nat) : SubL (filtG g k m)[j]! g[j]! := by
 rw [filtG_at hk j];split
 ·rename_i e
  subst e;exact ⟨keepT_le _ _, fun v hv => ⟨v, keepT_mem (zR _) hv, rfl, rfl⟩⟩
 ·split
  ·refine ⟨by rw [List.length_map]; exact zR _, fun v hv => ?_⟩;obtain ⟨u, hu, rfl⟩ := List.mem_map.1 hv;exact ⟨u, hu, rfl, rfl⟩
  ·exact SubL.refl _
theorem fwdG_sub (g : List (List Vx)) (j : Nat) : ∀ n, n < g.length \/ n = 0 -> SubL (fwdG g n)[j]! g[j]!
 | 0, _ => SubL.refl _
 | n + 1, hn => by
  rw [fwdG];exact (filtG_sub (by rw [fwdG_len]; omega) _ j).trans (fwdG_sub g j n (by omega))
theorem bwdG_sub (g : List (List Vx)) (j : Nat) : ∀ n, n < g.length \/ n = 0 -> SubL (bwdG g n)[j]! g[j]!
 | 0, _ => SubL.refl _
 | n + 1, hn => by
  rw [bwdG];exact (filtG_sub (by rw [bwdG_len]; omega) _ j).trans (bwdG_sub g j n (by omega))
theorem pruneG_sub (g : List (List Vx)) : pruneG g = [] \/ ((pruneG g).length = g.length /\ ∀ (j : Nat), SubL (pruneG g)[j]! g[j]!) := by
 rcases Nat.eq_zero_or_pos g.length with h0 | hl
 ·have : g = [] := List.length_eq_zero_iff.1 h0;subst this;exact .inl rfl
 unfold pruneG;simp only
 split
 ·exact .inl rfl
 ·right
  refine ⟨by rw [bwdG_len, fwdG_len], fun j => ?_⟩;exact (bwdG_sub _ j _ (by rw [fwdG_len]; omega)).trans (fwdG_sub g j _ (by omega))
theorem nodup_le : ∀ (l m : List B), l.Nodup -> (∀ x ∈ l, x ∈ m) -> l.length <= m.length
 | [], m, _, _ => by simp
 | x :: l, m, hn, hs => by
  rw [List.nodup_cons] at hn;have hx := hs x (by simp);have h1 := nodup_le l (m.erase x) hn.2 fun y hy => (List.mem_erase_of_ne (show y ≠ x from fun e => by subst e; exact hn.1 hy)).2 (hs y (List.mem_cons_of_mem _ hy))
  rw [List.length_erase_of_mem hx] at h1;have := List.length_pos_of_mem hx;rw [List.length_cons]; omega
theorem subL_le (l : List (B × B)) (x : B) : (subL l x).length <= l.length := by
 unfold subL;have h1 := setB_length ((l.filter fun m => decide (m.1 = x) && okM m).map (·.2));have h2 := List.length_filter_le (fun m => decide (m.1 = x) && okM m) l;rw [List.length_map] at h1;omega
attribute [local go_sem] Oper.semAt_some
end Go.Proofs.YtmagjdocondmhaaGreat.Tr.Gr
namespace Go.Proofs.YtmagjdocondmhaaGreat.Tr.Gr
open Go Go.RowKit Slc St Mp Tr Rg
theorem ord_same {a b : List Vx} (ha : OrdP a) (hb : OrdP b) (h : ∀ v, v ∈ a ↔ v ∈ b) : a = b := by
 have irr : ∀ v : Vx, ¬ v.pol < v.pol := fun v => List.lt_irrefl _
 have asy : ∀ u v : Vx, u.pol < v.pol -> v.pol < u.pol -> False := fun u v h1 h2 => List.lt_irrefl _ (List.lt_trans h1 h2)
 induction a generalizing b with
 | nil =>
  cases b with
  | nil => rfl
  | cons y b => exact absurd ((h y).2 List.mem_cons_self) (by simp)
 | cons x a ih =>
  cases b with
  | nil => exact absurd ((h x).1 List.mem_cons_self) (by simp)
  | cons y b =>
   have hx := List.pairwise_cons.1 ha;have hy := List.pairwise_cons.1 hb
   have e : x = y := by
    rcases List.mem_cons.1 ((h x).1 List.mem_cons_self) with q | q
    ·exact q
    ·rcases List.mem_cons.1 ((h y).2 List.mem_cons_self) with r | r
     ·exact r.symm
     ·exact (asy _ _ (hx.1 y r) (hy.1 x q)).elim
   subst e;congr 1
   refine ih hx.2 hy.2 fun v => ⟨fun hv => ?_, fun hv => ?_⟩
   ·rcases List.mem_cons.1 ((h v).1 (List.mem_cons_of_mem _ hv)) with q | q
    ·subst q; exact absurd (hx.1 v hv) (irr v)
    ·exact q
   ·rcases List.mem_cons.1 ((h v).2 (List.mem_cons_of_mem _ hv)) with q | q
    ·subst q; exact absurd (hy.1 v hv) (irr v)
    ·exact q
theorem insV_iff {l : List Vx} {x v : Vx} : v ∈ insV l x ↔ v ∈ l \/ v = x := by
 refine ⟨insV_mem, fun h => ?_⟩;unfold insV;rw [List.mem_append, List.mem_cons];rcases h with h | h
 ·rw [<- List.take_append_drop (plc l x.pol) l, List.mem_append] at h;rcases h with q | q
  ·exact .inl q
  ·exact .inr (.inr q)
 ·exact .inr (.inl h)
theorem fndP_neg {a : List Vx} {p : B} (h : fndP a p < 0) : ∀ v ∈ a, v.pol ≠ p := fun v hv e => by
 have := fndP_has hv e; omega
theorem renP_cons (m : List Bool) (p : Int) (l : List Int) : renP m (p :: l) = (if m[p.toNat]! then [((rk m p.toNat : Nat) : Int)] else []) ++ renP m l := by
 unfold renP;rw [List.filter_cons];split <;> simp
theorem set_at (m : List Bool) (j i : Nat) (hj : j < m.length) : (m.set j false)[i]! = if i = j then false else m[i]! := by
 by_cases e : i = j
 ·subst e;rw [if_pos rfl, getElem!_pos _ i (by simpa using hj)]; simp
 ·rw [if_neg e];by_cases h : i < m.length
  ·rw [getElem!_pos _ i (by simpa using h), getElem!_pos m i h, List.getElem_set_ne (fun q => e q.symm)]
  ·rw [getElem!_neg _ i (by simpa using h), getElem!_neg m i h]
theorem fndP_iff {l : List Vx} {p : B} : 0 <= fndP l p ↔ ∃ v ∈ l, v.pol = p := by
 constructor
 ·intro h;obtain ⟨k, hk, -, hp, -⟩ := fndP_some h;exact ⟨l[k]!, by rw [getElem!_pos l k hk]; exact zM hk, hp⟩
 ·rintro ⟨v, hv, hp⟩;exact fndP_has hv hp
theorem fndP_at {l : List Vx} (ho : OrdP l) {k : Nat} (hk : k < l.length) : fndP l (l[k]!).pol = (k : Int) := by
 have h : 0 <= fndP l (l[k]!).pol := fndP_has (show l[k]! ∈ l by rw [getElem!_pos l k hk]; exact zM hk) rfl;obtain ⟨j, hj, he, hp, -⟩ := fndP_some h;rw [he, ord_one ho hj hk hp]
theorem delL_iff {l : List Vx} (ho : OrdP l) {k : Nat} (hk : k < l.length) {v : Vx} : v ∈ delL l k ↔ v ∈ l /\ v.pol ≠ (l[k]!).pol := by
 unfold delL;rw [List.mem_append];constructor
 ·rintro (h | h)
  ·obtain ⟨j, hj, rfl⟩ := List.getElem_of_mem h;rw [List.length_take] at hj;have hjl : j < l.length := by omega
   rw [List.getElem_take];refine ⟨zM _, fun e => ?_⟩;have := ord_one ho hjl hk (by rw [getElem!_pos l j hjl]; exact e);omega
  ·obtain ⟨j, hj, rfl⟩ := List.getElem_of_mem h;rw [List.length_drop] at hj;rw [List.getElem_drop];refine ⟨zM _, fun e => ?_⟩;have hjl : k + 1 + j < l.length := by omega
   have := ord_one ho hjl hk (by rw [getElem!_pos l _ hjl]; exact e);omega
 ·rintro ⟨h, hne⟩;obtain ⟨j, hj, rfl⟩ := List.getElem_of_mem h;have hjk : j ≠ k := fun e => by subst e; rw [getElem!_pos l j hj] at hne; exact hne rfl
  rcases Nat.lt_or_ge j k with q | q
  ·left; exact List.mem_take_iff_getElem.2 ⟨j, by omega, rfl⟩
  ·right
   refine List.mem_drop_iff_getElem.2 ⟨j - (k + 1), by omega, ?_⟩;congr 1; omega
theorem delL_ord {l : List Vx} (ho : OrdP l) (k : Nat) : OrdP (delL l k) := by
 unfold delL;refine ho.sublist ?_
 conv => rhs; rw [<- List.take_append_drop k l]
 exact List.Sublist.append (List.Sublist.refl _) (by rw [<- List.drop_drop]; exact List.drop_sublist _ _)
theorem delL_filt {l : List Vx} (ho : OrdP l) {p : B} (h : 0 <= fndP l p) : delL l (fndP l p).toNat = l.filter fun v => !decide (v.pol = p) := by
 obtain ⟨k, hk, he, hp, -⟩ := fndP_some h;rw [he, Int.toNat_natCast];refine ord_same (delL_ord ho k) (ho.filter _) fun v => ?_
 rw [delL_iff ho hk, List.mem_filter, hp];simp
theorem fndP_pols {a b : List Vx} (h : a.map (·.pol) = b.map (·.pol)) (p : B) : fndP a p = fndP b p := by
 have hl : a.length = b.length := by have := congrArg List.length h; simpa using this
 have hat : ∀ j, j < a.length -> (a[j]!).pol = (b[j]!).pol := fun j hj => by
  have h1 : (a.map (·.pol))[j]'(by simpa using hj) = (b.map (·.pol))[j]'(by rw [<- h]; simpa using hj) := by congr 1
  rw [getElem!_pos a j hj, getElem!_pos b j (by omega)];simpa using h1
 rcases Int.lt_or_le (fndP a p) 0 with q | q
 ·have h1 := fndP_none q;have e1 : fndP a p = -1 := idxG_no fun j hj => zF (h1 j hj)
  have e2 : fndP b p = -1 := idxG_no fun j hj => zF (by rw [<- hat j (by omega)]; exact h1 j (by omega))
  rw [e1, e2]
 ·obtain ⟨k, hk, he, hp, hn⟩ := fndP_some q;rw [he];exact (idxG_eq (t := b) (f := fun n => decide (n.pol = p)) (k := k) (by omega) (zT (by rw [<- hat k hk]; exact hp)) fun j hj => zF (by rw [<- hat j (by omega)]; exact hn j hj)).symm
attribute [local go_sem] Oper.semAt_some
def belV (ab : List Vx) (v : Vx) : Bool := v.par.any fun q => specV ab[q.toNat]!
def polV (g : List (List Vx)) (k : Nat) (v : Vx) : Bool := (decide (0 <= fndP g[k - 1]! anyP) && decide (fndP g[k - 1]! anyP ∈ v.par)) && (!specV v || decide (k = g.length - 1))
def polL (g : List (List Vx)) (k : Nat) : List B := (List.range k).flatMap fun i => if i = 0 then [] else ((g[i]!).filter (polV g i)).map (·.pol)
def polM (g : List (List Vx)) (k j : Nat) : List B := polL g k ++ (((g[k]!).take j).filter (polV g k)).map (·.pol)
theorem polM_zero (g : List (List Vx)) (k : Nat) : polM g k 0 = polL g k := by simp [polM]
theorem polM_all (g : List (List Vx)) (k : Nat) (hk : 0 < k) : polM g k (g[k]!).length = polL g (k + 1) := by
 unfold polM polL;rw [List.take_length, List.range_succ, List.flatMap_append];simp [show ¬ k = 0 by omega]
theorem polM_succ (g : List (List Vx)) (k j : Nat) (hj : j < (g[k]!).length) : polM g k (j + 1) = polM g k j ++ if polV g k (g[k]!)[j]! then [((g[k]!)[j]!).pol] else [] := by
 unfold polM;generalize g[k]! = l at hj |-;rw [zA hj, List.filter_append, List.map_append, List.append_assoc, getElem!_pos l j hj];congr 2
 cases h : polV g k l[j] <;> simp [List.filter_cons, h]
theorem polL_one (g : List (List Vx)) : polL g 1 = [] := by simp [polL]
theorem polL_zero (g : List (List Vx)) : polL g 0 = [] := by simp [polL]
def gpolP (g : List (List Vx)) : List B := if gvalidB g then setB (polL g g.length) else []
end Go.Proofs.YtmagjdocondmhaaGreat.Tr.Gr
namespace Go.Proofs.YtmagjdocondmhaaGreat.Tr.Gr
open Go Go.RowKit Slc St Mp Tr Rg
theorem bel_fnd {ab : List Vx} {v : Vx} (ho : OrdP ab) (hp : ∀ q ∈ v.par, 0 <= q /\ q < (ab.length : Int)) : belV ab v = (decide (0 <= fndP ab anyP) && decide (fndP ab anyP ∈ v.par)) := by
 unfold belV;by_cases h : 0 <= fndP ab anyP
 ·obtain ⟨k, hk, he, hpk, -⟩ := fndP_some h;rw [zT h, Bool.true_and, he];by_cases hm : (k : Int) ∈ v.par
  ·rw [zT hm, List.any_eq_true];exact ⟨_, hm, by rw [Int.toNat_natCast]; exact zT hpk⟩
  ·rw [zF hm, List.any_eq_false];intro q hq hs;obtain ⟨h0, h1⟩ := hp q hq;have hs' : (ab[q.toNat]!).pol = anyP := of_decide_eq_true hs;have := ord_one ho (i := q.toNat) (j := k) (by omega) hk (by rw [hs', hpk]);exact hm (by rw [<- this, Int.toNat_of_nonneg h0]; exact hq)
 ·rw [zF h, Bool.false_and, List.any_eq_false];intro q hq hs;obtain ⟨h0, h1⟩ := hp q hq;exact fndP_none (by omega) q.toNat (by omega) (of_decide_eq_true hs)
attribute [local go_sem] Oper.semAt_some
end Go.Proofs.YtmagjdocondmhaaGreat.Tr.Gr
namespace Go.Proofs.YtmagjdocondmhaaGreat.Tr.Gr
open Go Go.RowKit Slc St Mp Tr Rg
theorem wanV_eq (ps : List B) (st : Int) (v : Vx) : wanV ps st v = if specV v || decide (v.pol ∈ ps) then v else ⟨v.pol, v.ex, v.par.filter fun x => !decide (x = st)⟩ := by
 unfold wanV hitV
 cases hs : specV v with
 | true => simp
 | false =>
  by_cases hp : v.pol ∈ ps
  ·simp [hp]
  ·by_cases hst : st ∈ v.par
   ·simp [hp, hst]
   ·simp only [hp, hst, decide_false, Bool.not_false, Bool.and_false, Bool.false_and, Bool.false_eq_true, if_false, Bool.or_false]
    have : (v.par.filter fun x => !decide (x = st)) = v.par := by
     rw [List.filter_eq_self];intro x hx;have : x ≠ st := fun e => hst (e ▸ hx)
     simp [this]
    rw [this]
theorem wanV_pol (ps : List B) (st : Int) (v : Vx) : (wanV ps st v).pol = v.pol := by unfold wanV; split <;> rfl
theorem wanL_pols (ps : List B) (st : Int) (l : List Vx) : (wanL ps st l).map (·.pol) = l.map (·.pol) := by
 unfold wanL;rw [List.map_map];exact List.map_congr_left fun v _ => wanV_pol ps st v
theorem renL_pols (m : List Bool) (l : List Vx) : (l.map (renV m)).map (·.pol) = l.map (·.pol) := by
 rw [List.map_map]; rfl
theorem ord_pols {a b : List Vx} (h : a.map (·.pol) = b.map (·.pol)) (ho : OrdP b) : OrdP a := by
 have h1 : (b.map (·.pol)).Pairwise (· < ·) := List.pairwise_map.2 ho;rw [<- h] at h1;exact List.pairwise_map.1 h1
theorem len_pols {a b : List Vx} (h : a.map (·.pol) = b.map (·.pol)) : a.length = b.length := by
 have := congrArg List.length h;simpa using this
theorem fndP_is {l : List Vx} (ho : OrdP l) {k : Nat} (hk : k < l.length) (q : B) : fndP l q = (k : Int) ↔ (l[k]!).pol = q := by
 constructor
 ·intro h;obtain ⟨j, hj, he, hp, -⟩ := fndP_some (l := l) (p := q) (by omega);have : j = k := by omega
  rw [<- this]; exact hp
 ·intro h;rw [<- h]; exact fndP_at ho hk
theorem ren_filt {m : List Bool} {Y : List Vx} (ho : OrdP Y) (hm : m.length = Y.length) : ∀ (ps : List Int), (∀ p ∈ ps, 0 <= p /\ p < (Y.length : Int)) ->
  renP m (ps.filter fun x => !decide (x = fndP Y anyP)) = (renP m ps).filter fun x => !decide (x = fndP (keepT Y m Y.length) anyP)
 | [], _ => rfl
 | p :: ps, h => by
  have hp := h p List.mem_cons_self;have ih := ren_filt ho hm ps fun q hq => h q (List.mem_cons_of_mem _ hq)
  have hk : p.toNat < Y.length := by omega
  have e1 : p = fndP Y anyP ↔ (Y[p.toNat]!).pol = anyP := by
   rw [<- fndP_is ho hk anyP];exact ⟨fun e => by rw [<- e]; omega, fun e => by rw [e]; omega⟩
  rw [renP_cons, List.filter_cons]
  cases hmk : m[p.toNat]! with
  | false =>
   simp only [Bool.false_eq_true, if_false, List.nil_append]
   split
   ·rw [renP_cons, hmk]; simpa using ih
   ·exact ih
  | true =>
   obtain ⟨a1, a2⟩ := keepT_at (l := Y) hk hmk
   have e2 : ((rk m p.toNat : Nat) : Int) = fndP (keepT Y m Y.length) anyP ↔ (Y[p.toNat]!).pol = anyP := by
    rw [<- a2, <- fndP_is (keepT_ord ho m) a1 anyP];exact ⟨fun e => e.symm, fun e => e.symm⟩
   simp only [if_true, List.singleton_append]
   rw [List.filter_cons];by_cases q : (Y[p.toNat]!).pol = anyP
   ·rw [zT (e1.2 q), zT (e2.2 q)];simpa using ih
   ·rw [zF (fun e => q (e1.1 e)), zF (fun e => q (e2.1 e))];simp only [Bool.not_false, if_true]
    rw [renP_cons, hmk];simp only [if_true, List.singleton_append]
    rw [ih]
theorem ren_wan {m : List Bool} {Y : List Vx} (ho : OrdP Y) (hm : m.length = Y.length) (ps : List B) {v : Vx} (h : ∀ p ∈ v.par, 0 <= p /\ p < (Y.length : Int)) : renV m (wanV ps (fndP Y anyP) v) = wanV ps (fndP (keepT Y m Y.length) anyP) (renV m v) := by
 rw [wanV_eq, wanV_eq];have hs : specV (renV m v) = specV v := rfl;have hp : (renV m v).pol = v.pol := rfl;rw [hs, hp];split
 ·rfl
 ·unfold renV;simp only
  rw [ren_filt ho hm v.par h]
def r1G (ps : List B) (g : List (List Vx)) (n : Nat) : List (List Vx) := (List.range g.length).map fun k => if 0 < k /\ k <= n then wanL ps (fndP g[k - 1]! anyP) g[k]! else g[k]!
theorem r1G_len (ps : List B) (g : List (List Vx)) (n : Nat) : (r1G ps g n).length = g.length := by simp [r1G]
theorem r1G_at (ps : List B) (g : List (List Vx)) (n : Nat) {k : Nat} (hk : k < g.length) : (r1G ps g n)[k]! = if 0 < k /\ k <= n then wanL ps (fndP g[k - 1]! anyP) g[k]! else g[k]! := by
 rw [getElem!_pos _ k (by rw [r1G_len]; exact hk)];simp only [r1G, List.getElem_map, List.getElem_range]
theorem get_ext {a b : List (List Vx)} (hl : a.length = b.length) (h : ∀ j, j < a.length -> a[j]! = b[j]!) : a = b := by
 apply List.ext_getElem hl
 intro j h1 h2;have := h j h1;rwa [getElem!_pos a j h1, getElem!_pos b j h2] at this
theorem r1G_pols (ps : List B) (g : List (List Vx)) (n : Nat) {k : Nat} (hk : k < g.length) : ((r1G ps g n)[k]!).map (·.pol) = (g[k]!).map (·.pol) := by
 rw [r1G_at ps g n hk];split
 ·exact wanL_pols _ _ _
 ·rfl
theorem set_at2 {g : List (List Vx)} {k j : Nat} (hk : k < g.length) (l : List Vx) : (g.set k l)[j]! = if j = k then l else g[j]! := by
 by_cases hj : j < g.length
 ·rw [getElem!_pos _ j (by simpa using hj), List.getElem_set];by_cases e : k = j
  ·rw [if_pos e, if_pos e.symm]
  ·rw [if_neg e, if_neg (fun q => e q.symm), getElem!_pos g j hj]
 ·rw [getElem!_neg _ j (by simpa using hj), if_neg (by omega), getElem!_neg g j hj]
theorem wanK_at {ps : List B} {A : List (List Vx)} {k : Nat} (hk : k < A.length) (j : Nat) : (wanK ps A k)[j]! = if j = k then keepT (wanL ps (fndP A[k - 1]! anyP) A[k]!) (marksA (wanL ps (fndP A[k - 1]! anyP) A[k]!)) (wanL ps (fndP A[k - 1]! anyP) A[k]!).length else if j = k + 1 then (A[j]!).map (renV (marksA (wanL ps (fndP A[k - 1]! anyP) A[k]!))) else A[j]! := by
 unfold wanK;rw [filtG_at (by rw [zL]; exact hk), set_at2 hk, if_pos rfl];split
 ·rfl
 ·rename_i e
  rw [set_at2 hk, if_neg e]
theorem wan_fwd {g : List (List Vx)} (hP : PG g) (hO : ∀ (k : Nat), OrdP g[k]!) (ps : List B) : ∀ n, n < g.length ->
  (∀ j, j <= n -> (wanG ps g n)[j]! = (fwdG (r1G ps g (g.length - 1)) n)[j]!) /\
  (n + 1 < g.length -> (fwdG (r1G ps g (g.length - 1)) n)[n + 1]! = wanL ps (fndP (wanG ps g n)[n]! anyP) (wanG ps g n)[n + 1]! /\ ((wanG ps g n)[n + 1]!).map (·.pol) = (g[n + 1]!).map (·.pol)) /\
  (∀ j, n + 1 < j -> j < g.length -> (wanG ps g n)[j]! = g[j]! /\ (fwdG (r1G ps g (g.length - 1)) n)[j]! = (r1G ps g (g.length - 1))[j]!) := by
 intro n
 induction n with
 | zero =>
  intro h0;refine ⟨fun j hj => ?_, fun h1 => ⟨?_, rfl⟩, fun j _ _ => ⟨rfl, rfl⟩⟩
  ·obtain rfl : j = 0 := by omega
   show g[0]! = (r1G ps g (g.length - 1))[0]!
   rw [r1G_at _ _ _ h0, if_neg (by omega)]
  ·show (r1G ps g (g.length - 1))[0 + 1]! = _
   rw [r1G_at _ _ _ h1, if_pos (by omega)]
   rfl
 | succ n ih =>
  intro hn;obtain ⟨i1, i2, i3⟩ := ih (by omega);obtain ⟨i2, i2p⟩ := i2 hn;have hAl := wanG_len ps g n;have hFl : (fwdG (r1G ps g (g.length - 1)) n).length = g.length := by rw [fwdG_len, r1G_len]
  rw [wanG, fwdG];generalize hA : wanG ps g n = A at *;generalize hF : fwdG (r1G ps g (g.length - 1)) n = F at *;generalize hX : wanL ps (fndP A[n]! anyP) A[n + 1]! = X at *
  have hWK : ∀ j, (wanK ps A (n + 1))[j]! = if j = n + 1 then keepT X (marksA X) X.length else if j = n + 1 + 1 then (A[j]!).map (renV (marksA X)) else A[j]! := fun j => by
   have := wanK_at (ps := ps) (A := A) (k := n + 1) (by omega) j;rw [Nat.add_sub_cancel, hX] at this;exact this
  have hFK : ∀ j, (filtG F (n + 1) (marksA F[n + 1]!))[j]! = if j = n + 1 then keepT X (marksA X) X.length else if j = n + 1 + 1 then (F[j]!).map (renV (marksA X)) else F[j]! := fun j => by
   rw [filtG_at (by omega), i2]
  have hXp : X.map (·.pol) = (g[n + 1]!).map (·.pol) := by rw [<- hX, wanL_pols, i2p]
  refine ⟨fun j hj => ?_, fun h2 => ⟨?_, ?_⟩, fun j h1 h2 => ⟨?_, ?_⟩⟩
  ·rw [hWK, hFK];by_cases e : j = n + 1
   ·rw [if_pos e, if_pos e]
   ·rw [if_neg e, if_neg e, if_neg (by omega), if_neg (by omega)];exact i1 j (by omega)
  ·rw [hFK, if_neg (by omega), if_pos rfl, hWK, if_pos rfl, hWK, if_neg (by omega), if_pos rfl];rw [(i3 (n + 1 + 1) (by omega) h2).1, (i3 (n + 1 + 1) (by omega) h2).2, r1G_at _ _ _ h2, if_pos (by omega), Nat.add_sub_cancel];unfold wanL;rw [List.map_map, List.map_map];apply List.map_congr_left
   intro v hv;simp only [Function.comp_apply]
   rw [fndP_pols hXp.symm anyP];refine ren_wan (ord_pols hXp (hO _)) (marksA_len X) ps fun p hp => ?_
   rw [len_pols hXp];exact hP.par (n + 1) h2 v hv p hp
  ·rw [hWK, if_neg (by omega), if_pos rfl, renL_pols, (i3 (n + 1 + 1) (by omega) h2).1]
  ·rw [hWK, if_neg (by omega), if_neg (by omega)]; exact (i3 j (by omega) h2).1
  ·rw [hFK, if_neg (by omega), if_neg (by omega)]; exact (i3 j (by omega) h2).2
theorem wan_eq {g : List (List Vx)} (hP : PG g) (hO : ∀ (k : Nat), OrdP g[k]!) (hg : 0 < g.length) (ps : List B) : wanG ps g (g.length - 1) = fwdG (r1G ps g (g.length - 1)) (g.length - 1) := by
 apply get_ext (by rw [wanG_len, fwdG_len, r1G_len])
 intro j hj;rw [wanG_len] at hj;exact (wan_fwd hP hO ps (g.length - 1) (by omega)).1 j (by omega)
theorem wan_keep (ps : List B) (g : List (List Vx)) : ∀ n, n < g.length -> ∀ d, d <= n -> (wanG ps g n)[d]! = (wanG ps g d)[d]!
 | 0, _, d, hd => by
  obtain rfl : d = 0 := by omega
  rfl
 | n + 1, hn, d, hd => by
  by_cases e : d = n + 1
  ·rw [e]
  ·rw [wanG, wanK_at (by rw [wanG_len]; omega), if_neg e, if_neg (by omega)];exact wan_keep ps g n (by omega) d (by omega)
theorem wan_ord {g : List (List Vx)} (hO : ∀ (k : Nat), OrdP g[k]!) (ps : List B) : ∀ n, n < g.length -> ∀ (j : Nat), OrdP (wanG ps g n)[j]!
 | 0, _, j => hO j
 | n + 1, hn, j => by
  have ih := wan_ord hO ps n (by omega);rw [wanG, wanK_at (by rw [wanG_len]; omega)];split
  ·exact keepT_ord (ord_pols (wanL_pols _ _ _) (ih _)) _
  ·split
   ·exact renL_ord (ih _) _
   ·exact ih _
theorem has_iff (ps : List B) (g : List (List Vx)) (s : B) : ∀ n, s ∈ hasG ps g n ↔ ∃ d, d < n /\ s ∈ hasL ps (fndP (wanG ps g d)[d]! anyP) (wanG ps g d)[d + 1]!
 | 0 => by simp [hasG]
 | n + 1 => by
  rw [hasG, List.mem_append, has_iff ps g s n];constructor
  ·rintro (⟨d, hd, h⟩ | h)
   ·exact ⟨d, by omega, h⟩
   ·exact ⟨n, by omega, h⟩
  ·rintro ⟨d, hd, h⟩;by_cases e : d = n
   ·subst e; exact .inr h
   ·exact .inl ⟨d, by omega, h⟩
theorem hasL_iff (ps : List B) (st : Int) (l : List Vx) (s : B) : s ∈ hasL ps st l ↔ ∃ v ∈ l, (specV v = false /\ st ∈ v.par) /\ s ∈ ps /\ v.pol = s := by
 unfold hasL hitV;rw [List.mem_map];constructor
 ·rintro ⟨v, hv, rfl⟩;rw [List.mem_filter, Bool.and_eq_true, Bool.and_eq_true, decide_eq_true_eq, decide_eq_true_eq, Bool.not_eq_true'] at hv;exact ⟨v, hv.1, ⟨hv.2.1.1, hv.2.1.2⟩, hv.2.2, rfl⟩
 ·rintro ⟨v, hv, ⟨h1, h2⟩, h3, rfl⟩;refine ⟨v, List.mem_filter.2 ⟨hv, ?_⟩, rfl⟩;rw [Bool.and_eq_true, Bool.and_eq_true, decide_eq_true_eq, decide_eq_true_eq, Bool.not_eq_true'];exact ⟨⟨h1, h2⟩, h3⟩
def thB (G : List (List Vx)) (s : B) (d : Nat) : Bool := decide (0 <= fndP G[d + 1]! s) && belV G[d]! (G[d + 1]!)[(fndP G[d + 1]! s).toNat]!
def thN (G : List (List Vx)) (s : B) (n : Nat) : Bool := (List.range n).any fun d => thB G s d
theorem fndP_mem {l : List Vx} (ho : OrdP l) {v : Vx} (hv : v ∈ l) : 0 <= fndP l v.pol /\ (l[(fndP l v.pol).toNat]!) = v := by
 obtain ⟨k, hk, rfl⟩ := List.getElem_of_mem hv;have := fndP_at ho hk;rw [getElem!_pos l k hk] at this;rw [this, Int.toNat_natCast, getElem!_pos l k hk];exact ⟨by omega, rfl⟩
theorem keepT_iff {l : List Vx} {v : Vx} : v ∈ keepT l (marksA l) l.length ↔ v ∈ l /\ v.par ≠ [] := by
 unfold keepT;rw [List.mem_map];constructor
 ·rintro ⟨j, hj, rfl⟩;rw [List.mem_filter, List.mem_range] at hj;have h2 := hj.2;rw [marksA_at _ _ hj.1, decide_eq_true_eq] at h2;refine ⟨by rw [getElem!_pos l j hj.1]; exact zM _, fun e => ?_⟩;rw [e] at h2; simp at h2
 ·rintro ⟨hv, hp⟩;obtain ⟨j, hj, rfl⟩ := List.getElem_of_mem hv;refine ⟨j, List.mem_filter.2 ⟨List.mem_range.2 hj, ?_⟩, getElem!_pos l j hj⟩;rw [marksA_at _ _ hj, getElem!_pos l j hj, decide_eq_true_eq];exact List.length_pos_iff.2 hp
theorem there_one {g : List (List Vx)} (hP : PG g) (hO : ∀ (k : Nat), OrdP g[k]!) {ps : List B} {s : B} (hs : s ∈ ps) (ha : s ≠ anyP) {d : Nat} (hd : d + 1 < g.length) :
  thB (wanG ps g (g.length - 1)) s d = decide (s ∈ hasL ps (fndP (wanG ps g d)[d]! anyP) (wanG ps g d)[d + 1]!) := by
 unfold thB;rw [wan_keep ps g (g.length - 1) (by omega) d (by omega), wan_keep ps g (g.length - 1) (by omega) (d + 1) (by omega)]
 have hL : (wanG ps g (d + 1))[d + 1]! = keepT (wanL ps (fndP (wanG ps g d)[d]! anyP) (wanG ps g d)[d + 1]!) (marksA (wanL ps (fndP (wanG ps g d)[d]! anyP) (wanG ps g d)[d + 1]!)) (wanL ps (fndP (wanG ps g d)[d]! anyP) (wanG ps g d)[d + 1]!).length := by
  rw [wanG, wanK_at (by rw [wanG_len]; omega), if_pos rfl, Nat.add_sub_cancel]
 have hO1 : OrdP (wanG ps g (d + 1))[d + 1]! := wan_ord hO ps (d + 1) hd _;have hO0 : OrdP (wanG ps g d)[d]! := wan_ord hO ps d (by omega) _;have hPA : PG (wanG ps g d) := wanG_pg hP ps d (by omega);have hAl := wanG_len ps g d;generalize hA : wanG ps g d = A at *;have hR : ∀ v ∈ A[d + 1]!, ∀ p ∈ v.par, 0 <= p /\ p < ((A[d]!).length : Int) := fun v hv p hp => hPA.par d (by omega) v hv p hp
 generalize hM : (wanG ps g (d + 1))[d + 1]! = M at *;generalize hst : fndP A[d]! anyP = st at *
 have hmem : ∀ v, v ∈ M ↔ (∃ u ∈ A[d + 1]!, wanV ps st u = v) /\ v.par ≠ [] := fun v => by
  rw [hL, keepT_iff];unfold wanL;rw [List.mem_map]
 have hbel : ∀ v ∈ M, belV A[d]! v = (decide (0 <= st) && decide (st ∈ v.par)) := fun v hv => by
  rw [<- hst];refine bel_fnd hO0 fun q hq => ?_
  obtain ⟨⟨u, hu, rfl⟩, -⟩ := (hmem v).1 hv;exact hR u hu q (wanV_par hq)
 rw [Bool.eq_iff_iff, Bool.and_eq_true, decide_eq_true_eq, decide_eq_true_eq, hasL_iff];constructor
 ·rintro ⟨h0, hb⟩;obtain ⟨k, hk, he, hp, -⟩ := fndP_some h0;rw [he, Int.toNat_natCast] at hb;have hv : M[k]! ∈ M := by rw [getElem!_pos M k hk]; exact zM hk
  rw [hbel _ hv, Bool.and_eq_true, decide_eq_true_eq, decide_eq_true_eq] at hb;obtain ⟨⟨u, hu, e⟩, -⟩ := (hmem _).1 hv;have hup : u.pol = s := by rw [<- hp, <- e, wanV_pol]
  have hue : M[k]! = u := by
   rw [<- e, wanV_eq, hup, zT hs, Bool.or_true, if_pos rfl]
  refine ⟨u, hu, ⟨?_, by rw [<- hue]; exact hb.2⟩, hs, hup⟩;unfold specV;rw [hup]; exact zF ha
 ·rintro ⟨u, hu, ⟨h1, h2⟩, -, rfl⟩;have hue : wanV ps st u = u := by rw [wanV_eq, zT hs, Bool.or_true, if_pos rfl]
  have hv : u ∈ M := (hmem u).2 ⟨⟨u, hu, hue⟩, fun e => by rw [e] at h2; cases h2⟩;obtain ⟨a1, a2⟩ := fndP_mem hO1 hv;refine ⟨a1, ?_⟩;rw [a2, hbel u hv, Bool.and_eq_true, decide_eq_true_eq, decide_eq_true_eq];exact ⟨(hR u hu st h2).1, h2⟩
theorem there_has {g : List (List Vx)} (hP : PG g) (hO : ∀ (k : Nat), OrdP g[k]!) {ps : List B} {s : B} (hs : s ∈ ps) (ha : s ≠ anyP) :
  thN (wanG ps g (g.length - 1)) s (g.length - 1) = decide (s ∈ hasG ps g (g.length - 1)) := by
 unfold thN;rw [Bool.eq_iff_iff, List.any_eq_true, decide_eq_true_eq, has_iff];constructor
 ·rintro ⟨d, hd, h⟩;rw [List.mem_range] at hd;rw [there_one hP hO hs ha (by omega), decide_eq_true_eq] at h;exact ⟨d, hd, h⟩
 ·rintro ⟨d, hd, h⟩;refine ⟨d, List.mem_range.2 hd, ?_⟩;rw [there_one hP hO hs ha (by omega), decide_eq_true_eq];exact h
theorem resL_skip (has : List B) (ab : Int) : ∀ (ks : List B) (l : List Vx), resL has ab l ks = resL [] ab l (ks.filter fun p => !decide (p ∈ has))
 | [], l => rfl
 | p :: ks, l => by
  show resL has ab (resS has ab l p) ks = _
  rw [resL_skip has ab ks, List.filter_cons];by_cases h : p ∈ has
  ·rw [zT h];have : resS has ab l p = l := by unfold resS; rw [if_pos h]
   rw [this]; rfl
  ·rw [zF h];have : resS has ab l p = resS [] ab l p := by unfold resS; simp only [if_neg h, List.not_mem_nil, if_false]
   rw [this]; rfl
theorem set_iff {l : List Vx} (ho : OrdP l) {k : Nat} (hk : k < l.length) {x v : Vx} : v ∈ l.set k x ↔ v = x \/ (v ∈ l /\ v.pol ≠ (l[k]!).pol) := by
 rw [List.mem_iff_getElem];constructor
 ·rintro ⟨j, hj, rfl⟩;rw [zL] at hj;rw [List.getElem_set];by_cases e : k = j
  ·rw [if_pos e]; exact .inl rfl
  ·rw [if_neg e];refine .inr ⟨zM _, fun q => e ?_⟩;exact (ord_one ho hj hk (by rw [getElem!_pos l j hj]; exact q)).symm
 ·rintro (rfl | ⟨h, hne⟩)
  ·exact ⟨k, by rw [zL]; exact hk, by rw [List.getElem_set_self]⟩
  ·obtain ⟨j, hj, rfl⟩ := List.getElem_of_mem h;refine ⟨j, by rw [zL]; exact hj, ?_⟩;rw [List.getElem_set, if_neg];intro e;subst e;rw [getElem!_pos l k hk] at hne;exact hne rfl
def resX (ab : Int) (l : List Vx) (p : B) : Vx := if 0 <= fndP l p then ⟨p, (l[(fndP l p).toNat]!).ex, srtI ((l[(fndP l p).toNat]!).par ++ [ab])⟩ else ⟨p, [p], [ab]⟩
theorem resX_pol (ab : Int) (l : List Vx) (p : B) : (resX ab l p).pol = p := by unfold resX; split <;> rfl
theorem resS_iff {ab : Int} {l : List Vx} (ho : OrdP l) (p : B) : OrdP (resS [] ab l p) /\ ∀ v, v ∈ resS [] ab l p ↔ v = resX ab l p \/ (v ∈ l /\ v.pol ≠ p) := by
 unfold resS resX;rw [if_neg (by simp)];by_cases h : 0 <= fndP l p
 ·rw [if_pos h, if_pos h];obtain ⟨k, hk, he, hp, -⟩ := fndP_some h;rw [he, Int.toNat_natCast];refine ⟨ho.set k fun _ => rfl, fun v => ?_⟩;rw [set_iff ho hk, hp]
 ·rw [if_neg h, if_neg h];refine ⟨insV_ord ho fun v hv => fndP_neg (show fndP l p < 0 by omega) v hv, fun v => ?_⟩;rw [insV_iff];constructor
  ·rintro (q | q)
   ·exact .inr ⟨q, fndP_neg (show fndP l p < 0 by omega) v q⟩
   ·exact .inl q
  ·rintro (q | q)
   ·exact .inr q
   ·exact .inl q.1
theorem resL_ord {ab : Int} : ∀ (ks : List B) {l : List Vx}, OrdP l -> OrdP (resL [] ab l ks)
 | [], _, h => h
 | p :: ks, _, h => resL_ord ks (resS_iff h p).1
end Go.Proofs.YtmagjdocondmhaaGreat.Tr.Gr
namespace Go.Proofs.YtmagjdocondmhaaGreat.Tr
open Go Go.RowKit St
section
variable {t : List Nd} {D : Int}
theorem polC_iff {X : List Nd} {n : Nd} : polC X D n = true ↔ 0 <= n.p /\ spec (pn X n) = true /\ (spec n = false \/ n.d = D) := by
 unfold polC;simp [-List.getElem!_eq_getElem?_getD]
end
end Go.Proofs.YtmagjdocondmhaaGreat.Tr
namespace Go.Proofs.YtmagjdocondmhaaGreat.Tr
open Go Go.RowKit St
section
variable {t : List Nd} {D : Int}
theorem res_vs (V : VT t D) (ps : List B) (hps : ps ≠ [] /\ anyP ∉ ps) : VS (keepP t (resM t D ps)) D /\ ((t.any fun n => spec n && decide (n.d = D) && decide (D > 0)) = true -> VS (sortT (keepP t (resM t D ps) ++ resMore t (keepP t (resM t D ps)) D ps)) D) := by
 have hmC : ∀ i, i < t.length -> (resM t D ps)[i]! = true -> resC t D ps i = true /\ (0 <= t[i]!.p -> (resM t D ps)[t[i]!.p.toNat]! = true) := by
  intro i hi hm;unfold resM at hm |-;rw [V.dn _ hi, Bool.and_eq_true] at hm;refine ⟨hm.1, fun h => ?_⟩;have := hm.2;rw [zF (by omega), Bool.false_or] at this;exact this
 have hc : Cls t (resM t D ps) := fun i hi hm h => (hmC i hi hm).2 h
 have VO := V.vs.keep hc;obtain ⟨out, hout⟩ : ∃ out, out = keepP t (resM t D ps) := ⟨_, rfl⟩
 have hol : out.length <= t.length := by rw [hout, keepP_length]; exact rk_le _ _
 have hmem : ∀ n ∈ out, ∃ i, i < t.length /\ (resM t D ps)[i]! = true /\ n = kpN (resM t D ps) t[i]! := fun n hn => keep_mem.1 (hout ▸ hn)
 have hmem2 : ∀ i, i < t.length -> (resM t D ps)[i]! = true -> kpN (resM t D ps) t[i]! ∈ out := fun i h1 h2 => hout ▸ keep_mem.2 ⟨i, h1, h2, rfl⟩
 have hat : ∀ i, i < t.length -> (resM t D ps)[i]! = true -> out[rk (resM t D ps) i]! = kpN (resM t D ps) t[i]! := fun i h1 h2 => hout ▸ keepP_at t _ h1 h2
 rw [<- hout] at VO;refine ⟨by rw [<- hout]; exact VO, fun hX => ?_⟩;rw [<- hout];obtain ⟨x, hx, hsx⟩ := any_at.1 hX;simp only [Bool.and_eq_true, decide_eq_true_eq] at hsx
 obtain ⟨⟨hs1, hs2⟩, hs3⟩ := hsx
 have hx0 : 0 < x := by
  rcases Nat.eq_zero_or_pos x with q | q
  ·subst q; have := (V.root hx).1; omega
  ·exact q
 have hxp := V.par x hx0 hx;have hxd := V.dd x hx0 hx;have hxs := (V.sp x hx0 hx (spec_iff.1 hs1)).1;unfold pn at hxd hxs;generalize hP : t[x]!.p.toNat = P at hxd hxs;have hPl : P < t.length := by omega
 have hPm : (resM t D ps)[P]! = true := by
  rw [res_marks V ps P hPl, res_spec V ps P hPl hxs];unfold isX;rw [zF (show ¬ t[P]!.d = D by omega)]; simp
 obtain ⟨I, hI⟩ : ∃ I, I = idxP out fun n => spec n && decide (n.d = D - 1) := ⟨_, rfl⟩
 have hI0 : 0 <= I := by
  rcases Int.lt_or_le I 0 with q | q
  ·obtain ⟨k, hk, hke⟩ := mem_at.1 (hmem2 P hPl hPm);have := idxP_none (hI ▸ q) k hk;rw [hke] at this;have h1 : spec (kpN (resM t D ps) t[P]!) = true := spec_iff.2 hxs;have h2 : (kpN (resM t D ps) t[P]!).d = D - 1 := by unfold kpN; simp only; omega
   rw [h1, h2] at this;simp at this
  ·exact q
 obtain ⟨k, hk, hkI, hkf, -⟩ := idxP_some (hI ▸ hI0);rw [<- hI] at hkI;simp only [Bool.and_eq_true, decide_eq_true_eq] at hkf
 obtain ⟨A, L, hAL, VA, hA, hL, hg⟩ := VO.split (D := D) hs3
 have hkA : k < A.length := by
  rcases Nat.lt_or_ge k A.length with q | q
  ·exact q
  ·have h1 : out[k]! ∈ L := by
    rw [hAL, getElem!_append_right' q];rw [hAL, List.length_append] at hk;exact mem_at.2 ⟨k - A.length, by omega, rfl⟩
   have := (hg _ h1).d; omega
 have hAk : A[k]! = out[k]! := by rw [hAL, getElem!_append_left' hkA]
 have hgm : ∀ n ∈ resMore t out D ps, Gd A D n /\ n.pol ∈ ps /\ n.p = I /\ haveK t D ps n.pol t.length = false := by
  intro n hn;unfold resMore at hn;obtain ⟨q, hq, rfl⟩ := List.mem_map.1 hn;rw [List.mem_filter, setB_mem, Bool.not_eq_true'] at hq;have hqa : q ≠ anyP := fun e => hps.2 (e ▸ hq.1)
  rw [<- hI, hkI];refine ⟨⟨rfl, by show (0 : Int) <= (k : Int); omega, by show (k : Int) < _; omega, ?_, asc_one q, fun h => absurd h hqa, fun _ h => ?_⟩, hq.1, rfl, hq.2⟩
  ·unfold newN; simp only [Int.toNat_natCast]; rw [hAk]; omega
  ·have : anyP ∈ [q] := h;rw [zS] at this; exact hqa this.symm
 have hc2 : (L ++ resMore t out D ps).Pairwise Cmp := by
  refine List.pairwise_append.2 ⟨hL.cmp, ?_, fun a ha b hb => ?_⟩
  ·unfold resMore;rw [List.pairwise_map];refine (List.Pairwise.filter _ (setB_asc _)).imp fun {a b} h => ?_
   exact .inl ((ltT_iff _ _).2 (.inr ⟨rfl, .inr ⟨rfl, h⟩⟩))
  ·obtain ⟨G, hbp, hbI, hbh⟩ := hgm b hb;have Ga := hg a ha
   have hne : a.p = b.p -> a.pol ≠ b.pol := by
    intro hp e;obtain ⟨i, hi, hm, hai⟩ := hmem a (hAL ▸ List.mem_append.2 (.inr ha));have h1 := (hmC i hi hm)
    have h2 : 0 <= t[i]!.p := by
     have := Ga.p0;rcases Int.lt_or_le t[i]!.p 0 with q | q
     ·rw [hai] at this; unfold kpN at this; simp only at this; rw [if_pos q] at this; omega
     ·exact q
    have h3 := h1.2 h2
    have h4 : a.p = (rk (resM t D ps) t[i]!.p.toNat : Nat) := by
     rw [hai]; unfold kpN; simp only; rw [if_neg (by omega), if_pos h3]
    have hpi := V.pge hi
    have h5 : out[k]! = kpN (resM t D ps) t[t[i]!.p.toNat]! := by
     have : k = rk (resM t D ps) t[i]!.p.toNat := (by omega);rw [this];exact hat _ (by omega) h3
    have h6 : spec (pn t t[i]!) = true := by
     have := hkf.1; rw [h5] at this; exact this
    have h7 : t[i]!.pol = b.pol := by rw [<- e, hai]; rfl
    have h8 : spec t[i]! = false := by
     cases q : spec t[i]! with
     | false => rfl
     | true =>
      exfalso
      have : b.pol = anyP := (by rw [<- h7]; exact spec_iff.1 q);exact hps.2 (this ▸ hbp)
    unfold haveK at hbh;rw [List.any_eq_false] at hbh;refine hbh i (List.mem_range.2 hi) ?_;have h9 : (dnM t (resC t D ps) t.length)[i]! = true := hm;rw [h9, h6, h8, zT h2, zT h7, zT (show t[i]!.pol ∈ ps from h7 ▸ hbp)];rfl
   unfold Cmp;rw [ltT_iff, ltT_iff, Ga.d, G.d];simp only [Int.lt_irrefl, false_or, true_and]
   by_cases p1 : a.p < b.p
   ·exact .inl (.inl p1)
   ·by_cases p2 : b.p < a.p
    ·exact .inr (.inl p2)
    ·have p3 : a.p = b.p := by omega
     by_cases p4 : a.pol < b.pol
     ·exact .inl (.inr ⟨p3, p4⟩)
     ·exact .inr (.inr ⟨p3.symm, ltB_or p4 (hne p3)⟩)
 have hVS := VS.sort (xs := resMore t out D ps) VA hA hL.srt hg (fun n hn => (hgm n hn).1) hc2;rw [<- hAL] at hVS;exact hVS
theorem res_len (V : VT t D) (ps : List B) : (keepP t (resM t D ps)).length <= t.length := by rw [keepP_length]; exact rk_le _ _
def dpK (t : List Nd) (D : Int) : Nat -> Int
 | 0 => -1
 | k + 1 => if spec t[k]! && decide (t[k]!.d = D) && decide (D > 0) then (k : Nat) else dpK t D k
theorem dpK_iff (t : List Nd) (D : Int) : ∀ k, k <= t.length -> (0 <= dpK t D k ↔ ∃ i, i < k /\ (spec t[i]! && decide (t[i]!.d = D) && decide (D > 0)) = true)
 | 0, _ => by
  unfold dpK;constructor
  ·intro h; omega
  ·rintro ⟨i, h, -⟩; omega
 | k + 1, hk => by
  have ih := dpK_iff t D k (by omega);unfold dpK;by_cases q : (spec t[k]! && decide (t[k]!.d = D) && decide (D > 0)) = true
  ·rw [if_pos q];exact ⟨fun _ => ⟨k, by omega, q⟩, fun _ => by omega⟩
  ·rw [if_neg q, ih];constructor
   ·rintro ⟨i, h1, h2⟩; exact ⟨i, by omega, h2⟩
   ·rintro ⟨i, h1, h2⟩;by_cases e : i = k
    ·subst e; exact absurd h2 q
    ·exact ⟨i, by omega, h2⟩
theorem dpK_any (t : List Nd) (D : Int) : 0 <= dpK t D t.length ↔ (t.any fun n => spec n && decide (n.d = D) && decide (D > 0)) = true := by
 rw [dpK_iff t D _ (zR _), any_at]
theorem haveK_succ (t : List Nd) (D : Int) (ps : List B) (q : B) (k : Nat) : haveK t D ps q (k + 1) = (haveK t D ps q k || ((dnM t (resC t D ps) t.length)[k]! && (decide (t[k]!.p >= 0) && (spec (pn t t[k]!) && (!spec t[k]! && (decide (t[k]!.pol ∈ ps) && decide (t[k]!.pol = q))))))) := by
 unfold haveK;rw [List.range_succ, List.any_append]; simp [-List.getElem!_eq_getElem?_getD]
theorem res_step (k : Nat) (ps : List B) {pm C1 Lk : Bool} (hL : Lk = (resC t D ps k && pm)) (hC : C1 = (pm && (decide (t[k]!.p >= 0) && (spec (pn t t[k]!) && !spec t[k]!)))) :
  Lk = (if (spec t[k]! && decide (t[k]!.d = D) && decide (D > 0)) = true then false else if C1 = true then decide (t[k]!.pol ∈ ps) else pm) /\
  ∀ b : Bool, (Lk && (decide (t[k]!.p >= 0) && (spec (pn t t[k]!) && (!spec t[k]! && (decide (t[k]!.pol ∈ ps) && b))))) = (C1 && (decide (t[k]!.pol ∈ ps) && b)) := by
 unfold resC at hL
 have h1 : decide (t[k]!.p < 0) = !decide (t[k]!.p >= 0) := by
  by_cases q : t[k]!.p < 0
  ·rw [zT q, zF (by omega)]; rfl
  ·rw [zF q, zT (by omega)]; rfl
 rw [h1] at hL;subst hL hC;generalize decide (t[k]!.p >= 0) = a;generalize spec (pn t t[k]!) = b;generalize spec t[k]! = c;generalize decide (t[k]!.pol ∈ ps) = d;generalize decide (t[k]!.d = D) = e;generalize decide (D > 0) = f;clear h1;refine ⟨?_, fun g => ?_⟩
 ·cases a <;> cases b <;> cases c <;> cases d <;> cases e <;> cases f <;> cases pm <;> rfl
 ·cases a <;> cases b <;> cases c <;> cases d <;> cases e <;> cases f <;> cases pm <;> cases g <;> rfl
end
end Go.Proofs.YtmagjdocondmhaaGreat.Tr
