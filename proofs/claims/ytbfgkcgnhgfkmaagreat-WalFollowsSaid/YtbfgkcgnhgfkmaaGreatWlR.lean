/-
  Arguments []string; short, join; logs that are cut off.
-/
/-
  What a crash leaves of a log, in plain Lean.
-/
import Derived.Test.YtbfgkcgnhgfkmaaGreatWlM
import Derived.Test.YtbfgkcgnhgfkmaaGreatDkNil
import Derived.OpenShut
import Derived.SliceStrings
import Derived.ProofKit
import Derived.Deep.Slices
namespace Go.Proofs.YtbfgkcgnhgfkmaaGreat.Wl
open Go Go.RowKit Go.ChangeShapes Go.WideShapes Go.Proofs.YtbfgkcgnhgfkmaaGreat.Slc Go.Proofs.YtbfgkcgnhgfkmaaGreat.Hs
open Go.Proofs.YtbfgkcgnhgfkmaaGreat.Dk (Fr ptr bstr bstr_size bstr_list bstr_back same_any)
set_option linter.unusedVariables false
set_option linter.unusedSimpArgs false

/-- a slice of strings that came in: it can be read, or it is empty -/
def Rq (w : World) (v : Value) (l : List B) : Prop := (l = [] ∧ ∃ a c, v = .slice a 0 c ∧ (a = none → c = 0)) ∨ Rd w Dk.encS v l
theorem Rq.form {w : World} {v : Value} {l : List B} (h : Rq w v l) : ∃ ad c, v = .slice ad l.length c := by
  rcases h with ⟨rfl, a, c, rfl, -⟩ | h
  · exact ⟨_, _, rfl⟩
  · obtain ⟨ad, c, h, -⟩ := h.form; exact ⟨_, _, h⟩
theorem Rq.below {w w' : World} {v : Value} {l : List B} (h : Rq w v l) (hb : Below w.heap.size w w') : Rq w' v l := h.imp id fun q => q.below hb
theorem Rq.rd {w : World} {v : Value} {l : List B} (h : Rq w v l) (hp : 0 < l.length) : Rd w Dk.encS v l := by
  rcases h with ⟨rfl, -⟩ | h
  · simp at hp
  · exact h
theorem cells_string : Tryz.prog.cellsOf 9 = 1 := by kernel_rfl
theorem cell_lt {w : World} {a : Addr} {v : Value} (h : w.cell? a = some v) : a.block < w.heap.size := by
  rcases Nat.lt_or_ge a.block w.heap.size with h' | h'
  · exact h'
  · simp [World.cell?, Array.getElem?_eq_none h'] at h
theorem flat_strs (l : List ByteArray) : (l.map fun s => s.data.toList).flatMap Dk.encS = l.map .string := by
  induction l with
  | nil => rfl
  | cons x l ih => rw [List.map_cons, List.flatMap_cons, ih, Dk.encS, bstr_back]; rfl
set_option maxRecDepth 10000 in
theorem strs_open {H : Type} {enc : TypeId × Value → H} {W : World} {b0 : Nat} {r : Reach} {v : Value} {d : DataW H} {p : List MemPlace}
    (hv : Value.okWide Tryz.prog W r b0 43 v) (h : DataW.Trod enc Tryz.prog W 0 (fun _ => true) true 43 v d p) :
    ∃ l : List B, Rq W v l ∧ l.length ≤ 9223372036854775807 ∧ ∀ x ∈ l, x.length ≤ 9223372036854775807 := by
  obtain ⟨a0, len, cap, rfl⟩ := Go.WideShapes.okWide_slice Tryz.underlying43 hv
  obtain ⟨fuel, hf⟩ := h
  rcases open_strings Tryz.underlying43 Tryz.underlying9 cells_string hf with ⟨hcs, hx⟩ | ⟨a, len', cap', ss, hcs, _, hl, hm, hz, hx, hcell, hsz⟩
  · simp [Value.cells] at hcs
    obtain ⟨rfl, rfl, rfl⟩ := hcs
    exact ⟨[], .inr (.inl ⟨rfl, rfl⟩), by simp, by simp⟩
  · simp [Value.cells] at hcs
    obtain ⟨rfl, rfl, rfl⟩ := hcs
    simp only [if_true] at hz
    obtain ⟨bk, o, spot⟩ := a
    rcases Nat.eq_zero_or_pos len with h0 | h0
    · subst h0; exact ⟨[], .inl ⟨rfl, _, _, rfl, fun q => by cases q⟩, by simp, by simp⟩
    · have hspot : spot = none := by simpa [Addr.add] using World.cell?_spot (hcell 0 (by omega))
      subst hspot
      have hb : bk < W.heap.size := cell_lt (hcell 0 (by omega))
      have hlen : (ss.take len).length = len := by simp; omega
      have hc : ∀ (j : Nat) y, (ss.take len)[j]? = some y → W.cell? ⟨bk, o + j, none⟩ = some (.string y) := by
        intro j y hj
        have hjl : j < len := by
          have := (List.getElem?_eq_some_iff.1 hj).1
          omega
        have hy : ss.getD j ByteArray.empty = y := by
          rw [List.getElem?_take_of_lt hjl] at hj
          simp [List.getD, hj]
        have := hcell j (by omega)
        rw [hy] at this
        rw [← this]
        congr 1
        unfold Addr.add; split
        · simp [*]
        · rfl
      refine ⟨(ss.take len).map fun s => s.data.toList, .inr (.inr ⟨bk, o, cap, by rw [List.length_map, hlen], hb, by rw [List.length_map, hlen]; exact hl, fun j u hj => ?_⟩), ?_, fun x hx => ?_⟩
      · rw [flat_strs, List.getElem?_map] at hj
        cases hy : (ss.take len)[j]? with
        | none => rw [hy] at hj; cases hj
        | some y =>
          rw [hy] at hj
          simp only [Option.map_some, Option.some.injEq] at hj
          subst hj
          exact hc j y hy
      · rw [List.length_map, hlen]
        have : maxLen = 9223372036854775807 := rfl
        omega
      · rw [List.mem_map] at hx
        obtain ⟨s, hs, rfl⟩ := hx
        have h1 := hsz s (List.mem_of_mem_take hs)
        have : maxLen = 9223372036854775807 := rfl
        have h2 : s.data.toList.length = s.size := by rw [Array.length_toList]; rfl
        omega

/-- the law's short -/
def shortS (l : List B) : Bool := (l.all fun x => decide (x.length ≤ 200)) && decide (l.length ≤ 20)
theorem shortS_len {l : List B} (h : shortS l = true) : l.length ≤ 20 ∧ ∀ x ∈ l, x.length ≤ 200 := by
  simp only [shortS, Bool.and_eq_true, decide_eq_true_eq, List.all_eq_true] at h; exact ⟨h.2, h.1⟩
theorem frameR_ok (k : Nat) (d : B) (h : d.length ≤ 65536) : frameR (k : Int) d = (frameB k d, 0) := by
  unfold frameR
  rw [if_neg (by omega), if_neg (by omega), Int.toNat_natCast]
/-- a log that is cut off after n bytes: its first k records are complete -/
theorem join_take (l : List B) (k n : Nat) (hk : k < l.length) (h1 : (joinB 0 (l.take k)).length ≤ n) (h2 : n < (joinB 0 (l.take (k + 1))).length) :
    (joinB 0 l).take n = joinB 0 (l.take k) ++ (frameB k l[k]).take (n - (joinB 0 (l.take k)).length) ∧ n - (joinB 0 (l.take k)).length < (frameB k l[k]).length := by
  have e : l = l.take k ++ (l[k] :: l.drop (k + 1)) := by rw [← List.drop_eq_getElem_cons hk, List.take_append_drop]
  have ht : (l.take k).length = k := by rw [List.length_take]; omega
  have e2 : joinB 0 l = joinB 0 (l.take k) ++ (frameB k l[k] ++ joinB (k + 1) (l.drop (k + 1))) := by
    conv => lhs; rw [e]
    rw [joinB_append, joinB_cons, ht, Nat.zero_add]
  have e3 : joinB 0 (l.take (k + 1)) = joinB 0 (l.take k) ++ frameB k l[k] := by
    rw [List.take_succ_eq_append_getElem hk, joinB_snoc, ht, Nat.zero_add]
  rw [e3, List.length_append] at h2
  refine ⟨?_, by omega⟩
  rw [e2, List.take_append, List.take_of_length_le h1, List.take_append, show n - (joinB 0 (l.take k)).length - (frameB k l[k]).length = 0 by omega, List.take_zero, List.append_nil]
theorem scan_take (l : List B) (k n : Nat) (hl : Sm l) (hll : l.length ≤ 4096) (hk : k ≤ l.length) (hn : n ≤ (joinB 0 l).length) (h1 : (joinB 0 (l.take k)).length ≤ n) (h2 : k < l.length → n < (joinB 0 (l.take (k + 1))).length) :
    scanB ((joinB 0 l).take n) = some (l.take k, (joinB 0 (l.take k)).length) := by
  rcases Nat.lt_or_ge k l.length with q | q
  · obtain ⟨e1, e2⟩ := join_take l k n q h1 (h2 q)
    rw [e1]
    exact scan_cut (l.take k) l[k] k _ (fun x hx => hl x (List.mem_of_mem_take hx)) (by rw [List.length_take]; omega) e2 (hl _ (List.getElem_mem q))
  · obtain rfl : k = l.length := by omega
    rw [List.take_length] at h1 ⊢
    rw [List.take_of_length_le (by omega)]
    exact scan_whole l hl hll
end Go.Proofs.YtbfgkcgnhgfkmaaGreat.Wl

namespace Go.Proofs.YtbfgkcgnhgfkmaaGreat.Wl
open Go Go.RowKit Go.Proofs.YtbfgkcgnhgfkmaaGreat.Slc Go.Proofs.YtbfgkcgnhgfkmaaGreat.Hs
open Go.Proofs.YtbfgkcgnhgfkmaaGreat.Dk (Fr ptr bstr bstr_size bstr_list NextP RepP St Fs Ch okName has ap aps total names)
set_option linter.unusedVariables false
set_option linter.unusedSimpArgs false

def lgn : B := [108, 111, 103, 46, 110, 101, 119]
theorem lgn_def : lg ++ sfx = lgn := rfl
theorem lgn_ok' : okName lgn = true := lgn_ok
theorem lgn_ne' : ¬ lgn = lg := lgn_ne
theorem lg_ne' : ¬ lg = lgn := fun h => lgn_ne h.symm
/-- a log's file, and its temporary file -/
def logN (c y : B) : Fs := logF c ++ [(lgn, y)]
theorem ap_new (c y : B) : ap (logF c) (.app lgn y) = logN c y := by
  have h : has (logF c) lgn = false := has_new c
  unfold ap
  simp only [h, Bool.false_eq_true, if_false]
  rfl
theorem ap_renN (c y : B) : ap (logN c y) (.ren lgn lg) = [(lg, y)] := by
  unfold logN logF
  by_cases h : c = []
  · rw [if_pos h]; simp [ap, has, Dk.get, Dk.drop, Dk.wh, lgn_ne', lg_ne']
  · rw [if_neg h]; simp [ap, has, Dk.get, Dk.drop, Dk.wh, lgn_ne', lg_ne']
theorem has_N (c y : B) : has (logN c y) lgn = true := by
  unfold logN logF
  by_cases h : c = []
  · rw [if_pos h]; simp [has, Dk.get]
  · rw [if_neg h]; simp [has, Dk.get, lg_ne']
theorem get_N (c y : B) : (Dk.get (logN c y) lg) = if c = [] then none else some c := by
  unfold logN logF
  by_cases h : c = []
  · rw [if_pos h, if_pos h]; simp [Dk.get, lgn_ne']
  · rw [if_neg h, if_neg h]; simp [Dk.get]
theorem total_N (c y : B) : total (logN c y) = c.length + y.length := by
  unfold logN
  rw [Dk.total_snoc, total_logF]
/-- the errors of a replacement that is not disturbed -/
theorem one_replace (cap : Int) (c p : B) (h : ((c.length + p.length : Nat) : Int) ≤ cap) : (replace (one cap c []) lg p).2 = 0 := by
  have hl := len_logF c
  have ht := total_logF c
  have hf : (one cap c []).files = logF c := by rw [one_files _ _ _ (fun d hd => by simp at hd)]; simp
  have hfit : (one cap c []).fits lgn p.length = true := by
    unfold Dk.St.fits
    rw [hf, ht, decide_eq_false (by omega : ¬ 16 ≤ (logF c).length), Bool.and_false, Bool.not_false, Bool.true_and, decide_eq_true_eq]
    show (p.length : Int) ≤ cap - _
    omega
  have ha : (one cap c []).append lgn p = (⟨cap, logF c, [.app lgn p], -1⟩, 0) := by
    unfold Dk.St.append
    rw [one_off, lgn_ok', hfit]
    rfl
  have hs : St.sync ⟨cap, logF c, [.app lgn p], -1⟩ = (⟨cap, logN c p, [], -1⟩, 0) := by
    rw [Dk.sync_of rfl]
    show (St.mk cap (ap (logF c) (.app lgn p)) [] (-1), (0 : Int)) = _
    rw [ap_new]
  have hr : St.rename ⟨cap, logN c p, [], -1⟩ lgn lg = (⟨cap, logN c p, [.ren lgn lg], -1⟩, 0) := by
    unfold Dk.St.rename
    rw [show St.off ⟨cap, logN c p, [], -1⟩ = false from rfl, lgn_ok', lg_ok, show St.files ⟨cap, logN c p, [], -1⟩ = logN c p from rfl, has_N]
    rfl
  unfold replace
  simp only [lgn_def, ha, hs, hr, ne_eq, not_true_eq_false, if_false]
  rw [Dk.sync_of rfl]
/-- opening a log whose last record may be torn -/
theorem open_cut (cap : Int) (l : List B) (x : B) (k b : Nat) (hl : Sm l) (hll : l.length ≤ 4096) (hb : b < (frameB k x).length) (hx : x.length ≤ 65536) (hc : ((2 * (joinB 0 l).length + b : Nat) : Int) ≤ cap) :
    ∃ s', openP (one cap (joinB 0 l ++ (frameB k x).take b) []) lg = (s', 0, some (l, (joinB 0 l).length)) := by
  have hr := one_read cap (joinB 0 l ++ (frameB k x).take b)
  have hs := one_sync cap (joinB 0 l ++ (frameB k x).take b) [] (fun d hd => by simp at hd)
  have hlen : (joinB 0 l ++ (frameB k x).take b).length = (joinB 0 l).length + b := by rw [List.length_append, List.length_take]; omega
  have hp := one_replace cap (joinB 0 l ++ (frameB k x).take b) (joinB 0 l) (by rw [hlen]; omega)
  unfold openP
  rw [hr, if_neg (by split <;> simp), if_neg (by decide)]
  unfold openS
  rw [scan_cut l x k b hl hll hb hx]
  show ∃ s', openR _ _ _ _ _ = _
  unfold openR
  rw [one_files _ _ _ (fun d hd => by simp at hd), has_new, if_neg (by simp)]
  unfold openT
  rw [List.take_left]
  by_cases hlt : (joinB 0 l).length < (joinB 0 l ++ (frameB k x).take b).length
  · rw [if_pos hlt]
    simp only
    rw [if_pos hp]
    exact ⟨_, rfl⟩
  · rw [if_neg hlt, hs]
    exact ⟨_, rfl⟩
theorem frame_take_ne (k : Nat) (x : B) (b : Nat) (h : 0 < b) : (frameB k x).take b ≠ [] := by
  intro q
  have h1 := congrArg List.length q
  have := frameB_len k x
  rw [List.length_take, List.length_nil] at h1
  omega
theorem frames_take (l : List B) (k j : Nat) : (frames k l).take j = frames k (l.take j) := by
  induction l generalizing k j with
  | nil => simp [frames]
  | cons x l ih =>
    cases j with
    | zero => simp [frames]
    | succ j => simp [frames, ih]
theorem frames_at (l : List B) (k j : Nat) (h : j < l.length) : (frames k l)[j]? = some (frameB (k + j) l[j]) := by
  induction l generalizing k j with
  | nil => simp at h
  | cons x l ih =>
    cases j with
    | zero => simp [frames]
    | succ j =>
      have h' : j < l.length := by simpa using h
      simp only [frames, List.getElem?_cons_succ, List.getElem_cons_succ]
      rw [ih (k + 1) j h']
      congr 2; omega
/-- what a crash leaves -/
theorem crash_cut (cap : Int) (l m : List B) (K Bt : Int) (hm : Sm m) :
    ∃ (j b : Nat) (x : B), j ≤ m.length ∧ x.length ≤ 65536 ∧ b < (frameB (l.length + j) x).length ∧ (b = 0 ∨ ∃ h : j < m.length, x = m[j]) ∧
      (one cap (joinB 0 l) (frames l.length m)).crash K Bt = one cap (joinB 0 (l ++ m.take j) ++ (frameB (l.length + j) x).take b) [] := by
  have hkl := Dk.keepN_le (one cap (joinB 0 l) (frames l.length m)) K
  generalize hk : Dk.keepN (one cap (joinB 0 l) (frames l.length m)) K = j at *
  have hops : (one cap (joinB 0 l) (frames l.length m)).ops = (frames l.length m).map fun d => Ch.app lg d := rfl
  have hol : (one cap (joinB 0 l) (frames l.length m)).ops.length = m.length := by rw [hops, List.length_map, frames_len]
  rw [hol] at hkl
  have hbase : aps (one cap (joinB 0 l) (frames l.length m)).dur ((one cap (joinB 0 l) (frames l.length m)).ops.take j) = logF (joinB 0 (l ++ m.take j)) := by
    rw [hops, ← List.map_take, frames_take]
    show aps (logF (joinB 0 l)) _ = _
    rw [aps_logF _ _ (frames_ne _ _), frames_flat, joinB_append, Nat.zero_add]
  have hz : ∀ k, 0 < (frameB k []).length := fun k => by rw [frameB_len]; simp
  unfold Dk.St.crash
  rw [hk]
  unfold Dk.St.torn
  rw [hbase]
  rcases Nat.lt_or_ge j m.length with hj | hj
  · have hat : (one cap (joinB 0 l) (frames l.length m)).ops[j]? = some (.app lg (frameB (l.length + j) m[j])) := by
      rw [hops, List.getElem?_map, frames_at m l.length j hj]; rfl
    rw [hat]
    simp only
    by_cases hb : 0 < Bt
    · rw [if_pos hb]
      obtain ⟨b, hbe⟩ : ∃ b : Nat, b = (min Bt ((frameB (l.length + j) m[j]).length : Int)).toNat := ⟨_, rfl⟩
      rw [← hbe]
      have hfl := frameB_len (l.length + j) m[j]
      have hb1 : 0 < b := by omega
      rw [ap_logF _ _ (frame_take_ne _ _ _ hb1)]
      rcases Nat.lt_or_ge b (frameB (l.length + j) m[j]).length with q | q
      · exact ⟨j, b, m[j], by omega, hm _ (List.getElem_mem hj), q, .inr ⟨hj, rfl⟩, rfl⟩
      · refine ⟨j + 1, 0, [], by omega, by simp, hz _, .inl rfl, ?_⟩
        rw [List.take_of_length_le (l := frameB (l.length + j) m[j]) q, List.take_zero, List.append_nil, List.take_succ_eq_append_getElem hj, ← List.append_assoc, joinB_snoc, List.length_append, List.length_take, Nat.min_eq_left (by omega), Nat.zero_add]
        rfl
    · rw [if_neg hb]
      exact ⟨j, 0, [], hkl, by simp, hz _, .inl rfl, by rw [List.take_zero, List.append_nil]; rfl⟩
  · have hat : (one cap (joinB 0 l) (frames l.length m)).ops[j]? = none := by
      rw [List.getElem?_eq_none_iff, hol]; exact hj
    rw [hat]
    exact ⟨j, 0, [], hkl, by simp, hz _, .inl rfl, by rw [List.take_zero, List.append_nil]; rfl⟩
open Go.Proofs.YtbfgkcgnhgfkmaaGreat.Dk (same_any i64ok small_any bstr_back)
theorem Rq.upto {w : World} {v : Value} {l : List B} (h : Rq w v l) (k : Nat) (hk : k ≤ l.length) :
    ∃ u, (∀ W, (Instr.slice 43 v none (some (.int .i64 k)) none).run Tryz.prog W = .ok u W) ∧ Rq w u (l.take k) := by
  rcases h with ⟨rfl, a, c, rfl, hc⟩ | h
  · obtain rfl : k = 0 := by simpa using hk
    refine ⟨.slice a 0 c, fun W => ?_, .inl ⟨rfl, a, c, rfl, hc⟩⟩
    rw [run_slice_h W _ _ _ _ Dk.und_strs' _ _ (by omega) (by omega)]
    cases a with
    | none => simp [Dk.size_strs, sliced, Result.andThen, hc rfl]
    | some a => simp [Dk.size_strs, sliced, Result.andThen, Addr.add]
  · obtain ⟨u, h1, h2⟩ := h.upto Dk.encS_ok Dk.und_strs' Dk.size_strs k hk
    exact ⟨u, h1, .inr h2⟩
set_option maxRecDepth 10000 in
/-- Same of slices of which one may be an argument -/
theorem same_rq (w : World) (va vb : Value) (x y : List B) (ha : Rq w va x) (hb : Rq w vb y) (hx : x.length ≤ 100000) (hy : y.length ≤ 100000) :
    Calls Tryz.prog 13 #[va, vb] w fun e w' => e = .returned (.bool (decide (x = y))) ∧ Below w.heap.size w w' := by
  by_cases h0 : 0 < x.length ∧ 0 < y.length
  · exact same_any w va vb x y (ha.rd h0.1) (hb.rd h0.2) hx hy
  · obtain ⟨aa, ca, rfl⟩ := ha.form
    obtain ⟨ab, cb, rfl⟩ := hb.form
    by_cases he : x.length = y.length
    · have hx0 : x = [] := List.eq_nil_of_length_eq_zero (by omega)
      have hy0 : y = [] := List.eq_nil_of_length_eq_zero (by omega)
      subst hx0 hy0
      simp only [List.length_nil, decide_true]
      clear ha hb hx hy h0 he
      go_enter Tryz.func13, Tryz.ntmps13
      go_wp2_with fail
      go_loop [5] (fun i => i = .int .i64 0) (fun i => 0)
      case atStart => rfl
      case round =>
        subst hrel
        go_wp2_with fail
        go_ret
        exact ⟨rfl, Below.refl _ _⟩
    · have hne : decide (x = y) = false := decide_eq_false fun q => he (by rw [q])
      have t1 : ((x.length : Int) != (y.length : Int)) = true := by rw [bne_iff_ne]; omega
      have t2 : ((x.length : Int) == (y.length : Int)) = false := by rw [beq_eq_false_iff_ne]; omega
      rw [hne]
      clear ha hb hne h0
      go_enter Tryz.func13, Tryz.ntmps13
      go_wp2_with fail
      go_ret
      exact ⟨rfl, Below.refl _ _⟩
theorem Rq.src {w : World} {v : Value} {l : List B} (h : Rq w v l) : SrcV w 1 v l.length (l.flatMap Dk.encS) := by
  rcases h with ⟨rfl, a, c, rfl, hc⟩ | h
  · cases a with
    | none => rw [hc rfl]; exact .nil
    | some ad => exact .ro _ _ _ _ rfl (fun j u hj => by simp at hj) (fun u hu => by simp at hu)
  · exact h.src Dk.encS_ok
/-- the state of a log behind the first k of some appends -/
def gat (m Z k : Nat) (l : List B) : Lg := ⟨lg, m + k, Z + (joinB m (l.take k)).length, false⟩
theorem joinB_succ (l : List B) (m k : Nat) (hk : k < l.length) : (joinB m (l.take (k + 1))).length = (joinB m (l.take k)).length + (l[k].length + 8) := by
  rw [List.take_succ_eq_append_getElem hk, joinB_snoc, List.length_append, frameB_len]
theorem gat_append (cap : Int) (c : B) (l : List B) (m Z k : Nat) (hk : k < l.length) (hx : l[k].length ≤ 65536) (hm : m + k < 4096) (hc : ((c.length + (joinB m (l.take (k + 1))).length : Nat) : Int) ≤ cap) :
    (gat m Z k l).append (one cap c (frames m (l.take k))) l[k] = (one cap c (frames m (l.take (k + 1))), gat m Z (k + 1) l, 0) := by
  have hl : (l.take k).length = k := by rw [List.length_take]; omega
  have hs := joinB_succ l m k hk
  have h1 := one_lappend cap c (l.take k) m (Z + (joinB m (l.take k)).length) l[k] hx (by rw [hl]; exact hm) (by rw [List.length_append]; omega)
  rw [hl, ← List.take_succ_eq_append_getElem hk] at h1
  unfold gat
  rw [h1, hs]
  simp only [Nat.add_assoc]
end Go.Proofs.YtbfgkcgnhgfkmaaGreat.Wl
