/-
  The table of mappings: a map from strings to slices of strings.
-/
/-
  ptree.table.
-/
/-
  slices.Sorted(maps.Keys(table)).
-/
import Derived.Test.YtmagjdocondmhaaTrPolW
import Derived.Test.YtmagjdocondmhaaRangeM
import Derived.Test.YtmagjdocondmhaaTrEnter
import Derived.Sort.KeysCollected
namespace Go.Proofs.Ytmagjdocondmhaa.Tr
open Go Go.RowKit Go.Proofs.Ytmagjdocondmhaa.Slc Go.Proofs.Ytmagjdocondmhaa.St Go.Proofs.Ytmagjdocondmhaa.Mp
set_option linter.unusedVariables false
set_option linter.unusedSimpArgs false

theorem u_mapSS : Try.prog.underlying 74 = some (.map 9 35) := Try.underlying74
/-- a mapping -/
def encP (m : B × B) : List Value := [.string (bstr m.1), .string (bstr m.2)]
theorem encP_ok : Enc 2 encP := ⟨fun _ => rfl, fun x u hu => by simp [encP] at hu; rcases hu with rfl | rfl <;> rfl, by omega⟩
theorem maps_cells {w : World} {ad : Option Addr} {n c : Nat} {l : List (B × B)} (h : Rd w encP (.slice ad n c) l) : n = l.length ∧ ∀ (W : World), Below w.heap.size w W → ∀ k (hk : k < l.length), ∃ b o, ad = some ⟨b, o, none⟩ ∧ b < w.heap.size ∧ W.cell? ⟨b, o + k * 2, none⟩ = some (.string (bstr (l[k]).1)) ∧ W.cell? ⟨b, o + k * 2 + 1, none⟩ = some (.string (bstr (l[k]).2)) := by
  obtain ⟨ad', c', hv, -⟩ := h.form
  simp only [Value.slice.injEq] at hv
  refine ⟨hv.2.1, fun W hW k hk => ?_⟩
  obtain ⟨b, o, c, hv', _, hlt, hc⟩ := h.cells encP_ok (by omega)
  simp only [Value.slice.injEq] at hv'
  have q := hc W (fun k' hk' => hW.block k' (h.lt k' hk')) k hk
  exact ⟨b, o, hv'.1, hlt, q 0 _ (by omega) rfl, q 1 _ (by omega) rfl⟩
/-- the subjects of an issuer along the first k mappings -/
def gK (l : List (B × B)) (k : Nat) (p : B) : List B := ((l.take k).filter fun m => decide (m.1 = p) && okM m).map (·.2)
theorem gK_zero (l : List (B × B)) (p : B) : gK l 0 p = [] := by simp [gK]
theorem gK_succ (l : List (B × B)) (k : Nat) (hk : k < l.length) (p : B) : gK l (k + 1) p = gK l k p ++ if decide (l[k].1 = p) && okM l[k] then [l[k].2] else [] := by
  unfold gK
  rw [List.take_succ_eq_append_getElem hk, List.filter_append, List.map_append]
  cases h : decide (l[k].1 = p) && okM l[k] <;> simp [List.filter_cons, h]
theorem gK_len (l : List (B × B)) (k : Nat) (p : B) : (gK l k p).length ≤ k := by
  unfold gK; rw [List.length_map]
  exact Nat.le_trans (List.length_filter_le _ _) (by simp; omega)
theorem gK_all (l : List (B × B)) (p : B) : setB (gK l l.length p) = subL l p := by unfold gK subL; rw [List.take_length]
theorem gK_src (l : List (B × B)) (p : B) : gK l l.length p ≠ [] ↔ p ∈ srcL l := by
  unfold gK srcL
  rw [List.take_length, setB_mem, List.mem_map]
  constructor
  · intro h
    obtain ⟨x, hx⟩ := List.exists_mem_of_ne_nil _ h
    obtain ⟨m, hm, -⟩ := List.mem_map.1 hx
    rw [List.mem_filter, Bool.and_eq_true, decide_eq_true_eq] at hm
    exact ⟨m, List.mem_filter.2 ⟨hm.1, hm.2.2⟩, hm.2.1⟩
  · rintro ⟨m, hm, rfl⟩ h
    rw [List.mem_filter] at hm
    have : m.2 ∈ (l.filter fun m' => decide (m'.1 = m.1) && okM m').map (·.2) := List.mem_map.2 ⟨m, List.mem_filter.2 ⟨hm.1, by simp [hm.2]⟩, rfl⟩
    rw [h] at this; cases this
def nilS : Sg := ⟨none, 0, 0⟩
/-- the map at bm has own slices, apart from each other -/
structure TB (w : World) (bm : Nat) (f : B → Option Sg) (g : B → List B) : Prop where
  has_ : ∀ p, (f p).isSome = true ↔ g p ≠ []
  own : ∀ p s, f p = some s → Slc.Own w (bm + 1) 9 1 encS s.val (g p)
  dis : ∀ p p' s s', f p = some s → f p' = some s' → p ≠ p' → ∀ b, s.val.ownBlock = some b → s'.val.ownBlock ≠ some b
theorem TB.get {w : World} {bm : Nat} {f : B → Option Sg} {g : B → List B} (h : TB w bm f g) (p : B) : Slc.Own w (bm + 1) 9 1 encS ((f p).getD nilS).val (g p) := by
  cases hf : f p with
  | some s => exact h.own p s hf
  | none =>
    have : g p = [] := by
      cases hg : g p with
      | nil => rfl
      | cons x l => have := (h.has_ p).2 (by rw [hg]; simp); rw [hf] at this; cases this
    rw [this]; exact Slc.Own.nil _ _
theorem TB.below {w w' : World} {bm : Nat} {f : B → Option Sg} {g : B → List B} (h : TB w bm f g) (hb : Below w.heap.size w w') : TB w' bm f g :=
  ⟨h.has_, fun p s hp => (h.own p s hp).below hb, h.dis⟩
theorem TB.step {w w1 w2 : World} {bm : Nat} {f : B → Option Sg} {g : B → List B} {p x : B} {s' : Sg} (h : TB w bm f g) (hg : w.grownBy w1 ((f p).getD nilS).val.ownBlock) (ho : Slc.Own w1 (bm + 1) 9 1 encS s'.val (g p ++ [x]))
    (hb : s'.val.ownBlock = ((f p).getD nilS).val.ownBlock ∨ ∃ y, s'.val.ownBlock = some y ∧ w.heap.size ≤ y) (hg2 : w1.grownBy w2 (some bm)) : TB w2 bm (fun j => if j = p then some s' else f j) (fun j => if j = p then g p ++ [x] else g j) := by
  have k2 : ∀ {v : Value} {l : List B}, Slc.Own w1 (bm + 1) 9 1 encS v l → Slc.Own w2 (bm + 1) 9 1 encS v l := fun {v l} hv => hv.keep fun k hk hlt => hg2.block k hlt fun e => by
    have := (hv.lt k hk).1
    simp only [Option.some.injEq] at e; omega
  have hne : ∀ j s, f j = some s → j ≠ p → ∀ b, s.val.ownBlock = some b → ((f p).getD nilS).val.ownBlock ≠ some b := by
    intro j s hj hjp b hbs
    cases hf : f p with
    | none => simp [nilS, Sg.val, Value.ownBlock]
    | some s0 =>
      exact h.dis j p s s0 hj hf hjp b hbs
  refine ⟨fun j => ?_, fun j s hj => ?_, fun j j' s t hj hj' hne' b hbs => ?_⟩
  · by_cases e : j = p
    · subst e; simp
    · rw [if_neg e, if_neg e]; exact h.has_ j
  · by_cases e : j = p
    · subst e
      rw [if_pos rfl] at hj ⊢
      cases hj
      exact k2 ho
    · rw [if_neg e] at hj ⊢
      refine k2 ((h.own j s hj).keep fun k hk hlt => hg.block k hlt fun e2 => ?_)
      exact hne j s hj e k hk e2.symm
  · by_cases e : j = p
    · subst e
      rw [if_pos rfl] at hj
      cases hj
      rw [if_neg fun q => hne' q.symm] at hj'
      rcases hb with q | ⟨y, q, hy⟩
      · intro e2
        rw [q] at hbs
        exact hne j' t hj' (fun q => hne' q.symm) b e2 hbs
      · intro e2
        rw [q] at hbs
        simp only [Option.some.injEq] at hbs
        have := ((h.own j' t hj').lt b e2).2
        omega
    · rw [if_neg e] at hj
      by_cases e' : j' = p
      · subst e'
        rw [if_pos rfl] at hj'
        cases hj'
        rcases hb with q | ⟨y, q, hy⟩
        · rw [q]; exact hne j s hj e b hbs
        · rw [q]
          intro e2
          simp only [Option.some.injEq] at e2
          have := ((h.own j s hj).lt b hbs).2
          omega
      · rw [if_neg e'] at hj'
        exact h.dis j j' s t hj hj' hne' b hbs
theorem keyOf_strB {P : Program} {k : TypeId} (hk : P.underlying k = some .string) {key : Value} {kl : Lit} (h : keyOf P k key = some kl) : ∃ x : B, key = .string (bstr x) ∧ kl = .string x := by
  simp only [keyOf, hk] at h
  unfold mapKey at h
  rw [hk] at h
  cases key with
  | string s =>
    simp at h
    exact ⟨s.data.toList, by rw [bstr_back], h.2.symm⟩
  | _ => simp at h
theorem rdS_form {v : Value} {y : DW × List MemPlace} (h : rdS v = some y) : ∃ c : Sg, v = c.val ∧ y = (edS c, []) := by
  unfold rdS at h
  split at h
  · simp only [Option.some.injEq] at h; exact ⟨_, rfl, h.symm⟩
  · simp only [Option.some.injEq] at h; exact ⟨_, rfl, h.symm⟩
  · cases h
theorem sameS (z x : B) : (Lit.string z).sameKey (.string x) = decide (z = x) := by
  by_cases e : z = x
  · subst e; rw [decide_eq_true rfl]; exact WideAt.sameKey_self trivial
  · rw [decide_eq_false e]
    cases q : (Lit.string z).sameKey (.string x)
    · rfl
    · have := WideAt.sameKey_eq q; injection this with this; exact absurd this e
set_option maxRecDepth 10000 in
/-- the step of the range over the table -/
theorem next_tab {w : World} {ops : Array Oper} {rest : List Oper} {o : Oper} {a : Act} {Q : Exit → Act → World → Prop} {f : B → Option Sg} {D : DW} (hf : IsF kS edS D f) (hg : o.guard = none) (it : Operand) (hop : o.op = Op.next it false) {b r n : Nat} {left : Lit → Bool} {cnt : Nat}
    (hit : a.eval it = .pointer (some ⟨r, 0, none⟩)) (h : w.ranges Try.prog 9 rdS b r n D left cnt)
    (hDone : (∀ m : B, left (.string m) = false) → wpList Try.prog ops Q rest (a.put o.dst (.tuple #[.bool false])) w)
    (hMore : ∀ (x : B) (c : Sg) (w' : World) (cnt' : Nat), keyOf Try.prog 9 (.string (bstr x)) = some (.string x) → left (.string x) = true → f x = some c → w'.ranges Try.prog 9 rdS b r n D (fun z => left z && !z.sameKey (.string x)) cnt' → cnt' < cnt →
      w.grownBy w' (some r) → w'.heap.size = w.heap.size → (Instr.entry (.pointer (some ⟨r, 0, none⟩))).run Try.prog w' = .ok (.tuple #[.string (bstr x), c.val]) w' → wpList Try.prog ops Q rest (a.put o.dst (.tuple #[.bool true, .string (bstr x), c.val])) w') :
    wpList Try.prog ops Q (o :: rest) a w :=
  wpList_next_ranges w hg it hop 9 (Go.Maps.string_keyed u_str) rdS (fun x : B => Value.string (bstr x)) Sg.val (fun key kl hkey => by obtain ⟨s, rfl, _⟩ := keyOf_strB u_str hkey; exact ⟨s, rfl⟩) (fun v y hv => by obtain ⟨c, rfl, _⟩ := rdS_form hv; exact ⟨c, rfl⟩)
    b r n D left cnt hit h (fun _ hl => hDone fun m => hl _) (fun x c kl y w' cnt' hkey hlk hv hat hrg hlt hgr hsz hen => by
      obtain ⟨x', ex, rfl⟩ := keyOf_strB u_str hkey
      have ex2 : x = x' := by injection ex with ex; exact bstr_inj ex
      subst ex2
      rw [rdS_mk] at hv
      have hy := Option.some.inj hv
      subst hy
      refine hMore x c w' cnt' hkey hlk ?_ hrg hlt hgr hsz hen
      have h1 : D.atKey (.string x) .nil = edS c := hat .nil
      have h0 := hf.at_ x .nil
      have h2 := h0.symm.trans h1
      cases hfx : f x with
      | none => rw [hfx] at h2; unfold edS at h2; simp only at h2; split at h2 <;> cases h2
      | some d => rw [hfx] at h2; rw [edS_inj h2])
end Go.Proofs.Ytmagjdocondmhaa.Tr

namespace Go.Proofs.Ytmagjdocondmhaa.Tr
open Go Go.RowKit Go.Proofs.Ytmagjdocondmhaa.Slc Go.Proofs.Ytmagjdocondmhaa.St Go.Proofs.Ytmagjdocondmhaa.Mp
set_option linter.unusedVariables false
set_option linter.unusedSimpArgs false
attribute [local go_sem] Oper.semAt_some

theorem own_sg {w : World} {Bk : Nat} {v : Value} {l : List B} (h : Slc.Own w Bk 9 1 encS v l) : ∃ s : Sg, v = s.val := by
  rcases h.2 with ⟨rfl, _⟩ | ⟨g, cap, cur, rfl, _⟩
  · exact ⟨nilS, rfl⟩
  · exact ⟨⟨some (g, 0), _, cap⟩, rfl⟩
theorem grown_none {w w' : World} (hb : Below w.heap.size w w') : w.grownBy w' none := ⟨hb.os, hb.tape, hb.output, hb.size, fun k hk _ => hb.block k hk⟩
theorem grown_same {W w1 w2 : World} {r : Option Nat} (h : W.grownBy w1 r) (k : w1.grownBy w2 r) : W.grownBy w2 r := h.andThen k fun j e => .inr e
/-- the facts of the region that appends -/
def TaF (W : World) (bm bn : Nat) (m : B × B) (v : Value) (L : List B) : Nat → Value → World → Prop
  | 0, x, _ => x = .map (some bm)
  | 1, x, _ => x = .pointer (some ⟨bn, 0, none⟩)
  | 2, x, _ => x = .string (bstr m.1)
  | 3, x, _ => x = .map (some bm)
  | 4, x, _ => x = .pointer (some ⟨bn, 0, none⟩)
  | 5, x, _ => x = .string (bstr m.1)
  | 6, x, _ => x = v
  | 7, x, _ => x = .pointer (some ⟨bn, 1, none⟩)
  | 8, x, _ => x = .string (bstr m.2)
  | 9, x, w => ∃ g, x = .slice (some ⟨g, 0, none⟩) 1 1 ∧ W.heap.size ≤ g ∧ w.heap[g]? = some (.cells #[.string (bstr m.2)] 9 (0, 0))
  | 10, x, w => Slc.Own w (bm + 1) 9 1 encS x (L ++ [m.2]) ∧ (x.ownBlock = v.ownBlock ∨ ∃ y, x.ownBlock = some y ∧ W.heap.size ≤ y)
  | _, _, _ => True
theorem TaF.stable (W : World) (bm bn : Nat) (m : B × B) (v : Value) (L : List B) (i : Nat) (x : Value) (w w' : World) (h : TaF W bm bn m v L i x w) (hb : Below w.heap.size w w') : TaF W bm bn m v L i x w' := by
  match i with
  | 0 | 1 | 2 | 3 | 4 | 5 | 6 | 7 | 8 => exact h
  | 9 => obtain ⟨g, h1, h2, h3⟩ := h; exact ⟨g, h1, h2, (hb.block g (lt_of_some h3)).trans h3⟩
  | 10 => exact ⟨Slc.Own.below (t := 9) h.1 hb, h.2⟩
  | _ + 11 => exact trivial
theorem TaF.big (W : World) (bm bn : Nat) (m : B × B) (v : Value) (L : List B) (hv : ∀ k, v.ownBlock = some k → k < W.heap.size) (i : Nat) (hi : i ≠ 10) (x : Value) (w w' : World) (h : TaF W bm bn m v L i x w) (hg : w.grownBy w' v.ownBlock) : TaF W bm bn m v L i x w' := by
  match i, hi with
  | 0, _ | 1, _ | 2, _ | 3, _ | 4, _ | 5, _ | 6, _ | 7, _ | 8, _ => exact h
  | 9, _ =>
    obtain ⟨g, h1, h2, h3⟩ := h
    exact ⟨g, h1, h2, (hg.block g (lt_of_some h3) fun e => by have := hv g e.symm; omega).trans h3⟩
  | 10, hi => exact absurd rfl hi
  | _ + 11, _ => exact trivial
def TaC (W : World) (bm : Nat) (v : Value) (L : List B) (d : Nat → Bool) (w : World) : Prop := W.grownBy w v.ownBlock ∧ (d 10 = false → Slc.Own w (bm + 1) 9 1 encS v L)
theorem TaC.bel {W w1 w2 : World} {bm : Nat} {v : Value} {L : List B} {d : Nat → Bool} {i : Nat} (hh : TaC W bm v L d w1) (hi : (i == 10) = false) (hb : Below w1.heap.size w1 w2) : TaC W bm v L (mark d i) w2 := by
  refine ⟨grown_bel hh.1 hb, fun e => (hh.2 ?_).below hb⟩
  have h1 : i ≠ 10 := by simpa using hi
  unfold mark at e
  rwa [if_neg fun q => h1 q.symm] at e
theorem TaC.big {W w1 w2 : World} {bm : Nat} {v : Value} {L : List B} {d : Nat → Bool} {i : Nat} (hh : TaC W bm v L d w1) (hi : (i == 10) = true) (hg : w1.grownBy w2 v.ownBlock) : TaC W bm v L (mark d i) w2 := by
  refine ⟨grown_same hh.1 hg, fun e => ?_⟩
  have h1 : i = 10 := by simpa using hi
  subst h1
  simp [mark] at e
theorem src_row {w : World} {g : Nat} {x : B} (h : w.heap[g]? = some (.cells #[.string (bstr x)] 9 (0, 0))) : SrcV w 1 (.slice (some ⟨g, 0, none⟩) 1 1) 1 ([x].flatMap encS) := by
  refine .ro _ _ _ _ (by simp [encS]) (fun j u hj => ?_) (fun u hu => ?_)
  · rw [add_at]
    have e : ([x].flatMap encS) = [.string (bstr x)] := by simp [encS]
    rw [e] at hj
    unfold World.cell?
    rw [h]
    simp only [Nat.zero_add]
    simpa using hj
  · rw [List.mem_flatMap] at hu
    obtain ⟨y, -, hy⟩ := hu
    exact encS_ok.one y u hy
/-- what the table holds -/
structure TabP (w : World) (l : List (B × B)) (bm : Nat) (f : B → Option Sg) : Prop where
  has_ : ∀ p, (f p).isSome = decide (p ∈ srcL l)
  rd : ∀ p s, f p = some s → RdIn w (fun b => b ≠ bm) encS s.val (subL l p)
  mp : ∃ q, q ≤ 100000 ∧ OwnF w kS rdS edS bm q f
set_option maxRecDepth 100000 in
set_option maxHeartbeats 4000000 in
theorem table_any (w : World) (v : Value) (l : List (B × B)) (h : Rd w encP v l) (hn : l.length ≤ 100000) (hx : ∀ m ∈ l, m.1.length ≤ 1000000 ∧ m.2.length ≤ 1000000) :
    Calls Try.prog 48 #[v] w fun e w' => ∃ bm f, e = .returned (.map (some bm)) ∧ w.heap.size ≤ bm ∧ TabP w' l bm f ∧ Below w.heap.size w w' := by
  obtain ⟨i0, hi0, hz0, hz1, hz2⟩ := info_parts info_str
  obtain ⟨ad, c, rfl, -⟩ := h.form
  have HC := Bx.mk (maps_cells h).2
  have HXX := Bx.mk hx
  obtain ⟨N, hN⟩ : ∃ N, N = l.length := ⟨_, rfl⟩
  have HN := Bx.mk hN
  rw [← hN] at hn ⊢
  clear h hx hN
  have hmm := @run_makeMap Try.prog
  obtain ⟨W0, hW0⟩ : ∃ W0, W0 = w.alloc (.map #[] 0) := ⟨_, rfl⟩
  obtain ⟨bm, hbm⟩ : ∃ bm, bm = w.heap.size := ⟨_, rfl⟩
  have HBM := Bx.mk hbm
  have HM0 := Bx.mk (show ∃ q, q ≤ 0 ∧ OwnF W0 kS rdS edS bm q (fun _ => none) from ⟨0, Nat.le_refl _, by rw [hW0, hbm]; exact OwnF.made w kS rdS edS⟩)
  have HT0 := Bx.mk (show TB W0 bm (fun _ => none) (gK l 0) from ⟨fun p => (by simp [gK_zero]), (by intro p s hp; cases hp), (by intro p p' s s' hp; cases hp)⟩)
  have HB0 := Bx.mk (show Below bm w W0 by rw [hW0, hbm]; exact (Below.refl _ _).alloc (Nat.le_refl _) _)
  go_enter Try.func48, Try.ntmps48
  go_wp2_with fail
  rw [← hW0, ← hbm]
  clear hW0 hbm hmm
  go_loopw [11] (fun i wr => ∃ (k : Nat) (f : B → Option Sg), k ≤ N ∧ i = .int .i64 k ∧ Bx (TB wr bm f (gK l k)) ∧ Bx (∃ q, q ≤ k ∧ OwnF wr kS rdS edS bm q f) ∧ Bx (Below bm w wr)) (fun i _ => N - (intOf i).toNat)
  case atStart => exact ⟨0, _, by omega, rfl, HT0, HM0, HB0⟩
  case round =>
    clear HT0 HM0 HB0
    obtain ⟨k, f, hk, rfl, hT, hM, hBw⟩ := hrel
    have hb0 : Below w.heap.size w wr := HBM.out ▸ hBw.out
    by_cases hlt : k < N
    · have hkl : k < l.length := by rw [← HN.out]; exact hlt
      obtain ⟨b, o, rfl, hbl, c0, c1⟩ := HC.out wr hb0 k hkl
      have HGS := Bx.mk (gK_succ l k hkl)
      have HXK := Bx.mk (HXX.out l[k] (List.getElem_mem hkl))
      obtain ⟨m, hm⟩ : ∃ m, m = l[k] := ⟨_, rfl⟩
      rw [← hm] at c0 c1 HGS HXK
      clear hm hkl hbl
      obtain ⟨W1, hW1⟩ : ∃ W1, W1 = wr.alloc (.cells #[.string (bstr m.1), .string (bstr m.2)] 50) := ⟨_, rfl⟩
      obtain ⟨bn, hbn⟩ : ∃ bn, bn = wr.heap.size := ⟨_, rfl⟩
      have HBN := Bx.mk hbn
      have hq1 : W1.heap[bn]? = some (.cells #[.string (bstr m.1), .string (bstr m.2)] 50 (0, 0)) := by rw [hW1, hbn]; exact heap_alloc_new _ _
      have HBA := Bx.mk (show Below wr.heap.size wr W1 by rw [hW1]; exact (Below.refl _ _).alloc (Nat.le_refl _) _)
      have hbsz := hBw.out.size
      have HBWA := Bx.mk (show Below bm w W1 from hBw.out.trans (HBA.out.mono (by have := HBM.out; omega)))
      have HTA := Bx.mk (hT.out.below HBA.out)
      have HMA := Bx.mk (show ∃ q, q ≤ k ∧ OwnF W1 kS rdS edS bm q f by obtain ⟨q, h1, h2⟩ := hM.out; exact ⟨q, h1, h2.below HBA.out⟩)
      have HQ1 := Bx.mk hq1
      go_upto_region 5 with fail
      rw [← hW1, ← hbn]
      clear hW1 hbn c0 c1
      have m0 := cell_of_row _ _ 0 _ _ _ hq1
      have m1 := cell_of_row _ _ 1 _ _ _ hq1
      simp only [List.getElem?_toArray, List.getElem?_cons_zero, List.getElem?_cons_succ] at m0 m1
      clear hq1 hbsz
      have hs1 := same_any m.1
      have hs2 := same_any m.2
      obtain ⟨t1, ht1⟩ : ∃ t, t = decide (m.1 = anyP) := ⟨_, rfl⟩
      obtain ⟨t2, ht2⟩ : ∃ t, t = decide (m.2 = anyP) := ⟨_, rfl⟩
      have HOK := Bx.mk (show okM m = (!t1 && !t2) by unfold okM; rw [ht1, ht2, ← decide_not, ← decide_not])
      rw [← ht1] at hs1
      rw [← ht2] at hs2
      clear ht1 ht2
      have hskip : okM m = false → TB W1 bm f (gK l (k + 1)) := fun e => by
        have : gK l (k + 1) = gK l k := by funext p; rw [HGS.out, e]; simp
        rw [this]; exact HTA.out
      have HSK := Bx.mk hskip
      clear hskip
      cases t1 with
      | true =>
        have HT2 := Bx.mk (HSK.out (by rw [HOK.out]; rfl))
        go_wp2_with fail
        go_roundw
        case rel => exact ⟨k + 1, f, by omega, by go_num, HT2, ⟨by obtain ⟨q, h1, h2⟩ := HMA.out; exact ⟨q, by omega, h2⟩⟩, HBWA⟩
        case measure => simp [intOf]; omega
      | false =>
      cases t2 with
      | true =>
        have HT2 := Bx.mk (HSK.out (by rw [HOK.out]; rfl))
        go_wp2_with fail
        go_roundw
        case rel => exact ⟨k + 1, f, by omega, by go_num, HT2, ⟨by obtain ⟨q, h1, h2⟩ := HMA.out; exact ⟨q, by omega, h2⟩⟩, HBWA⟩
        case measure => simp [intOf]; omega
      | false =>
        obtain ⟨q, hq, hop⟩ := HMA.out
        have HQK := Bx.mk hq
        have HOP := Bx.mk hop
        have HOWN := Bx.mk (HTA.out.get m.1)
        obtain ⟨sv, hsv⟩ : ∃ s, s = (f m.1).getD nilS := ⟨_, rfl⟩
        have HSV := Bx.mk hsv
        rw [← hsv] at HOWN
        have hvl : ∀ j, sv.val.ownBlock = some j → j < W1.heap.size := fun j hj => (HOWN.out.lt j hj).2
        have hvb : ∀ j, sv.val.ownBlock = some j → j ≠ bm ∧ j ≠ bn := fun j hj => ⟨by have := (HOWN.out.lt j hj).1; omega, fun e => by
          have h1 := HTA.out.get m.1
          rw [← hsv] at h1
          cases hf : f m.1 with
          | none =>
            rw [hf] at hsv
            simp only [Option.getD_none] at hsv
            rw [hsv] at hj; simp [nilS, Sg.val, Value.ownBlock] at hj
          | some s0 =>
            rw [hf] at hsv
            simp only [Option.getD_some] at hsv
            have := ((hT.out.own m.1 s0 hf).lt j (by rw [← hsv]; exact hj)).2
            have := HBN.out; omega⟩
        have HVB := Bx.mk hvb
        obtain ⟨va, vc, hvf, -⟩ := HOWN.out.rd.form
        have HGL := gK_len l k m.1
        have HLOOK := Bx.mk (show ∀ W : World, W1.grownBy W sv.val.ownBlock → (Instr.lookup 74 (.map (some bm)) (.string (bstr m.1)) false).run Try.prog W = .ok (.slice va (gK l k m.1).length vc) W from fun W hW => by
          have := ((HOP.out.kept hW (fun e => (HVB.out bm e.symm).1 rfl)).lookS u_mapSS Sg.val nilS (Try.zeroValue35 _) rdS_mk rdS_inv (k := m.1) (by have := HXK.out.1; unfold maxLen; omega)).1
          rw [← hsv, hvf] at this
          exact this)
        rw [hvf] at HOWN hvl HVB HLOOK
        have HVF := Bx.mk hvf
        clear hq hop hsv hvb hvf
        go_wp2_with fail
        clear hs1 hs2 m0 m1
        refine wp_region_factsC 11 (fun _ => none) (· == 10) (TaF W1 bm bn m (.slice va (gK l k m.1).length vc) (gK l k m.1)) (TaC W1 bm (.slice va (gK l k m.1).length vc) (gK l k m.1)) (fun a b => a.grownBy b (Value.slice va (gK l k m.1).length vc).ownBlock) ?_ (by kernel_rfl) (by kernel_rfl) (by rfl) ?_ ?_ ?_ ?_ ?_ ?_
        · exact ⟨⟨rfl, rfl, rfl, Nat.le_refl _, fun _ _ _ => rfl⟩, fun _ => HOWN.out⟩
        · exact TaF.stable _ _ _ _ _ _
        · exact fun d i w1 w2 hh hi _ hb => hh.bel hi hb
        · exact fun d i w1 w2 hh hi _ hg => hh.big hi hg
        · exact fun b j x w1 w2 hb _ hne _ hh hg => TaF.big _ _ _ _ _ _ hvl j (fun e => hne (e.trans (show b = 10 by simpa using hb).symm)) _ _ _ hh hg
        · intro i o hi ho d x w7 hcl hdi hCC hd
          have hc : i = 0 ∨ i = 1 ∨ i = 2 ∨ i = 3 ∨ i = 4 ∨ i = 5 ∨ i = 6 ∨ i = 7 ∨ i = 8 ∨ i = 9 ∨ i = 10 := by omega
          obtain ⟨hg7, how7⟩ := hCC
          have HG7 := Bx.mk hg7
          have HOW7 := Bx.mk how7
          have b5 := (hg7.block bn (lt_of_some HQ1.out) (fun e => (HVB.out bn e.symm).2 rfl)).trans HQ1.out
          have m0 := cell_of_row _ _ 0 _ _ _ b5
          have m1 := cell_of_row _ _ 1 _ _ _ b5
          simp only [List.getElem?_toArray, List.getElem?_cons_zero, List.getElem?_cons_succ] at m0 m1
          have hlook := HLOOK.out w7 (HVF.out ▸ hg7)
          have HDI := Bx.mk hdi
          clear hcl hg7 how7 b5
          simp only [List.take_succ_cons, List.take_zero, putFrom, Act.put, List.setIfInBounds_toArray, List.set_cons_succ, List.set_cons_zero, Nat.zero_add, Nat.reduceAdd]
          rcases hc with rfl | rfl | rfl | rfl | rfl | rfl | rfl | rfl | rfl | rfl | rfl
          all_goals
            simp only [List.getElem?_cons_succ, List.getElem?_cons_zero, Option.some.injEq] at ho
            subst ho
            simp [NeedsB, Region.binds, TaF] at hd
          all_goals clear hi hdi
          case inr.inr.inr.inr.inr.inr.inr.inr.inr.inl =>
            clear hlook m0 m1
            go_wp2_with fail
            exact ⟨rfl, rfl, ⟨_, rfl, HG7.out.size, heap_alloc_new _ _⟩, (Below.refl _ _).alloc (Nat.le_refl _) _⟩
          case inr.inr.inr.inr.inr.inr.inr.inr.inr.inr =>
            obtain ⟨h6, g9, h9, hg9, hr9⟩ := hd
            have how := HOW7.out HDI.out
            have hsr : SrcV w7 1 (x 9) 1 ([m.2].flatMap encS) := by rw [h9]; exact src_row hr9
            rw [← h6] at how
            have H6 := Bx.mk h6
            have HH := Bx.mk how
            clear h6 h9 hr9 hlook m0 m1
            go_wp2_with (at_builtin; refine wpList_append_any rfl _ _ _ rfl (bm + 1) 9 i0 _ 1 16 und_strs hi0 hz0 hz1 hz2 rfl (by decide) _ (gK l k m.1).length ((gK l k m.1).flatMap encS) rfl HH.out _ 1 ([m.2].flatMap encS) rfl hsr ?ap1 ?ap2 ?ap3 ?_)
            case ap1 => unfold maxLen; omega
            case ap2 => omega
            case ap3 => have := lt_of_some HQ1.out; have := HG7.out.size; have := HBN.out; have := HBWA.out.size; have := HBM.out; have := hBw.out.size; omega
            intro v' w8 ha
            have hown := Slc.Own.apd (m := [m.2]) HH.out rfl rfl rfl rfl ha
            have hblk : v'.ownBlock = (Value.slice va (gK l k m.1).length vc).ownBlock ∨ ∃ y, v'.ownBlock = some y ∧ W1.heap.size ≤ y := by
              rcases ha.blk with q | q
              · left; rw [q, H6.out]
              · exact .inr ⟨_, q, HG7.out.size⟩
            have hgr := ha.grown
            rw [H6.out] at hgr
            clear ha
            go_wp2_with fail
            exact ⟨rfl, rfl, ⟨hown, hblk⟩, hgr⟩
          case inr.inr.inr.inr.inr.inr.inl =>
            clear m0 m1
            go_wp2_with fail
            exact ⟨rfl, rfl, rfl, Below.refl _ _⟩
          all_goals
            clear hlook
            go_wp2_with fail
            exact ⟨rfl, rfl, rfl, Below.refl _ _⟩
        · intro d x w7 hCC hf
          have f0 := hf 0 (by omega) (fun c hc => by simp at hc)
          have f2 := hf 2 (by omega) (fun c hc => by simp at hc)
          have f10 := hf 10 (by omega) (fun c hc => by simp at hc)
          simp only [TaF] at f0 f2 f10
          clear hf
          obtain ⟨hown, hblk⟩ := f10
          have hg7 : W1.grownBy w7 sv.val.ownBlock := HVF.out ▸ hCC.1
          obtain ⟨s', hs'⟩ := own_sg hown
          rw [hs'] at hown hblk
          obtain ⟨w8, hrun, ho8, hg8⟩ := (HOP.out.kept hg7 (fun e => (HVB.out bm (by rw [← HVF.out]; exact e.symm)).1 rfl)).putS u_mapSS (by have := HQK.out; unfold maxLen; omega) (k := m.1) (by have := HXK.out.1; unfold maxLen; omega) s' s'.val (rdS_mk _)
          have hT8 := HTA.out.step (p := m.1) (x := m.2) (s' := s') (HSV.out ▸ hg7) hown (by rw [← HSV.out, HVF.out]; exact hblk) hg8
          have HT8 := Bx.mk (show TB w8 bm (fun j => if j = m.1 then some s' else f j) (gK l (k + 1)) by
            have e : gK l (k + 1) = fun j => if j = m.1 then gK l k m.1 ++ [m.2] else gK l k j := by
              funext j
              rw [HGS.out, HOK.out]
              by_cases e : j = m.1
              · subst e; simp
              · rw [if_neg e, decide_eq_false fun q => e q.symm]; simp
            rw [e]; exact hT8)
          have HM8 := Bx.mk ho8
          have HB8 := Bx.mk (show Below bm w w8 from ((HBWA.out.grown hg7 (by have := HBWA.out.size; have := HBM.out; omega) fun j hj => by
            have := (HTA.out.get m.1).lt j (by rw [← HSV.out]; exact hj)
            omega)).grown hg8 (by have := HBWA.out.size; have := hg7.size; have := HBM.out; omega) fun j hj => by simp only [Option.some.injEq] at hj; omega)
          have hsf : ∃ sa sn sc, s'.val = .slice sa sn sc := ⟨_, _, _, rfl⟩
          obtain ⟨sa, sn, sc, hsf⟩ := hsf
          have hrun' : (Instr.mapUpdate 74 (.map (some bm)) (.string (bstr m.1)) (.slice sa sn sc)).run Try.prog w7 = .ok () w8 := by rw [← hsf]; exact hrun
          rw [hsf] at hs'
          clear hown hblk hg7 hrun ho8 hg8 hT8 hCC hsf
          simp only [List.take_succ_cons, List.take_zero, List.drop_succ_cons, List.drop_zero, putFrom, Nat.zero_add, Nat.reduceAdd, f0, f2, hs']
          clear f0 f2 hs'
          generalize x 1 = x1, x 3 = x3, x 4 = x4, x 5 = x5, x 6 = x6, x 7 = x7, x 8 = x8, x 9 = x9
          simp only [Act.put, List.setIfInBounds_toArray, List.set_cons_succ, List.set_cons_zero]
          go_wp2_with fail
          go_roundw
          case rel => exact ⟨k + 1, _, by omega, by go_num, HT8, ⟨_, by have := HQK.out; omega, HM8.out⟩, HB8⟩
          case measure => simp [intOf]; omega
    · obtain rfl : N = k := by omega
      obtain ⟨q, hq, D, hown, hIs⟩ := hM.out
      have HIS := Bx.mk hIs
      have HHAS := Bx.mk (show ∀ p, (f p).isSome = true ↔ gK l N p ≠ [] from hT.out.has_)
      have hq1 : q < maxLen := by unfold maxLen; omega
      have HRD := Bx.mk (show ∀ p s, f p = some s → RdIn wr (fun b => b ≠ bm ∧ b ≠ wr.heap.size) encS s.val (gK l N p) from fun p s hp => by
        have h1 := hT.out.own p s hp
        exact ⟨h1.rd, fun b hb => by have := h1.lt b hb; omega⟩)
      have hbsz := hBw.out.size
      obtain ⟨r, hr⟩ : ∃ r, r = wr.heap.size := ⟨_, rfl⟩
      have HR := Bx.mk hr
      clear hT hM hb0 hIs
      go_wp2_with (at_range; refine wpList_range_own _ rfl _ 74 rfl 9 35 (Go.Maps.string_keyed u_str) u_mapSS _ bm _ D rfl hown ?_; intro w0 hrg0 hg0 hs0)
      rw [← hr] at hrg0 HRD ⊢
      have HB0 := Bx.mk (show Below bm w w0 from hBw.out.grown hg0 (by have := HBM.out; omega) fun k hk => by cases hk)
      have HRG0 := Bx.mk hrg0
      have HRD0 := Bx.mk (show ∀ p s, f p = some s → RdIn w0 (fun b => b ≠ bm ∧ b ≠ r) encS s.val (gK l N p) from fun p s hp => (HRD.out p s hp).keep hg0.size fun k _ hk => hg0.block k hk (by simp))
      have hrbm : bm < r := by rw [hr]; exact hown.lt
      clear hown hg0 hs0 hrg0 HRD hr hbsz hBw
      go_frame
      go_loopw [] (fun wr => ∃ (left : Lit → Bool) (cnt : Nat) (D : DW) (f : B → Option Sg), Bx (wr.ranges Try.prog 9 rdS bm r q D left cnt) ∧ Bx (IsF kS edS D f) ∧ Bx (∀ p, (f p).isSome = true ↔ gK l N p ≠ []) ∧ Bx (∀ p s, f p = some s → RdIn wr (fun b => b ≠ bm ∧ b ≠ r) encS s.val (if left (.string p) then gK l N p else setB (gK l N p))) ∧ Bx (Below bm w wr)) (fun wr => wr.rangeLeft bm r)
      case atStart =>
        refine ⟨_, _, D, f, HRG0, HIS, HHAS, ⟨fun p s hp => ?_⟩, HB0⟩
        have h1 := HIS.out.has_ p
        rw [hp] at h1
        rw [if_pos (show Maps.has D (.string p) = true from h1)]
        exact HRD0.out p s hp
      case round =>
        clear HIS HHAS HRG0 HRD0 HB0
        obtain ⟨left, cnt, D, f, hrg, hIs, hHas, hRd, hBw⟩ := hrel
        go_wp2_with (at_next; refine next_tab hIs.out rfl _ rfl rfl hrg.out ?_ ?_)
        · intro hl0
          have HL0 := Bx.mk hl0
          clear hl0
          go_wp2_with fail
          go_ret
          refine ⟨bm, f, rfl, by have := HBM.out; omega, ⟨fun p => ?_, fun p s hp => ?_, ⟨q, by omega, D, hrg.out.owns, hIs.out⟩⟩, HBM.out ▸ hBw.out⟩
          · have h1 := hHas.out p
            rw [HN.out, gK_src] at h1
            rw [Bool.eq_iff_iff, decide_eq_true_eq]; exact h1
          · have h1 := hRd.out p s hp
            rw [HL0.out p, if_neg (by simp), HN.out, gK_all] at h1
            exact ⟨h1.1, fun k hk => (h1.2 k hk).1⟩
        · intro x c w1 cnt1 hkey hlx hfx hrg1 hlt1 hg1 hs1 hen
          have hr1 := hRd.out x c hfx
          rw [if_pos hlx] at hr1
          have hr2 : RdIn w1 (fun b => b ≠ bm ∧ b ≠ r) encS c.val (gK l N x) := hr1.keep hg1.size fun k hS hk => hg1.block k hk (by simp only [ne_eq, Option.some.injEq]; exact hS.2)
          obtain ⟨ca, cc, hcf, -⟩ := hr1.1.form
          have hgl := gK_len l N x
          have hset := set_any w1 _ (gK l N x) hr2.1 (by omega)
          rw [hcf] at hset hen ⊢
          have HFX := Bx.mk hfx
          have HRG1 := Bx.mk hrg1
          have HKEY := Bx.mk hkey
          have HLT1 := Bx.mk hlt1
          have HB1 := Bx.mk (show Below bm w w1 from hBw.out.grown hg1 (by have := hBw.out.size; have := HBM.out; omega) fun k hk => by simp only [Option.some.injEq] at hk; omega)
          have HRW := Bx.mk (show ∀ p s, f p = some s → RdIn w1 (fun b => b ≠ bm ∧ b ≠ r) encS s.val (if left (.string p) then gK l N p else setB (gK l N p)) from fun p s hp => (hRd.out p s hp).keep hg1.size fun k hS hk => hg1.block k hk (by simp only [ne_eq, Option.some.injEq]; exact hS.2))
          have HRLT := Bx.mk (show r < w1.heap.size from hrg1.lt)
          have HBLT := Bx.mk (show bm < w1.heap.size by have := HRLT.out; omega)
          clear hr1 hr2 hcf hfx hrg1 hkey hlt1 hg1 hs1 hlx hBw hRd
          obtain ⟨G, hG⟩ : ∃ G, G = gK l N x := ⟨_, rfl⟩
          have HG := Bx.mk hG
          rw [← hG] at hset hen hgl ⊢
          clear hG
          obtain ⟨X, hX⟩ : ∃ X, X = bstr x := ⟨_, rfl⟩
          have HX := Bx.mk hX
          rw [← hX] at hen ⊢
          clear hX
          go_wp2_with fail
          go_at_call 38
          refine hset.mono ?_
          rintro e w2 ⟨v2, rfl, ho2, hb2⟩
          obtain ⟨s', hs'⟩ := own_sg ho2
          rw [hs'] at ho2
          obtain ⟨w3, hrun, hrg3, hg3, hs3⟩ := ranges_put (HRG1.out.kept (grown_none hb2) (by simp) (by simp)) (Go.Maps.string_keyed u_str) u_mapSS hq1 (Try.zeroValue35 w2) HKEY.out (by
            have := hIs.out.has_ x
            rw [HFX.out] at this; exact this) (rdS_mk s')
          have hrun' : (Instr.mapUpdate 74 (.map (some bm)) (.string X) v2).run Try.prog w2 = .ok () w3 := by rw [hs', HX.out]; exact hrun
          obtain ⟨sa, sc, hsf, -⟩ := ho2.rd.form
          rw [hs', hsf] at hrun' ⊢
          have HIS' := Bx.mk (hIs.out.put x s')
          have HHAS' := Bx.mk (show ∀ p, ((fun j => if j = x then some s' else f j) p).isSome = true ↔ gK l N p ≠ [] from fun p => by
            by_cases e : p = x
            · subst e
              have := hHas.out p
              rw [HFX.out] at this
              simpa using this
            · simp only [if_neg e]; exact hHas.out p)
          have HRD' := Bx.mk (show ∀ p s, (fun j => if j = x then some s' else f j) p = some s → RdIn w3 (fun b => b ≠ bm ∧ b ≠ r) encS s.val (if (fun z : Lit => left z && !z.sameKey (.string x)) (.string p) then gK l N p else setB (gK l N p)) from fun p s hp => by
            by_cases e : p = x
            · subst e
              simp only [if_true, Option.some.injEq] at hp
              subst hp
              simp only [sameS, decide_true, Bool.not_true, Bool.and_false, Bool.false_eq_true, if_false]
              have h1 : RdIn w2 (fun b => b ≠ bm ∧ b ≠ r) encS s'.val (setB (gK l N p)) := ⟨by rw [← HG.out]; exact ho2.rd, fun b hb => by
                have := (ho2.lt b hb).1
                have := HRLT.out
                have := HBLT.out
                omega⟩
              exact h1.keep hg3.size fun k hS hk => hg3.block k hk (by simp only [ne_eq, Option.some.injEq]; exact hS.1)
            · simp only [if_neg e] at hp
              simp only [sameS, decide_eq_false e, Bool.not_false, Bool.and_true]
              exact (RdIn.below (HRW.out p s hp) hb2).keep hg3.size fun k hS hk => hg3.block k hk (by simp only [ne_eq, Option.some.injEq]; exact hS.1))
          have HRG3 := Bx.mk hrg3
          have HB3 := Bx.mk (show Below bm w w3 from (HB1.out.trans (hb2.mono (by have := HBLT.out; omega))).grown hg3 (by have := HBLT.out; have := hb2.size; omega) fun k hk => by simp only [Option.some.injEq] at hk; omega)
          clear hset hen ho2 hb2 hrg3 hg3 hs3 hs' hsf hrun hHas
          go_wp2_with fail
          go_roundw
          case rel => exact ⟨_, _, _, _, HRG3, HIS', HHAS', HRD', HB3⟩
          case measure => rw [HRG3.out.left_eq, hrg.out.left_eq]; exact HLT1.out
end Go.Proofs.Ytmagjdocondmhaa.Tr

namespace Go.Proofs.Ytmagjdocondmhaa.Tr
open Go Go.RowKit Go.Shelf Go.Sort Go.Proofs.Ytmagjdocondmhaa.Slc Go.Proofs.Ytmagjdocondmhaa.St Go.Proofs.Ytmagjdocondmhaa.Mp
set_option linter.unusedVariables false
set_option linter.unusedSimpArgs false

theorem sortsT (m : Nat) : AnyZ.SortsIn Try.prog Try.sortedA_ren Fence.wide m :=
  ⟨fun blk off cap ss W hH hblk hsz => callsIn_wide.2 (AnyM.slices_Sort_string Try.sortA blk off cap ss W hH hblk hsz),
   fun p cap W => callsIn_wide.2 (AnyM.slices_Sort_string_none Try.sortA p cap W)⟩
theorem keysT (b : Option Nat) (W : World) : Calls Try.prog 53 #[.map b] W fun e w' => e = .returned (.func (.func 71) #[] #[.pointer (some ⟨W.heap.size, 0, none⟩)]) ∧ w' = W.alloc (.cells #[.map b] 74) :=
  (callsIn_wide (n := 6)).1 (AnyZ.keys_in Try.keysA Fence.wide 6 trivial rfl b W)
theorem asc_sort {l : List B} (h : Asc l) : (l.mergeSort fun x y => decide (x ≤ y)) = l := by
  have hp : (l.mergeSort fun x y => decide (x ≤ y)).Perm l := List.mergeSort_perm l _
  refine asc_unique _ _ ?_ h fun x => hp.mem_iff
  have h1 := sorted_pair l
  have h2 : (l.mergeSort fun x y => decide (x ≤ y)).Nodup := hp.nodup_iff.2 (asc_nodup h)
  exact (List.Pairwise.and h1 h2).imp fun {a b} h => ltB_or h.1 fun e => h.2 e.symm
theorem sortedT (b n : Nat) (f : B → Option Sg) (w : World) (h : OwnF w kS rdS edS b n f) (hn : n ≤ 1000000) (ks : List B) (ha : Asc ks) (hmem : ∀ k, k ∈ ks ↔ (f k).isSome = true) :
    Calls Try.prog 52 #[.func (.func 71) #[] #[.pointer (some ⟨w.heap.size, 0, none⟩)]] (w.alloc (.cells #[.map (some b)] 74))
      fun e w' => ∃ (v : Value), e = .returned v ∧ Slc.Own w' (w.heap.size + 1) 9 1 encS v ks ∧ Below (w.heap.size + 1) (w.alloc (.cells #[.map (some b)] 74)) w' := by
  obtain ⟨D, hown, hm⟩ := h
  have hbl := hown.lt
  have hp : ks.Perm (strKeys D) := Collected.perm (left := fun _ => false) ⟨asc_nodup ha, fun x => by
    have h1 : Maps.has D (.string x) = (f x).isSome := hm.has_ x
    rw [h1, hmem]; simp⟩ hown (Go.Maps.string_keyed u_str) u_str fun _ => rfl
  have hsz : Maps.size D ≤ n := hown.size_le
  have hseq : SeqGives Fence.wide 3 Try.prog 71 #[.pointer (some ⟨w.heap.size, 0, none⟩)] encStr (fun ss => ss.Perm (strKeys D)) (Maps.size D) (w.alloc (.cells #[.map (some b)] 74)) :=
    AnyZ.keys_gives (ρ := Try.keysA_ren) { Try.keysA with } Fence.wide _ trivial rfl (by omega) w.heap.size b n D _ (by simp) (by simp) (by
      obtain ⟨es, clock, hb, Ft, hs, hD⟩ := hown
      exact ⟨es, clock, (Below.heap_alloc _ _ b hbl).trans hb, Ft, hs, hD⟩)
  have cS := AnyZ.sorted_in Try.sortedA Fence.wide 6 trivial trivial trivial trivial rfl (by omega) (sortsT _) (enters_of Try.func70 (by kernel_rfl) rfl) 71 #[.pointer (some ⟨w.heap.size, 0, none⟩)] trivial (enters_of Try.func71 (by kernel_rfl) rfl) _ _ (by unfold maxLen; omega) (by omega) _ hseq
  refine ((callsIn_wide (n := 6)).1 cS).mono ?_
  rintro e w' ⟨v, ss, rfl, hS, hrow, hnil, hb⟩
  have hpp : ss.Perm ks := hS.trans hp.symm
  rw [World.size_alloc] at hrow hb
  refine ⟨v, rfl, ?_, hb⟩
  have e1 : (ss.mergeSort fun x y => decide (x ≤ y)) = ks := (mergeSort_of_perm hpp).trans (asc_sort ha)
  unfold Slc.Own
  rw [encS_str]
  rw [e1, hpp.length_eq] at hrow
  exact hrow
end Go.Proofs.Ytmagjdocondmhaa.Tr
