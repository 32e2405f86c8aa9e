/- packed -/
import Derived.Test.YtmagjdocondmhaaGreatPkLk10
import Derived.Sort.KeysCollected
set_option linter.unusedVariables false
set_option linter.unusedSimpArgs false
set_option maxRecDepth 100000
set_option maxHeartbeats 64000000
namespace Go.Proofs.YtmagjdocondmhaaGreat.Tr
open Go Go.RowKit Slc St Mp
theorem u_mapSS : Tryz.prog.underlying 86 = some (.map 9 34) := Tryz.underlying86
def encP (m : B × B) : List Value := [.string (bstr m.1), .string (bstr m.2)]
theorem encP_ok : Enc 2 encP := ⟨fun _ => rfl, fun x u hu => by simp [encP] at hu; rcases hu with rfl | rfl <;> rfl, by omega⟩
theorem maps_cells {w : World} {ad : Option Addr} {n c : Nat} {l : List (B × B)} (h : Rd w encP (.slice ad n c) l) : n = l.length /\ ∀ (W : World), Below w.heap.size w W -> ∀ k (hk : k < l.length), ∃ b o, ad = some ⟨b, o, none⟩ /\ b < w.heap.size /\ W.cell? ⟨b, o + k * 2, none⟩ = some (.string (bstr (l[k]).1)) /\ W.cell? ⟨b, o + k * 2 + 1, none⟩ = some (.string (bstr (l[k]).2)) := by
 obtain ⟨ad', c', hv, -⟩ := h.form;simp only [Value.slice.injEq] at hv
 refine ⟨hv.2.1, fun W hW k hk => ?_⟩;obtain ⟨b, o, c, hv', _, hlt, hc⟩ := h.cells encP_ok (by omega);simp only [Value.slice.injEq] at hv'
 have q := hc W (fun k' hk' => hW.block k' (h.lt k' hk')) k hk;exact ⟨b, o, hv'.1, hlt, q 0 _ (by omega) rfl, q 1 _ (by omega) rfl⟩
def gK (l : List (B × B)) (k : Nat) (p : B) : List B := ((l.take k).filter fun m => decide (m.1 = p) && okM m).map (·.2)
theorem gK_zero (l : List (B × B)) (p : B) : gK l 0 p = [] := by simp [gK]
theorem gK_succ (l : List (B × B)) (k : Nat) (hk : k < l.length) (p : B) : gK l (k + 1) p = gK l k p ++ if decide (l[k].1 = p) && okM l[k] then [l[k].2] else [] := by
 unfold gK;rw [zA hk, List.filter_append, List.map_append]
 cases h : decide (l[k].1 = p) && okM l[k] <;> simp [List.filter_cons, h]
theorem gK_len (l : List (B × B)) (k : Nat) (p : B) : (gK l k p).length <= k := by
 unfold gK; rw [List.length_map]
 exact Nat.le_trans (List.length_filter_le _ _) (by simp; omega)
theorem gK_all (l : List (B × B)) (p : B) : setB (gK l l.length p) = subL l p := by unfold gK subL; rw [List.take_length]
theorem gK_src (l : List (B × B)) (p : B) : gK l l.length p ≠ [] ↔ p ∈ srcL l := by
 unfold gK srcL;rw [List.take_length, setB_mem, List.mem_map];constructor
 ·intro h;obtain ⟨x, hx⟩ := List.exists_mem_of_ne_nil _ h;obtain ⟨m, hm, -⟩ := List.mem_map.1 hx;rw [List.mem_filter, Bool.and_eq_true, decide_eq_true_eq] at hm;exact ⟨m, List.mem_filter.2 ⟨hm.1, hm.2.2⟩, hm.2.1⟩
 ·rintro ⟨m, hm, rfl⟩ h;rw [List.mem_filter] at hm;have : m.2 ∈ (l.filter fun m' => decide (m'.1 = m.1) && okM m').map (·.2) := List.mem_map.2 ⟨m, List.mem_filter.2 ⟨hm.1, by simp [hm.2]⟩, rfl⟩;rw [h] at this; cases this
def nilS : Sg := ⟨none, 0, 0⟩
structure TB (w : World) (bm : Nat) (f : B -> Option Sg) (g : B -> List B) : Prop where
 has_ : ∀ p, (f p).isSome = true ↔ g p ≠ []
 own : ∀ p s, f p = some s -> Slc.Own w (bm + 1) 9 1 encS s.val (g p)
 dis : ∀ p p' s s', f p = some s -> f p' = some s' -> p ≠ p' -> ∀ b, s.val.ownBlock = some b -> s'.val.ownBlock ≠ some b
theorem TB.get {w : World} {bm : Nat} {f : B -> Option Sg} {g : B -> List B} (h : TB w bm f g) (p : B) : Slc.Own w (bm + 1) 9 1 encS ((f p).getD nilS).val (g p) := by
 cases hf : f p with
 | some s => exact h.own p s hf
 | none =>
  have : g p = [] := by
   cases hg : g p with
   | nil => rfl
   | cons x l => have := (h.has_ p).2 (by rw [hg]; simp); rw [hf] at this; cases this
  rw [this]; exact Slc.Own.nil _ _
theorem TB.below {w w' : World} {bm : Nat} {f : B -> Option Sg} {g : B -> List B} (h : TB w bm f g) (hb : Below w.heap.size w w') : TB w' bm f g :=
 ⟨h.has_, fun p s hp => (h.own p s hp).below hb, h.dis⟩
theorem TB.step {w w1 w2 : World} {bm : Nat} {f : B -> Option Sg} {g : B -> List B} {p x : B} {s' : Sg} (h : TB w bm f g) (hg : w.grownBy w1 ((f p).getD nilS).val.ownBlock) (ho : Slc.Own w1 (bm + 1) 9 1 encS s'.val (g p ++ [x]))
  (hb : s'.val.ownBlock = ((f p).getD nilS).val.ownBlock \/ ∃ y, s'.val.ownBlock = some y /\ w.heap.size <= y) (hg2 : w1.grownBy w2 (some bm)) : TB w2 bm (fun j => if j = p then some s' else f j) (fun j => if j = p then g p ++ [x] else g j) := by
 have k2 : ∀ {v : Value} {l : List B}, Slc.Own w1 (bm + 1) 9 1 encS v l -> Slc.Own w2 (bm + 1) 9 1 encS v l := fun {v l} hv => hv.keep fun k hk hlt => hg2.block k hlt fun e => by
  have := (hv.lt k hk).1;simp only [zO] at e; omega
 have hne : ∀ j s, f j = some s -> j ≠ p -> ∀ b, s.val.ownBlock = some b -> ((f p).getD nilS).val.ownBlock ≠ some b := by
  intro j s hj hjp b hbs
  cases hf : f p with
  | none => simp [nilS, Sg.val, Value.ownBlock]
  | some s0 =>
   exact h.dis j p s s0 hj hf hjp b hbs
 refine ⟨fun j => ?_, fun j s hj => ?_, fun j j' s t hj hj' hne' b hbs => ?_⟩
 ·by_cases e : j = p
  ·subst e; simp
  ·rw [if_neg e, if_neg e]; exact h.has_ j
 ·by_cases e : j = p
  ·subst e;rw [if_pos rfl] at hj |-
   cases hj
   exact k2 ho
  ·rw [if_neg e] at hj |-;refine k2 ((h.own j s hj).keep fun k hk hlt => hg.block k hlt fun e2 => ?_);exact hne j s hj e k hk e2.symm
 ·by_cases e : j = p
  ·subst e;rw [if_pos rfl] at hj
   cases hj
   rw [if_neg fun q => hne' q.symm] at hj';rcases hb with q | ⟨y, q, hy⟩
   ·intro e2;rw [q] at hbs;exact hne j' t hj' (fun q => hne' q.symm) b e2 hbs
   ·intro e2;rw [q] at hbs;simp only [zO] at hbs
    have := ((h.own j' t hj').lt b e2).2;omega
  ·rw [if_neg e] at hj;by_cases e' : j' = p
   ·subst e';rw [if_pos rfl] at hj'
    cases hj'
    rcases hb with q | ⟨y, q, hy⟩
    ·rw [q]; exact hne j s hj e b hbs
    ·rw [q];intro e2;simp only [zO] at e2
     have := ((h.own j s hj).lt b hbs).2;omega
   ·rw [if_neg e'] at hj';exact h.dis j j' s t hj hj' hne' b hbs
theorem keyOf_strB {P : Program} {k : TypeId} (hk : P.underlying k = some .string) {key : Value} {kl : Lit} (h : keyOf P k key = some kl) : ∃ x : B, key = .string (bstr x) /\ kl = .string x := by
 simp only [keyOf, hk] at h
 unfold mapKey at h;rw [hk] at h
 cases key with
 | string s =>
  simp at h
  exact ⟨s.data.toList, by rw [bstr_back], h.2.symm⟩
 | _ => simp at h
theorem rdS_form {v : Value} {y : DW × List MemPlace} (h : rdS v = some y) : ∃ c : Sg, v = c.val /\ y = (edS c, []) := by
 unfold rdS at h;split at h
 ·simp only [zO] at h; exact ⟨_, rfl, h.symm⟩
 ·simp only [zO] at h; exact ⟨_, rfl, h.symm⟩
 ·cases h
theorem sameS (z x : B) : (Lit.string z).sameKey (.string x) = decide (z = x) := by
 by_cases e : z = x
 ·subst e; rw [zT rfl]; exact WideAt.sameKey_self trivial
 ·rw [zF e]
  cases q : (Lit.string z).sameKey (.string x)
  ·rfl
  ·have := WideAt.sameKey_eq q; injection this with this; exact absurd this e
theorem next_tab {w : World} {ops : Array Oper} {rest : List Oper} {o : Oper} {a : Act} {Q : Exit -> Act -> World -> Prop} {f : B -> Option Sg} {D : DW} (hf : IsF kS edS D f) (hg : o.guard = none) (it : Operand) (hop : o.op = Op.next it false) {b r n : Nat} {left : Lit -> Bool} {cnt : Nat}
  (hit : a.eval it = .pointer (some ⟨r, 0, none⟩)) (h : w.ranges Tryz.prog 9 rdS b r n D left cnt)
  (hDone : (∀ m : B, left (.string m) = false) -> wpList Tryz.prog ops Q rest (a.put o.dst (.tuple #[.bool false])) w)
  (hMore : ∀ (x : B) (c : Sg) (w' : World) (cnt' : Nat), keyOf Tryz.prog 9 (.string (bstr x)) = some (.string x) -> left (.string x) = true -> f x = some c -> w'.ranges Tryz.prog 9 rdS b r n D (fun z => left z && !z.sameKey (.string x)) cnt' -> cnt' < cnt ->
   w.grownBy w' (some r) -> w'.heap.size = w.heap.size -> (Instr.entry (.pointer (some ⟨r, 0, none⟩))).run Tryz.prog w' = .ok (.tuple #[.string (bstr x), c.val]) w' -> wpList Tryz.prog ops Q rest (a.put o.dst (.tuple #[.bool true, .string (bstr x), c.val])) w') :
  wpList Tryz.prog ops Q (o :: rest) a w :=
 wpList_next_ranges w hg it hop 9 (Go.Maps.string_keyed u_str) rdS (fun x : B => Value.string (bstr x)) Sg.val (fun key kl hkey => by obtain ⟨s, rfl, _⟩ := keyOf_strB u_str hkey; exact ⟨s, rfl⟩) (fun v y hv => by obtain ⟨c, rfl, _⟩ := rdS_form hv; exact ⟨c, rfl⟩)
  b r n D left cnt hit h (fun _ hl => hDone fun m => hl _) (fun x c kl y w' cnt' hkey hlk hv hat hrg hlt hgr hsz hen => by
   obtain ⟨x', ex, rfl⟩ := keyOf_strB u_str hkey;have ex2 : x = x' := by injection ex with ex; exact bstr_inj ex
   subst ex2;rw [rdS_mk] at hv;have hy := Option.some.inj hv;subst hy;refine hMore x c w' cnt' hkey hlk ?_ hrg hlt hgr hsz hen;have h1 : D.atKey (.string x) .nil = edS c := hat .nil;have h0 := hf.at_ x .nil;have h2 := h0.symm.trans h1
   cases hfx : f x with
   | none => rw [hfx] at h2; unfold edS at h2; simp only at h2; split at h2 <;> cases h2
   | some d => rw [hfx] at h2; rw [edS_inj h2])
end Go.Proofs.YtmagjdocondmhaaGreat.Tr
namespace Go.Proofs.YtmagjdocondmhaaGreat.Tr
open Go Go.RowKit Slc St Mp
attribute [local go_sem] Oper.semAt_some
theorem own_sg {w : World} {Bk : Nat} {v : Value} {l : List B} (h : Slc.Own w Bk 9 1 encS v l) : ∃ s : Sg, v = s.val := by
 rcases h.2 with ⟨rfl, _⟩ | ⟨g, cap, cur, rfl, _⟩
 ·exact ⟨nilS, rfl⟩
 ·exact ⟨⟨some (g, 0), _, cap⟩, rfl⟩
theorem grown_none {w w' : World} (hb : Below w.heap.size w w') : w.grownBy w' none := ⟨hb.os, hb.tape, hb.output, hb.size, fun k hk _ => hb.block k hk⟩
theorem grown_same {W w1 w2 : World} {r : Option Nat} (h : W.grownBy w1 r) (k : w1.grownBy w2 r) : W.grownBy w2 r := h.andThen k fun j e => .inr e
def TaF (W : World) (bm bn : Nat) (m : B × B) (v : Value) (L : List B) : Nat -> Value -> World -> Prop
 | 0, x, _ => x = .map (some bm)
 | 1, x, _ => x = .pointer (some ⟨bn, 0, none⟩)
 | 2, x, _ => x = .string (bstr m.1)
 | 3, x, _ => x = .map (some bm)
 | 4, x, _ => x = .pointer (some ⟨bn, 0, none⟩)
 | 5, x, _ => x = .string (bstr m.1)
 | 6, x, _ => x = v
 | 7, x, _ => x = .pointer (some ⟨bn, 1, none⟩)
 | 8, x, _ => x = .string (bstr m.2)
 | 9, x, w => ∃ g, x = .slice (some ⟨g, 0, none⟩) 1 1 /\ W.heap.size <= g /\ w.heap[g]? = some (.cells #[.string (bstr m.2)] 9 (0, 0))
 | 10, x, w => Slc.Own w (bm + 1) 9 1 encS x (L ++ [m.2]) /\ (x.ownBlock = v.ownBlock \/ ∃ y, x.ownBlock = some y /\ W.heap.size <= y)
 | _, _, _ => True
theorem TaF.stable (W : World) (bm bn : Nat) (m : B × B) (v : Value) (L : List B) (i : Nat) (x : Value) (w w' : World) (h : TaF W bm bn m v L i x w) (hb : Below w.heap.size w w') : TaF W bm bn m v L i x w' := by
 match i with
 | 0 | 1 | 2 | 3 | 4 | 5 | 6 | 7 | 8 => exact h
 | 9 => obtain ⟨g, h1, h2, h3⟩ := h; exact ⟨g, h1, h2, (hb.block g (lt_of_some h3)).trans h3⟩
 | 10 => exact ⟨Slc.Own.below (t := 9) h.1 hb, h.2⟩
 | _ + 11 => exact trivial
theorem TaF.big (W : World) (bm bn : Nat) (m : B × B) (v : Value) (L : List B) (hv : ∀ k, v.ownBlock = some k -> k < W.heap.size) (i : Nat) (hi : i ≠ 10) (x : Value) (w w' : World) (h : TaF W bm bn m v L i x w) (hg : w.grownBy w' v.ownBlock) : TaF W bm bn m v L i x w' := by
 match i, hi with
 | 0, _ | 1, _ | 2, _ | 3, _ | 4, _ | 5, _ | 6, _ | 7, _ | 8, _ => exact h
 | 9, _ =>
  obtain ⟨g, h1, h2, h3⟩ := h
  exact ⟨g, h1, h2, (hg.block g (lt_of_some h3) fun e => by have := hv g e.symm; omega).trans h3⟩
 | 10, hi => exact absurd rfl hi
 | _ + 11, _ => exact trivial
def TaC (W : World) (bm : Nat) (v : Value) (L : List B) (d : Nat -> Bool) (w : World) : Prop := W.grownBy w v.ownBlock /\ (d 10 = false -> Slc.Own w (bm + 1) 9 1 encS v L)
theorem TaC.bel {W w1 w2 : World} {bm : Nat} {v : Value} {L : List B} {d : Nat -> Bool} {i : Nat} (hh : TaC W bm v L d w1) (hi : (i == 10) = false) (hb : Below w1.heap.size w1 w2) : TaC W bm v L (mark d i) w2 := by
 refine ⟨grown_bel hh.1 hb, fun e => (hh.2 ?_).below hb⟩;have h1 : i ≠ 10 := by simpa using hi
 unfold mark at e;rwa [if_neg fun q => h1 q.symm] at e
theorem TaC.big {W w1 w2 : World} {bm : Nat} {v : Value} {L : List B} {d : Nat -> Bool} {i : Nat} (hh : TaC W bm v L d w1) (hi : (i == 10) = true) (hg : w1.grownBy w2 v.ownBlock) : TaC W bm v L (mark d i) w2 := by
 refine ⟨grown_same hh.1 hg, fun e => ?_⟩;have h1 : i = 10 := by simpa using hi
 subst h1;simp [mark] at e
theorem src_row {w : World} {g : Nat} {x : B} (h : w.heap[g]? = some (.cells #[.string (bstr x)] 9 (0, 0))) : SrcV w 1 (.slice (some ⟨g, 0, none⟩) 1 1) 1 ([x].flatMap encS) := by
 refine .ro _ _ _ _ (by simp [encS]) (fun j u hj => ?_) (fun u hu => ?_)
 ·rw [add_at];have e : ([x].flatMap encS) = [.string (bstr x)] := by simp [encS]
  rw [e] at hj;unfold World.cell?;rw [h];simp only [Nat.zero_add]
  simpa using hj
 ·rw [List.mem_flatMap] at hu;obtain ⟨y, -, hy⟩ := hu;exact encS_ok.one y u hy
structure TabP (w : World) (l : List (B × B)) (bm : Nat) (f : B -> Option Sg) : Prop where
 has_ : ∀ p, (f p).isSome = decide (p ∈ srcL l)
 rd : ∀ p s, f p = some s -> RdIn w (fun b => b ≠ bm) encS s.val (subL l p)
 mp : ∃ q, q <= 100000 /\ OwnF w kS rdS edS bm q f
theorem table_any (w : World) (v : Value) (l : List (B × B)) (h : Rd w encP v l) (hn : l.length <= 100000) (hx : ∀ m ∈ l, m.1.length <= 1000000 /\ m.2.length <= 1000000) :
  Calls Tryz.prog 86 #[v] w fun e w' => ∃ bm f, e = .returned (.map (some bm)) /\ w.heap.size <= bm /\ TabP w' l bm f /\ Below w.heap.size w w' := by
 obtain ⟨i0, hi0, hz0, hz1, hz2⟩ := info_parts info_str;obtain ⟨ad, c, rfl, -⟩ := h.form;have HC := Bx.mk (maps_cells h).2;have HXX := Bx.mk hx;obtain ⟨N, hN⟩ : ∃ N, N = l.length := ⟨_, rfl⟩
 have HN := Bx.mk hN;rw [<- hN] at hn |-;clear h hx hN;have hmm := @run_makeMap Tryz.prog;obtain ⟨W0, hW0⟩ : ∃ W0, W0 = w.alloc (.map #[] 0) := ⟨_, rfl⟩
 obtain ⟨bm, hbm⟩ : ∃ bm, bm = w.heap.size := ⟨_, rfl⟩
 have HBM := Bx.mk hbm;have HM0 := Bx.mk (show ∃ q, q <= 0 /\ OwnF W0 kS rdS edS bm q (fun _ => none) from ⟨0, zR _, by rw [hW0, hbm]; exact OwnF.made w kS rdS edS⟩);have HT0 := Bx.mk (show TB W0 bm (fun _ => none) (gK l 0) from ⟨fun p => (by simp [gK_zero]), (by intro p s hp; cases hp), (by intro p p' s s' hp; cases hp)⟩);have HB0 := Bx.mk (show Below bm w W0 by rw [hW0, hbm]; exact (Below.refl _ _).alloc (zR _) _);go_enter Tryz.func86, Tryz.ntmps86;go_wp2_with fail
 rw [<- hW0, <- hbm];clear hW0 hbm hmm;go_loopw [11] (fun i wr => ∃ (k : Nat) (f : B -> Option Sg), k <= N /\ i = .int .i64 k /\ Bx (TB wr bm f (gK l k)) /\ Bx (∃ q, q <= k /\ OwnF wr kS rdS edS bm q f) /\ Bx (Below bm w wr)) (fun i _ => N - (intOf i).toNat)
 case atStart => exact ⟨0, _, by omega, rfl, HT0, HM0, HB0⟩
 case round =>
  clear HT0 HM0 HB0;obtain ⟨k, f, hk, rfl, hT, hM, hBw⟩ := hrel;have hb0 : Below w.heap.size w wr := HBM.out ▸ hBw.out;by_cases hlt : k < N
  ·have hkl : k < l.length := by rw [<- HN.out]; exact hlt
   obtain ⟨b, o, rfl, hbl, c0, c1⟩ := HC.out wr hb0 k hkl;have HGS := Bx.mk (gK_succ l k hkl);have HXK := Bx.mk (HXX.out l[k] (zM hkl));obtain ⟨m, hm⟩ : ∃ m, m = l[k] := ⟨_, rfl⟩
   rw [<- hm] at c0 c1 HGS HXK;clear hm hkl hbl;obtain ⟨W1, hW1⟩ : ∃ W1, W1 = wr.alloc (.cells #[.string (bstr m.1), .string (bstr m.2)] 49) := ⟨_, rfl⟩
   obtain ⟨bn, hbn⟩ : ∃ bn, bn = wr.heap.size := ⟨_, rfl⟩
   have HBN := Bx.mk hbn;have hq1 : W1.heap[bn]? = some (.cells #[.string (bstr m.1), .string (bstr m.2)] 49 (0, 0)) := by rw [hW1, hbn]; exact heap_alloc_new _ _
   have HBA := Bx.mk (show Below wr.heap.size wr W1 by rw [hW1]; exact (Below.refl _ _).alloc (zR _) _);have hbsz := hBw.out.size;have HBWA := Bx.mk (show Below bm w W1 from hBw.out.trans (HBA.out.mono (by have := HBM.out; omega)));have HTA := Bx.mk (hT.out.below HBA.out);have HMA := Bx.mk (show ∃ q, q <= k /\ OwnF W1 kS rdS edS bm q f by obtain ⟨q, h1, h2⟩ := hM.out; exact ⟨q, h1, h2.below HBA.out⟩);have HQ1 := Bx.mk hq1;go_upto_region 5 with fail
   rw [<- hW1, <- hbn];clear hW1 hbn c0 c1;have m0 := cell_of_row _ _ 0 _ _ _ hq1;have m1 := cell_of_row _ _ 1 _ _ _ hq1;simp only [List.getElem?_toArray, List.getElem?_cons_zero, List.getElem?_cons_succ] at m0 m1
   clear hq1 hbsz;have hs1 := same_any m.1;have hs2 := same_any m.2;obtain ⟨t1, ht1⟩ : ∃ t, t = decide (m.1 = anyP) := ⟨_, rfl⟩
   obtain ⟨t2, ht2⟩ : ∃ t, t = decide (m.2 = anyP) := ⟨_, rfl⟩
   have HOK := Bx.mk (show okM m = (!t1 && !t2) by unfold okM; rw [ht1, ht2, <- decide_not, <- decide_not]);rw [<- ht1] at hs1;rw [<- ht2] at hs2;clear ht1 ht2
   have hskip : okM m = false -> TB W1 bm f (gK l (k + 1)) := fun e => by
    have : gK l (k + 1) = gK l k := (by funext p; rw [HGS.out, e]; simp);rw [this]; exact HTA.out
   have HSK := Bx.mk hskip;clear hskip
   cases t1 with
   | true =>
    have HT2 := Bx.mk (HSK.out (by rw [HOK.out]; rfl));go_wp2_with fail
    go_roundw
    case rel => exact ⟨k + 1, f, by omega, by go_num, HT2, ⟨by obtain ⟨q, h1, h2⟩ := HMA.out; exact ⟨q, by omega, h2⟩⟩, HBWA⟩
    case measure => simp [intOf]; omega
   | false =>
   cases t2 with
   | true =>
    have HT2 := Bx.mk (HSK.out (by rw [HOK.out]; rfl));go_wp2_with fail
    go_roundw
    case rel => exact ⟨k + 1, f, by omega, by go_num, HT2, ⟨by obtain ⟨q, h1, h2⟩ := HMA.out; exact ⟨q, by omega, h2⟩⟩, HBWA⟩
    case measure => simp [intOf]; omega
   | false =>
    obtain ⟨q, hq, hop⟩ := HMA.out;have HQK := Bx.mk hq;have HOP := Bx.mk hop;have HOWN := Bx.mk (HTA.out.get m.1);obtain ⟨sv, hsv⟩ : ∃ s, s = (f m.1).getD nilS := ⟨_, rfl⟩
    have HSV := Bx.mk hsv;rw [<- hsv] at HOWN;have hvl : ∀ j, sv.val.ownBlock = some j -> j < W1.heap.size := fun j hj => (HOWN.out.lt j hj).2
    have hvb : ∀ j, sv.val.ownBlock = some j -> j ≠ bm /\ j ≠ bn := fun j hj => ⟨by have := (HOWN.out.lt j hj).1; omega, fun e => by
     have h1 := HTA.out.get m.1;rw [<- hsv] at h1
     cases hf : f m.1 with
     | none =>
      rw [hf] at hsv;simp only [Option.getD_none] at hsv
      rw [hsv] at hj; simp [nilS, Sg.val, Value.ownBlock] at hj
     | some s0 =>
      rw [hf] at hsv;simp only [Option.getD_some] at hsv
      have := ((hT.out.own m.1 s0 hf).lt j (by rw [<- hsv]; exact hj)).2
      have := HBN.out; omega⟩
    have HVB := Bx.mk hvb;obtain ⟨va, vc, hvf, -⟩ := HOWN.out.rd.form;have HGL := gK_len l k m.1
    have HLOOK := Bx.mk (show ∀ W : World, W1.grownBy W sv.val.ownBlock -> (Instr.lookup 86 (.map (some bm)) (.string (bstr m.1)) false).run Tryz.prog W = .ok (.slice va (gK l k m.1).length vc) W from fun W hW => by
     have := ((HOP.out.kept hW (fun e => (HVB.out bm e.symm).1 rfl)).lookS u_mapSS Sg.val nilS (Tryz.zeroValue34 _) rdS_mk rdS_inv (k := m.1) (by have := HXK.out.1; unfold maxLen; omega)).1;rw [<- hsv, hvf] at this
     exact this)
    rw [hvf] at HOWN hvl HVB HLOOK;have HVF := Bx.mk hvf;clear hq hop hsv hvb hvf;go_wp2_with fail
    clear hs1 hs2 m0 m1;refine wp_region_factsC 11 (fun _ => none) (· == 10) (TaF W1 bm bn m (.slice va (gK l k m.1).length vc) (gK l k m.1)) (TaC W1 bm (.slice va (gK l k m.1).length vc) (gK l k m.1)) (fun a b => a.grownBy b (Value.slice va (gK l k m.1).length vc).ownBlock) ?_ (by kernel_rfl) (by kernel_rfl) (by rfl) ?_ ?_ ?_ ?_ ?_ ?_
    ·exact ⟨⟨rfl, rfl, rfl, zR _, fun _ _ _ => rfl⟩, fun _ => HOWN.out⟩
    ·exact TaF.stable _ _ _ _ _ _
    ·exact fun d i w1 w2 hh hi _ hb => hh.bel hi hb
    ·exact fun d i w1 w2 hh hi _ hg => hh.big hi hg
    ·exact fun b j x w1 w2 hb _ hne _ hh hg => TaF.big _ _ _ _ _ _ hvl j (fun e => hne (e.trans (show b = 10 by simpa using hb).symm)) _ _ _ hh hg
    ·intro i o hi ho d x w7 hcl hdi hCC hd;have hc : i = 0 \/ i = 1 \/ i = 2 \/ i = 3 \/ i = 4 \/ i = 5 \/ i = 6 \/ i = 7 \/ i = 8 \/ i = 9 \/ i = 10 := (by omega);obtain ⟨hg7, how7⟩ := hCC;have HG7 := Bx.mk hg7;have HOW7 := Bx.mk how7;have b5 := (hg7.block bn (lt_of_some HQ1.out) (fun e => (HVB.out bn e.symm).2 rfl)).trans HQ1.out;have m0 := cell_of_row _ _ 0 _ _ _ b5;have m1 := cell_of_row _ _ 1 _ _ _ b5;simp only [List.getElem?_toArray, List.getElem?_cons_zero, List.getElem?_cons_succ] at m0 m1
     have hlook := HLOOK.out w7 (HVF.out ▸ hg7);have HDI := Bx.mk hdi;clear hcl hg7 how7 b5;simp only [List.take_succ_cons, List.take_zero, putFrom, Act.put, List.setIfInBounds_toArray, List.set_cons_succ, List.set_cons_zero, Nat.zero_add, Nat.reduceAdd]
     rcases hc with rfl | rfl | rfl | rfl | rfl | rfl | rfl | rfl | rfl | rfl | rfl
     all_goals
      simp only [List.getElem?_cons_succ, List.getElem?_cons_zero, zO] at ho
      subst ho;simp [NeedsB, Region.binds, TaF] at hd
     all_goals clear hi hdi
     case inr.inr.inr.inr.inr.inr.inr.inr.inr.inl =>
      clear hlook m0 m1;go_wp2_with fail
      exact ⟨rfl, rfl, ⟨_, rfl, HG7.out.size, heap_alloc_new _ _⟩, (Below.refl _ _).alloc (zR _) _⟩
     case inr.inr.inr.inr.inr.inr.inr.inr.inr.inr =>
      obtain ⟨h6, g9, h9, hg9, hr9⟩ := hd;have how := HOW7.out HDI.out;have hsr : SrcV w7 1 (x 9) 1 ([m.2].flatMap encS) := (by rw [h9]; exact src_row hr9);rw [<- h6] at how;have H6 := Bx.mk h6;have HH := Bx.mk how;clear h6 h9 hr9 hlook m0 m1;go_wp2_with (at_builtin; refine wpList_append_any rfl _ _ _ rfl (bm + 1) 9 i0 _ 1 16 und_strs hi0 hz0 hz1 hz2 rfl (by decide) _ (gK l k m.1).length ((gK l k m.1).flatMap encS) rfl HH.out _ 1 ([m.2].flatMap encS) rfl hsr ?ap1 ?ap2 ?ap3 ?_)
      case ap1 => unfold maxLen; omega
      case ap2 => omega
      case ap3 => have := lt_of_some HQ1.out; have := HG7.out.size; have := HBN.out; have := HBWA.out.size; have := HBM.out; have := hBw.out.size; omega
      intro v' w8 ha;have hown := Slc.Own.apd (m := [m.2]) HH.out rfl rfl rfl rfl ha
      have hblk : v'.ownBlock = (Value.slice va (gK l k m.1).length vc).ownBlock \/ ∃ y, v'.ownBlock = some y /\ W1.heap.size <= y := by
       rcases ha.blk with q | q
       ·left; rw [q, H6.out]
       ·exact .inr ⟨_, q, HG7.out.size⟩
      have hgr := ha.grown;rw [H6.out] at hgr;clear ha;go_wp2_with fail
      exact ⟨rfl, rfl, ⟨hown, hblk⟩, hgr⟩
     case inr.inr.inr.inr.inr.inr.inl =>
      clear m0 m1;go_wp2_with fail
      exact ⟨rfl, rfl, rfl, Below.refl _ _⟩
     all_goals
      clear hlook;go_wp2_with fail
      exact ⟨rfl, rfl, rfl, Below.refl _ _⟩
    ·intro d x w7 hCC hf;have f0 := hf 0 (by omega) (fun c hc => by simp at hc);have f2 := hf 2 (by omega) (fun c hc => by simp at hc);have f10 := hf 10 (by omega) (fun c hc => by simp at hc);simp only [TaF] at f0 f2 f10
     clear hf;obtain ⟨hown, hblk⟩ := f10;have hg7 : W1.grownBy w7 sv.val.ownBlock := HVF.out ▸ hCC.1;obtain ⟨s', hs'⟩ := own_sg hown;rw [hs'] at hown hblk;obtain ⟨w8, hrun, ho8, hg8⟩ := (HOP.out.kept hg7 (fun e => (HVB.out bm (by rw [<- HVF.out]; exact e.symm)).1 rfl)).putS u_mapSS (by have := HQK.out; unfold maxLen; omega) (k := m.1) (by have := HXK.out.1; unfold maxLen; omega) s' s'.val (rdS_mk _);have hT8 := HTA.out.step (p := m.1) (x := m.2) (s' := s') (HSV.out ▸ hg7) hown (by rw [<- HSV.out, HVF.out]; exact hblk) hg8
     have HT8 := Bx.mk (show TB w8 bm (fun j => if j = m.1 then some s' else f j) (gK l (k + 1)) by
      have e : gK l (k + 1) = fun j => if j = m.1 then gK l k m.1 ++ [m.2] else gK l k j := by
       funext j
       rw [HGS.out, HOK.out];by_cases e : j = m.1
       ·subst e; simp
       ·rw [if_neg e, zF fun q => e q.symm]; simp
      rw [e]; exact hT8)
     have HM8 := Bx.mk ho8
     have HB8 := Bx.mk (show Below bm w w8 from ((HBWA.out.grown hg7 (by have := HBWA.out.size; have := HBM.out; omega) fun j hj => by
      have := (HTA.out.get m.1).lt j (by rw [<- HSV.out]; exact hj)
      omega)).grown hg8 (by have := HBWA.out.size; have := hg7.size; have := HBM.out; omega) fun j hj => by simp only [zO] at hj; omega)
     have hsf : ∃ sa sn sc, s'.val = .slice sa sn sc := ⟨_, _, _, rfl⟩
     obtain ⟨sa, sn, sc, hsf⟩ := hsf;have hrun' : (Instr.mapUpdate 86 (.map (some bm)) (.string (bstr m.1)) (.slice sa sn sc)).run Tryz.prog w7 = .ok () w8 := (by rw [<- hsf]; exact hrun);rw [hsf] at hs';clear hown hblk hg7 hrun ho8 hg8 hT8 hCC hsf;simp only [List.take_succ_cons, List.take_zero, List.drop_succ_cons, List.drop_zero, putFrom, Nat.zero_add, Nat.reduceAdd, f0, f2, hs']
     clear f0 f2 hs';generalize x 1 = x1, x 3 = x3, x 4 = x4, x 5 = x5, x 6 = x6, x 7 = x7, x 8 = x8, x 9 = x9;simp only [Act.put, List.setIfInBounds_toArray, List.set_cons_succ, List.set_cons_zero]
     go_wp2_with fail
     go_roundw
     case rel => exact ⟨k + 1, _, by omega, by go_num, HT8, ⟨_, by have := HQK.out; omega, HM8.out⟩, HB8⟩
     case measure => simp [intOf]; omega
  ·obtain rfl : N = k := by omega
   obtain ⟨q, hq, D, hown, hIs⟩ := hM.out;have HIS := Bx.mk hIs;have HHAS := Bx.mk (show ∀ p, (f p).isSome = true ↔ gK l N p ≠ [] from hT.out.has_);have hq1 : q < maxLen := by unfold maxLen; omega
   have HRD := Bx.mk (show ∀ p s, f p = some s -> RdIn wr (fun b => b ≠ bm /\ b ≠ wr.heap.size) encS s.val (gK l N p) from fun p s hp => by
    have h1 := hT.out.own p s hp
    exact ⟨h1.rd, fun b hb => by have := h1.lt b hb; omega⟩)
   have hbsz := hBw.out.size;obtain ⟨r, hr⟩ : ∃ r, r = wr.heap.size := ⟨_, rfl⟩
   have HR := Bx.mk hr;clear hT hM hb0 hIs;go_wp2_with (at_range; refine wpList_range_own _ rfl _ 86 rfl 9 34 (Go.Maps.string_keyed u_str) u_mapSS _ bm _ D rfl hown ?_; intro w0 hrg0 hg0 hs0)
   rw [<- hr] at hrg0 HRD |-;have HB0 := Bx.mk (show Below bm w w0 from hBw.out.grown hg0 (by have := HBM.out; omega) fun k hk => by cases hk);have HRG0 := Bx.mk hrg0;have HRD0 := Bx.mk (show ∀ p s, f p = some s -> RdIn w0 (fun b => b ≠ bm /\ b ≠ r) encS s.val (gK l N p) from fun p s hp => (HRD.out p s hp).keep hg0.size fun k _ hk => hg0.block k hk (by simp));have hrbm : bm < r := by rw [hr]; exact hown.lt
   clear hown hg0 hs0 hrg0 HRD hr hbsz hBw;go_frame
   go_loopw [] (fun wr => ∃ (left : Lit -> Bool) (cnt : Nat) (D : DW) (f : B -> Option Sg), Bx (wr.ranges Tryz.prog 9 rdS bm r q D left cnt) /\ Bx (IsF kS edS D f) /\ Bx (∀ p, (f p).isSome = true ↔ gK l N p ≠ []) /\ Bx (∀ p s, f p = some s -> RdIn wr (fun b => b ≠ bm /\ b ≠ r) encS s.val (if left (.string p) then gK l N p else setB (gK l N p))) /\ Bx (Below bm w wr)) (fun wr => wr.rangeLeft bm r)
   case atStart =>
    refine ⟨_, _, D, f, HRG0, HIS, HHAS, ⟨fun p s hp => ?_⟩, HB0⟩;have h1 := HIS.out.has_ p;rw [hp] at h1;rw [if_pos (show Maps.has D (.string p) = true from h1)];exact HRD0.out p s hp
   case round =>
    clear HIS HHAS HRG0 HRD0 HB0;obtain ⟨left, cnt, D, f, hrg, hIs, hHas, hRd, hBw⟩ := hrel;go_wp2_with (at_next; refine next_tab hIs.out rfl _ rfl rfl hrg.out ?_ ?_)
    ·intro hl0;have HL0 := Bx.mk hl0;clear hl0;go_wp2_with fail
     go_ret;refine ⟨bm, f, rfl, by have := HBM.out; omega, ⟨fun p => ?_, fun p s hp => ?_, ⟨q, by omega, D, hrg.out.owns, hIs.out⟩⟩, HBM.out ▸ hBw.out⟩
     ·have h1 := hHas.out p;rw [HN.out, gK_src] at h1;rw [Bool.eq_iff_iff, decide_eq_true_eq]; exact h1
     ·have h1 := hRd.out p s hp;rw [HL0.out p, if_neg (by simp), HN.out, gK_all] at h1;exact ⟨h1.1, fun k hk => (h1.2 k hk).1⟩
    ·intro x c w1 cnt1 hkey hlx hfx hrg1 hlt1 hg1 hs1 hen;have hr1 := hRd.out x c hfx;rw [if_pos hlx] at hr1;have hr2 : RdIn w1 (fun b => b ≠ bm /\ b ≠ r) encS c.val (gK l N x) := hr1.keep hg1.size fun k hS hk => hg1.block k hk (by simp only [ne_eq, zO]; exact hS.2)
     obtain ⟨ca, cc, hcf, -⟩ := hr1.1.form;have hgl := gK_len l N x;have hset := set_any w1 _ (gK l N x) hr2.1 (by omega);rw [hcf] at hset hen |-;have HFX := Bx.mk hfx;have HRG1 := Bx.mk hrg1;have HKEY := Bx.mk hkey;have HLT1 := Bx.mk hlt1;have HB1 := Bx.mk (show Below bm w w1 from hBw.out.grown hg1 (by have := hBw.out.size; have := HBM.out; omega) fun k hk => by simp only [zO] at hk; omega);have HRW := Bx.mk (show ∀ p s, f p = some s -> RdIn w1 (fun b => b ≠ bm /\ b ≠ r) encS s.val (if left (.string p) then gK l N p else setB (gK l N p)) from fun p s hp => (hRd.out p s hp).keep hg1.size fun k hS hk => hg1.block k hk (by simp only [ne_eq, zO]; exact hS.2));have HRLT := Bx.mk (show r < w1.heap.size from hrg1.lt);have HBLT := Bx.mk (show bm < w1.heap.size by have := HRLT.out; omega);clear hr1 hr2 hcf hfx hrg1 hkey hlt1 hg1 hs1 hlx hBw hRd;obtain ⟨G, hG⟩ : ∃ G, G = gK l N x := ⟨_, rfl⟩
     have HG := Bx.mk hG;rw [<- hG] at hset hen hgl |-;clear hG;obtain ⟨X, hX⟩ : ∃ X, X = bstr x := ⟨_, rfl⟩
     have HX := Bx.mk hX;rw [<- hX] at hen |-;clear hX;go_wp2_with fail
     go_at_call 81;refine hset.mono ?_;rintro e w2 ⟨v2, rfl, ho2, hb2⟩;obtain ⟨s', hs'⟩ := own_sg ho2;rw [hs'] at ho2
     obtain ⟨w3, hrun, hrg3, hg3, hs3⟩ := ranges_put (HRG1.out.kept (grown_none hb2) (by simp) (by simp)) (Go.Maps.string_keyed u_str) u_mapSS hq1 (Tryz.zeroValue34 w2) HKEY.out (by
      have := hIs.out.has_ x
      rw [HFX.out] at this; exact this) (rdS_mk s')
     have hrun' : (Instr.mapUpdate 86 (.map (some bm)) (.string X) v2).run Tryz.prog w2 = .ok () w3 := (by rw [hs', HX.out]; exact hrun);obtain ⟨sa, sc, hsf, -⟩ := ho2.rd.form;rw [hs', hsf] at hrun' |-;have HIS' := Bx.mk (hIs.out.put x s')
     have HHAS' := Bx.mk (show ∀ p, ((fun j => if j = x then some s' else f j) p).isSome = true ↔ gK l N p ≠ [] from fun p => by
      by_cases e : p = x
      ·subst e;have := hHas.out p;rw [HFX.out] at this;simpa using this
      ·simp only [if_neg e]; exact hHas.out p)
     have HRD' := Bx.mk (show ∀ p s, (fun j => if j = x then some s' else f j) p = some s -> RdIn w3 (fun b => b ≠ bm /\ b ≠ r) encS s.val (if (fun z : Lit => left z && !z.sameKey (.string x)) (.string p) then gK l N p else setB (gK l N p)) from fun p s hp => by
      by_cases e : p = x
      ·subst e;simp only [if_true, zO] at hp
       subst hp;simp only [sameS, decide_true, Bool.not_true, Bool.and_false, Bool.false_eq_true, if_false]
       have h1 : RdIn w2 (fun b => b ≠ bm /\ b ≠ r) encS s'.val (setB (gK l N p)) := ⟨by rw [<- HG.out]; exact ho2.rd, fun b hb => by
        have := (ho2.lt b hb).1;have := HRLT.out;have := HBLT.out
        omega⟩
       exact h1.keep hg3.size fun k hS hk => hg3.block k hk (by simp only [ne_eq, zO]; exact hS.1)
      ·simp only [if_neg e] at hp
       simp only [sameS, zF e, Bool.not_false, Bool.and_true]
       exact (RdIn.below (HRW.out p s hp) hb2).keep hg3.size fun k hS hk => hg3.block k hk (by simp only [ne_eq, zO]; exact hS.1))
     have HRG3 := Bx.mk hrg3;have HB3 := Bx.mk (show Below bm w w3 from (HB1.out.trans (hb2.mono (by have := HBLT.out; omega))).grown hg3 (by have := HBLT.out; have := hb2.size; omega) fun k hk => by simp only [zO] at hk; omega);clear hset hen ho2 hb2 hrg3 hg3 hs3 hs' hsf hrun hHas;go_wp2_with fail
     go_roundw
     case rel => exact ⟨_, _, _, _, HRG3, HIS', HHAS', HRD', HB3⟩
     case measure => rw [HRG3.out.left_eq, hrg.out.left_eq]; exact HLT1.out
end Go.Proofs.YtmagjdocondmhaaGreat.Tr
namespace Go.Proofs.YtmagjdocondmhaaGreat.Tr
open Go Go.RowKit Go.Shelf Go.Sort Slc St Mp
theorem sortsT (m : Nat) : AnyZ.SortsIn Tryz.prog Tryz.sortedA_ren Fence.wide m :=
 ⟨fun blk off cap ss W hH hblk hsz => callsIn_wide.2 (AnyM.slices_Sort_string Tryz.sortA blk off cap ss W hH hblk hsz),
  fun p cap W => callsIn_wide.2 (AnyM.slices_Sort_string_none Tryz.sortA p cap W)⟩
theorem keysT (b : Option Nat) (W : World) : Calls Tryz.prog 64 #[.map b] W fun e w' => e = .returned (.func (.func 105) #[] #[.pointer (some ⟨W.heap.size, 0, none⟩)]) /\ w' = W.alloc (.cells #[.map b] 86) :=
 (callsIn_wide (n := 6)).1 (AnyZ.keys_in Tryz.keysA Fence.wide 6 trivial rfl b W)
theorem asc_sort {l : List B} (h : Asc l) : (l.mergeSort fun x y => decide (x <= y)) = l := by
 have hp : (l.mergeSort fun x y => decide (x <= y)).Perm l := List.mergeSort_perm l _;refine asc_unique _ _ ?_ h fun x => hp.mem_iff
 have h1 := sorted_pair l;have h2 : (l.mergeSort fun x y => decide (x <= y)).Nodup := hp.nodup_iff.2 (asc_nodup h);exact (List.Pairwise.and h1 h2).imp fun {a b} h => ltB_or h.1 fun e => h.2 e.symm
theorem sortedT (b n : Nat) (f : B -> Option Sg) (w : World) (h : OwnF w kS rdS edS b n f) (hn : n <= 1000000) (ks : List B) (ha : Asc ks) (hmem : ∀ k, k ∈ ks ↔ (f k).isSome = true) :
  Calls Tryz.prog 63 #[.func (.func 105) #[] #[.pointer (some ⟨w.heap.size, 0, none⟩)]] (w.alloc (.cells #[.map (some b)] 86))
   fun e w' => ∃ (v : Value), e = .returned v /\ Slc.Own w' (w.heap.size + 1) 9 1 encS v ks /\ Below (w.heap.size + 1) (w.alloc (.cells #[.map (some b)] 86)) w' := by
 obtain ⟨D, hown, hm⟩ := h;have hbl := hown.lt
 have hp : ks.Perm (strKeys D) := Collected.perm (left := fun _ => false) ⟨asc_nodup ha, fun x => by
  have h1 : Maps.has D (.string x) = (f x).isSome := hm.has_ x
  rw [h1, hmem]; simp⟩ hown (Go.Maps.string_keyed u_str) u_str fun _ => rfl
 have hsz : Maps.size D <= n := hown.size_le
 have hseq : SeqGives Fence.wide 3 Tryz.prog 105 #[.pointer (some ⟨w.heap.size, 0, none⟩)] encStr (fun ss => ss.Perm (strKeys D)) (Maps.size D) (w.alloc (.cells #[.map (some b)] 86)) :=
  AnyZ.keys_gives (ρ := Tryz.keysA_ren) { Tryz.keysA with } Fence.wide _ trivial rfl (by omega) w.heap.size b n D _ (by simp) (by simp) (by
   obtain ⟨es, clock, hb, Ft, hs, hD⟩ := hown
   exact ⟨es, clock, (Below.heap_alloc _ _ b hbl).trans hb, Ft, hs, hD⟩)
 have cS := AnyZ.sorted_in Tryz.sortedA Fence.wide 6 trivial trivial trivial trivial rfl (by omega) (sortsT _) (enters_of Tryz.func104 (by kernel_rfl) rfl) 105 #[.pointer (some ⟨w.heap.size, 0, none⟩)] trivial (enters_of Tryz.func105 (by kernel_rfl) rfl) _ _ (by unfold maxLen; omega) (by omega) _ hseq;refine ((callsIn_wide (n := 6)).1 cS).mono ?_;rintro e w' ⟨v, ss, rfl, hS, hrow, hnil, hb⟩;have hpp : ss.Perm ks := hS.trans hp.symm;rw [World.size_alloc] at hrow hb;refine ⟨v, rfl, ?_, hb⟩;have e1 : (ss.mergeSort fun x y => decide (x <= y)) = ks := (mergeSort_of_perm hpp).trans (asc_sort ha);unfold Slc.Own;rw [encS_str];rw [e1, hpp.length_eq] at hrow;exact hrow
end Go.Proofs.YtmagjdocondmhaaGreat.Tr
namespace Go.Proofs.YtmagjdocondmhaaGreat.Tr.Gr
open Go Go.RowKit Go.Shelf Go.Sort Slc St Mp Tr
attribute [local go_sem] Oper.semAt_some
theorem u_mapSI : Tryz.prog.underlying 77 = some (.map 9 22) := Tryz.underlying77
theorem keysTI (b : Option Nat) (W : World) : Calls Tryz.prog 102 #[.map b] W fun e w' => e = .returned (.func (.func 120) #[] #[.pointer (some ⟨W.heap.size, 0, none⟩)]) /\ w' = W.alloc (.cells #[.map b] 77) :=
 (callsIn_wide (n := 6)).1 (AnyZ.keys_in Tryz.keysI Fence.wide 6 trivial rfl b W)
theorem sortedTI (b n : Nat) (f : B -> Option Sg) (w : World) (h : OwnF w kS rdS edS b n f) (hn : n <= 1000000) (ks : List B) (ha : Asc ks) (hmem : ∀ k, k ∈ ks ↔ (f k).isSome = true) :
  Calls Tryz.prog 63 #[.func (.func 120) #[] #[.pointer (some ⟨w.heap.size, 0, none⟩)]] (w.alloc (.cells #[.map (some b)] 77))
   fun e w' => ∃ (v : Value), e = .returned v /\ Slc.Own w' (w.heap.size + 1) 9 1 encS v ks /\ Below (w.heap.size + 1) (w.alloc (.cells #[.map (some b)] 77)) w' := by
 obtain ⟨D, hown, hm⟩ := h;have hbl := hown.lt
 have hp : ks.Perm (strKeys D) := Collected.perm (left := fun _ => false) ⟨asc_nodup ha, fun x => by
  have h1 : Maps.has D (.string x) = (f x).isSome := hm.has_ x
  rw [h1, hmem]; simp⟩ hown (Go.Maps.string_keyed u_str) u_str fun _ => rfl
 have hsz : Maps.size D <= n := hown.size_le
 have hseq : SeqGives Fence.wide 3 Tryz.prog 120 #[.pointer (some ⟨w.heap.size, 0, none⟩)] encStr (fun ss => ss.Perm (strKeys D)) (Maps.size D) (w.alloc (.cells #[.map (some b)] 77)) :=
  AnyZ.keys_gives (ρ := Tryz.keysI_ren) { Tryz.keysI with } Fence.wide _ trivial rfl (by omega) w.heap.size b n D _ (by simp) (by simp) (by
   obtain ⟨es, clock, hb, Ft, hs, hD⟩ := hown
   exact ⟨es, clock, (Below.heap_alloc _ _ b hbl).trans hb, Ft, hs, hD⟩)
 have cS := AnyZ.sorted_in Tryz.sortedA Fence.wide 6 trivial trivial trivial trivial rfl (by omega) (sortsT _) (enters_of Tryz.func104 (by kernel_rfl) rfl) 120 #[.pointer (some ⟨w.heap.size, 0, none⟩)] trivial (enters_of Tryz.func120 (by kernel_rfl) rfl) _ _ (by unfold maxLen; omega) (by omega) _ hseq;refine ((callsIn_wide (n := 6)).1 cS).mono ?_;rintro e w' ⟨v, ss, rfl, hS, hrow, hnil, hb⟩;have hpp : ss.Perm ks := hS.trans hp.symm;rw [World.size_alloc] at hrow hb;refine ⟨v, rfl, ?_, hb⟩;have e1 : (ss.mergeSort fun x y => decide (x <= y)) = ks := (mergeSort_of_perm hpp).trans (asc_sort ha);unfold Slc.Own;rw [encS_str];rw [e1, hpp.length_eq] at hrow;exact hrow
theorem keysTB (b : Option Nat) (W : World) : Calls Tryz.prog 79 #[.map b] W fun e w' => e = .returned (.func (.func 114) #[] #[.pointer (some ⟨W.heap.size, 0, none⟩)]) /\ w' = W.alloc (.cells #[.map b] 98) :=
 (callsIn_wide (n := 6)).1 (AnyZ.keys_in Tryz.keysB Fence.wide 6 trivial rfl b W)
theorem sortedTB (b n : Nat) (f : B -> Option Bool) (w : World) (h : OwnF w kS rdB edB b n f) (hn : n <= 1000000) (ks : List B) (ha : Asc ks) (hmem : ∀ k, k ∈ ks ↔ (f k).isSome = true) :
  Calls Tryz.prog 63 #[.func (.func 114) #[] #[.pointer (some ⟨w.heap.size, 0, none⟩)]] (w.alloc (.cells #[.map (some b)] 98))
   fun e w' => ∃ (v : Value), e = .returned v /\ Slc.Own w' (w.heap.size + 1) 9 1 encS v ks /\ Below (w.heap.size + 1) (w.alloc (.cells #[.map (some b)] 98)) w' := by
 obtain ⟨D, hown, hm⟩ := h;have hbl := hown.lt
 have hp : ks.Perm (strKeys D) := Collected.perm (left := fun _ => false) ⟨asc_nodup ha, fun x => by
  have h1 : Maps.has D (.string x) = (f x).isSome := hm.has_ x
  rw [h1, hmem]; simp⟩ hown (Go.Maps.string_keyed u_str) u_str fun _ => rfl
 have hsz : Maps.size D <= n := hown.size_le
 have hseq : SeqGives Fence.wide 3 Tryz.prog 114 #[.pointer (some ⟨w.heap.size, 0, none⟩)] encStr (fun ss => ss.Perm (strKeys D)) (Maps.size D) (w.alloc (.cells #[.map (some b)] 98)) :=
  AnyZ.keys_gives (ρ := Tryz.keysB_ren) { Tryz.keysB with } Fence.wide _ trivial rfl (by omega) w.heap.size b n D _ (by simp) (by simp) (by
   obtain ⟨es, clock, hb, Ft, hs, hD⟩ := hown
   exact ⟨es, clock, (Below.heap_alloc _ _ b hbl).trans hb, Ft, hs, hD⟩)
 have cS := AnyZ.sorted_in Tryz.sortedA Fence.wide 6 trivial trivial trivial trivial rfl (by omega) (sortsT _) (enters_of Tryz.func104 (by kernel_rfl) rfl) 114 #[.pointer (some ⟨w.heap.size, 0, none⟩)] trivial (enters_of Tryz.func114 (by kernel_rfl) rfl) _ _ (by unfold maxLen; omega) (by omega) _ hseq;refine ((callsIn_wide (n := 6)).1 cS).mono ?_;rintro e w' ⟨v, ss, rfl, hS, hrow, hnil, hb⟩;have hpp : ss.Perm ks := hS.trans hp.symm;rw [World.size_alloc] at hrow hb;refine ⟨v, rfl, ?_, hb⟩;have e1 : (ss.mergeSort fun x y => decide (x <= y)) = ks := (mergeSort_of_perm hpp).trans (asc_sort ha);unfold Slc.Own;rw [encS_str];rw [e1, hpp.length_eq] at hrow;exact hrow
theorem mcopy_any (w : World) (d s q : Nat) (f : B -> Option Sg) (hd : OwnF w kS rdS edS d 0 (fun _ => none)) (hs : OwnF w kS rdS edS s q f) (hne : d ≠ s) (hq : q <= 1000000) (hx : ∀ p, (f p).isSome = true -> p.length <= 1000000) :
  Calls Tryz.prog 49 #[.map (some d), .map (some s)] w fun e w' => (∃ u, e = .returned u) /\ (∃ q', q' <= q /\ OwnF w' kS rdS edS d q' f) /\ w.grownBy w' (some d) := by
 have HD := Bx.mk hd;have HXX := Bx.mk hx;have hdl := hd.lt;obtain ⟨D, hown, hIs⟩ := hs;have hsl := hown.lt;have HIS := Bx.mk hIs;have HSZ := Bx.mk hown.size_le;obtain ⟨r, hr⟩ : ∃ r, r = w.heap.size := ⟨_, rfl⟩
 have HR := Bx.mk hr;have HNE := Bx.mk hne;clear hd hIs hx hne;go_enter Tryz.func49, Tryz.ntmps49;go_wp2_with (at_range; refine wpList_range_own _ rfl _ 77 rfl 9 22 (Go.Maps.string_keyed u_str) u_mapSI _ s _ D rfl hown ?_; intro w0 hrg0 hg0 hs0)
 rw [<- hr] at hrg0 |-;have HD0 := Bx.mk (HD.out.kept hg0 (by simp));have HRG0 := Bx.mk hrg0;have HG0 := Bx.mk (show w.grownBy w0 (some d) from hg0.but _);have HDR := Bx.mk (show d ≠ r by rw [hr]; omega);clear hown hg0 hs0 hrg0 hr hsl;obtain ⟨CN, hCN⟩ : ∃ CN, CN = Maps.size D := ⟨_, rfl⟩
 rw [<- hCN] at HSZ HRG0;clear hCN;go_frame
 go_loopw [] (fun wr => ∃ (left : Lit -> Bool) (cnt q' : Nat), Bx (wr.ranges Tryz.prog 9 rdS s r q D left cnt) /\ Bx (q' + cnt <= CN) /\ Bx (OwnF wr kS rdS edS d q' (fun p => if left (.string p) then none else f p)) /\ Bx (w.grownBy wr (some d))) (fun wr => wr.rangeLeft s r)
 case atStart =>
  refine ⟨_, _, 0, HRG0, ⟨by omega⟩, ⟨?_⟩, HG0⟩
  have e : (fun p : B => if Maps.has D (.string p) then none else f p) = fun _ => none := by
   funext p
   have h1 : Maps.has D (.string p) = (f p).isSome := HIS.out.has_ p;rw [h1]
   cases f p <;> simp
  rw [e]; exact HD0.out
 case round =>
  clear HD0 HRG0 HG0;obtain ⟨left, cnt, q', hrg, hqc, hO, hG⟩ := hrel;go_wp2_with (at_next; refine next_tab HIS.out rfl _ rfl rfl hrg.out ?_ ?_)
  ·intro hl0;have HL0 := Bx.mk hl0;clear hl0;go_wp2_with fail
   go_end0
   refine ⟨⟨_, rfl⟩, ⟨q', by have := hqc.out; have := HSZ.out; omega, ?_⟩, hG.out⟩
   have e : (fun p : B => if left (.string p) then none else f p) = f := by
    funext p; rw [HL0.out p]; simp
   have := hO.out;rw [e] at this; exact this
  ·intro x c w1 cnt1 hkey hlx hfx hrg1 hlt1 hg1 hs1 hen;have hxl := HXX.out x (by rw [hfx]; rfl);obtain ⟨w2, hrun, ho2, hg2⟩ := (hO.out.kept hg1 (by simp only [ne_eq, zO]; exact HDR.out)).putS u_mapSI (by have := hqc.out; have := HSZ.out; unfold maxLen; omega) (k := x) (by unfold maxLen; omega) c c.val (rdS_mk c);have hrg2 := hrg1.kept hg2 (by simp only [ne_eq, zO]; exact fun e => HNE.out e.symm) (by simp only [ne_eq, zO]; exact fun e => HDR.out e.symm)
   have HO2 := Bx.mk (show OwnF w2 kS rdS edS d (q' + 1) (fun p => if (fun z : Lit => left z && !z.sameKey (.string x)) (.string p) then none else f p) by
    have e : (fun p : B => if (fun z : Lit => left z && !z.sameKey (.string x)) (.string p) then none else f p) = fun j => if j = x then some c else (if left (.string j) then none else f j) := by
     funext p
     simp only [sameS]
     by_cases e : p = x
     ·subst e; simp [hfx]
     ·simp [e]
    rw [e]; exact ho2)
   have HRG2 := Bx.mk hrg2;have HQ2 := Bx.mk (show q' + 1 + cnt1 <= CN by have := hqc.out; omega);have HLT := Bx.mk hlt1;have HG2 := Bx.mk (show w.grownBy w2 (some d) from grown_same (hG.out.andThen hg1 fun j e => .inl (by simp only [zO] at e; have := HR.out; omega)) hg2);have hcf : ∃ sa sn sc, c.val = .slice sa sn sc := ⟨_, _, _, rfl⟩
   obtain ⟨sa, sn, sc, hcf⟩ := hcf;have hrun' : (Instr.mapUpdate 77 (.map (some d)) (.string (bstr x)) c.val).run Tryz.prog w1 = .ok () w2 := hrun;rw [hcf] at hrun' hen |-;clear hrg1 hkey hlx hfx hlt1 hg1 hs1 ho2 hg2 hrg2 hrun hcf hxl;obtain ⟨X, hX⟩ : ∃ X, X = bstr x := ⟨_, rfl⟩
   rw [<- hX] at hen hrun' |-;clear hX;go_wp2_with fail
   go_roundw
   case rel => exact ⟨_, _, _, HRG2, HQ2, HO2, HG2⟩
   case measure => rw [HRG2.out.left_eq, hrg.out.left_eq]; exact HLT.out
end Go.Proofs.YtmagjdocondmhaaGreat.Tr.Gr
namespace Go.Proofs.YtmagjdocondmhaaGreat.Tr.Gr
open Go Go.RowKit Slc St Mp Tr Rg
attribute [local go_sem] Oper.semAt_some
theorem kb_far {n p : Nat} {A B : World} {r : Option Nat} (h : A.grownBy B r) (hn : n <= A.heap.size) (hr : ∀ k, r = some k -> n <= k) : KB n p A B :=
 ⟨h.os, h.tape, h.output, h.size, fun k hk _ => h.block k (by omega) (fun e => by have := hr k e.symm; omega)⟩
theorem kb_below {n p m : Nat} {A B : World} (h : KB n p A B) (h1 : m <= n) (h2 : m <= p) : Below m A B := ⟨h.os, h.tape, h.output, h.size, fun k hk => h.block k (by omega) (by omega)⟩
theorem str_at {w : World} {ad : Option Addr} {n c : Nat} {l : List B} (h : Rd w encS (.slice ad n c) l) (k : Nat) (hk : k < l.length) : ∃ b o, ad = some ⟨b, o, none⟩ /\ b < w.heap.size /\ ∀ W : World, W.heap[b]? = w.heap[b]? -> W.cell? ⟨b, o + k, none⟩ = some (.string (bstr l[k])) := by
 obtain ⟨b, o, c', hv, _, hlt, hc⟩ := h.cells encS_ok (by omega);simp only [Value.slice.injEq] at hv
 refine ⟨b, o, hv.1, hlt, fun W hW => ?_⟩
 have q := hc W (fun k' hk' => by
  rw [hv.1] at hk';simp only [Value.ownBlock, zO] at hk'
  rw [<- hk']; exact hW) k hk 0 _ (by omega) rfl
 rw [Nat.mul_one, Nat.add_zero] at q;exact q
def lvV (h : B -> List Int) (p : B) : Vx := ⟨p, [p], h p⟩
structure LvO (w wr : World) (B7 : Nat) (S : Nat -> Prop) (v : Value) (L : List Vt) : Prop where
 own : Slc.Own wr B7 65 3 encV v L
 u : ∀ x ∈ L, RdIn wr (fun k => B7 <= k /\ v.ownBlock ≠ some k) encS x.u.val x.n.ex
 q : ∀ x ∈ L, RdIn w S encI x.q.val x.n.par
structure LvP (w w' : World) (S : Nat -> Prop) (v : Value) (L : List Vt) : Prop where
 own : Slc.Own w' w.heap.size 65 3 encV v L
 u : ∀ x ∈ L, RdIn w' (fun k => w.heap.size <= k /\ v.ownBlock ≠ some k) encS x.u.val x.n.ex
 q : ∀ x ∈ L, RdIn w' S encI x.q.val x.n.par
theorem level_any (w : World) (b q : Nat) (f : B -> Option Sg) (h : B -> List Int) (S : Nat -> Prop) (ks : List B) (hm : OwnF w kS rdS edS b q f) (hq : q <= 1000000) (hrd : ∀ p s, f p = some s -> RdIn w S encI s.val (h p)) (ha : Asc ks) (hmem : ∀ k, k ∈ ks ↔ (f k).isSome = true) (hkl : ks.length <= 1000000) (hpl : ∀ p ∈ ks, p.length <= 1000000) :
  Calls Tryz.prog 53 #[.map (some b)] w fun e w' => ∃ v L, e = .returned (.agg #[v]) /\ LvP w w' S v L /\ vxs L = ks.map (lvV h) /\ Below w.heap.size w w' := by
 obtain ⟨iv, hiv, hiv0, hiv1, hiv2⟩ := info_parts info_ver;obtain ⟨il, hil, hil0, hil1, hil2⟩ := info_parts info_lev;have HRD := Bx.mk hrd;have HBL := Bx.mk hm.lt;have HMEM := Bx.mk hmem;have HPL := Bx.mk hpl;obtain ⟨c2, hc2⟩ : ∃ c, c = w.heap.size := ⟨_, rfl⟩
 have HC2 := Bx.mk hc2;obtain ⟨W0, hW0⟩ : ∃ W0, W0 = w.alloc (.cells #[.slice none 0 0] 63) := ⟨_, rfl⟩
 have hs0 : W0.heap.size = w.heap.size + 1 := by rw [hW0]; simp
 obtain ⟨c3, hc3⟩ : ∃ c, c = w.heap.size + 1 := ⟨_, rfl⟩
 have HC3 := Bx.mk (show c3 = c2 + 1 by rw [hc3, hc2]);obtain ⟨W1, hW1⟩ : ∃ W1, W1 = W0.alloc (.cells #[.slice none 0 0] 63) := ⟨_, rfl⟩
 have hb1 : Below w.heap.size w W1 := by
  rw [hW1];have h0 : Below w.heap.size w W0 := by rw [hW0]; exact (Below.refl _ _).alloc (zR _) _
  exact h0.alloc (by rw [hs0]; omega) _
 have HB1 := Bx.mk hb1
 have HR2 := Bx.mk (show W1.heap[c2]? = some (.cells #[.slice none 0 0] 63 (0, 0)) by
  rw [hW1];refine alloc_keep ?_
  rw [hW0, hc2]; exact heap_alloc_new _ _)
 have HR3 := Bx.mk (show W1.heap[c3]? = some (.cells #[.slice none 0 0] 63 (0, 0)) by rw [hW1, hc3, <- hs0]; exact heap_alloc_new _ _);have HS1 := Bx.mk (show W1.heap.size = c3 + 1 by rw [hW1, hc3]; simp [hs0]);have hm1 := hm.below hb1;have hsk := sortedTI b q f W1 hm1 hq ks ha hmem;have hkk := keysTI (some b) W1;obtain ⟨W6, hW6⟩ : ∃ W6, W6 = W1.alloc (.cells #[.map (some b)] 77) := ⟨_, rfl⟩
 obtain ⟨kb, hkb⟩ : ∃ kb, kb = W1.heap.size := ⟨_, rfl⟩
 have HKB := Bx.mk hkb;have HB6 := Bx.mk (show Below W1.heap.size W1 W6 by rw [hW6]; exact (Below.refl _ _).alloc (zR _) _);have HS6 := Bx.mk (show W6.heap.size = kb + 1 by rw [hW6, hkb]; simp);rw [<- hW6, <- hkb] at hsk hkk;have HM1 := Bx.mk hm1;clear hm hm1 hrd hmem hpl hb1 hW6 hkb hs0;go_enter Tryz.func53, Tryz.ntmps53;go_upto_region 2 with fail
 rw [<- hW0, <- hW1, <- hc3, <- hc2];clear hW0 hW1 hc2 hc3;go_wp2_with fail
 go_at_call 102;refine hkk.mono ?_;rintro e w6 ⟨rfl, rfl⟩;clear hkk;go_wp2_with fail
 go_at_call 63;refine hsk.mono ?_;rintro e w7 ⟨sv, rfl, ho7, hb7⟩;obtain ⟨sa, sc, rfl, -⟩ := ho7.rd.form;have HB7 := Bx.mk (show Below W1.heap.size W1 w7 from HB6.out.trans (hb7.mono (by have := HKB.out; omega)));have hs7 := HB7.out.size;have H7 := Bx.mk (show c3 + 1 <= w7.heap.size by have := HS1.out; omega);have HBW7 := Bx.mk (show Below w.heap.size w w7 from HB1.out.trans (HB7.out.mono HB1.out.size));have HM7 := Bx.mk (HM1.out.below HB7.out);have HKR := Bx.mk ho7.rd;have HKO := Bx.mk (show ∀ j, (Value.slice sa ks.length sc).ownBlock = some j -> c3 < j from fun j hj => by have := (ho7.lt j hj).1; have := HKB.out; have := HS1.out; omega);have H27 := Bx.mk ((HB7.out.block c2 (by have := HC3.out; have := HS1.out; omega)).trans HR2.out);have H37 := Bx.mk ((HB7.out.block c3 (by have := HS1.out; omega)).trans HR3.out);obtain ⟨B7, hB7⟩ : ∃ B7, B7 = w7.heap.size := ⟨_, rfl⟩
 have HZ7 := Bx.mk hB7;obtain ⟨N, hN⟩ : ∃ N, N = ks.length := ⟨_, rfl⟩
 have HN := Bx.mk hN;rw [<- hN] at hkl |-;clear hsk ho7 hb7 HR2 HR3 hs7 hB7 hN ha;go_wp2_with fail
 go_loopw [10] (fun i wr => ∃ (k : Nat) (v : Value) (L : List Vt), k <= N /\ i = .int .i64 k /\ Bx (KB B7 c3 w7 wr) /\ Bx (wr.heap[c3]? = some (.cells #[v] 63 (0, 0))) /\ Bx (LvO w wr B7 S v L) /\ Bx (vxs L = (ks.take k).map (lvV h))) (fun i _ => N - (intOf i).toNat)
 case atStart => exact ⟨0, _, [], by omega, rfl, ⟨KB.refl _ _ _⟩, H37, ⟨⟨Slc.Own.nil _ _, (fun x hx => by cases hx), (fun x hx => by cases hx)⟩⟩, ⟨by simp [vxs]⟩⟩
 case round =>
  clear H37;obtain ⟨k, v, L, hk, rfl, hK, hR, hL, hV⟩ := hrel;have HC3N := Bx.mk (show c3 < B7 by have := H7.out; have := HZ7.out; omega);by_cases hlt : k < N
  ·have hkl2 : k < ks.length := by rw [<- HN.out]; exact hlt
   obtain ⟨bs, os, rfl, hbl, hcs⟩ := str_at HKR.out k hkl2;have c0 := hcs wr (hK.out.block bs (by have := HZ7.out; omega) (by have := HKO.out bs rfl; omega));have HTK := Bx.mk (show (ks.take (k + 1)).map (lvV h) = (ks.take k).map (lvV h) ++ [lvV h ks[k]] by rw [zA hkl2, List.map_append]; rfl);have HPK := Bx.mk (HPL.out ks[k] (zM hkl2));have HFK := Bx.mk ((HMEM.out ks[k]).1 (zM hkl2));obtain ⟨p, hp⟩ : ∃ p, p = ks[k] := ⟨_, rfl⟩
   rw [<- hp] at c0 HTK HPK HFK;obtain ⟨s0, hs0⟩ := Option.isSome_iff_exists.1 HFK.out;have HRS := Bx.mk (HRD.out p s0 hs0);have HLEN := Bx.mk (show L.length = k by have := congrArg List.length hV.out; simp only [vxs, List.length_map, List.length_take] at this; omega);obtain ⟨va, vc, rfl, -⟩ := hL.out.own.rd.form;have HW := Bx.mk (show B7 <= wr.heap.size by have := hK.out.size; have := HZ7.out; omega);have HVL := Bx.mk (show ∀ j, (Value.slice va L.length vc).ownBlock = some j -> B7 <= j /\ j < wr.heap.size from fun j hj => hL.out.own.lt j hj);have HBWR := Bx.mk (show Below w.heap.size w wr from HBW7.out.trans (kb_below hK.out (by have := HBW7.out.size; have := HZ7.out; omega) (by have := HC3.out; have := HC2.out; omega)));have hb3 : b ≠ c3 := by have := HBL.out; have := HC3.out; have := HC2.out; omega
   have HLOOK := Bx.mk (show ∀ W : World, wr.grownBy W (Value.slice va L.length vc).ownBlock -> (Instr.lookup 77 (.map (some b)) (.string (bstr p)) false).run Tryz.prog W = .ok s0.val W from fun W hW => by
    have h1 := HM7.out.block (w' := wr) (hK.out.block b (by have := HM7.out.lt; have := HZ7.out; omega) hb3);have h2 := h1.kept hW (fun e => by have := (HVL.out b e.symm).1; have := HM7.out.lt; have := HZ7.out; omega);have := (h2.lookS u_mapSI Sg.val nilS (Tryz.zeroValue22 _) rdS_mk rdS_inv (k := p) (by have := HPK.out; unfold maxLen; omega)).1;rw [hs0] at this
    exact this)
   have HR3 := Bx.mk hR.out;clear hbl hcs hp hkl2 HFK hb3 hs0;have hsf : ∃ ya yn yc, s0.val = .slice ya yn yc := ⟨_, _, _, rfl⟩
   obtain ⟨ya, yn, yc, hsf⟩ := hsf;have HSF := Bx.mk hsf;have hrow3 := hR.out;have m3 := cell_of_row _ _ 0 _ _ _ hrow3;simp only [List.getElem?_toArray, List.getElem?_cons_zero, List.getElem?_cons_succ] at m3
   have hba : ∀ {A : World} (o : Obj), Below A.heap.size A (A.alloc o) := fun {A} o => (Below.refl _ _).alloc (zR _) _
   have hgn : wr.grownBy (wr.alloc (.cells #[.string (bstr p)] 9)) (Value.slice va L.length vc).ownBlock := by
    have := hba (A := wr) (.cells #[.string (bstr p)] 9);exact ⟨this.os, this.tape, this.output, this.size, fun j hj _ => this.block j hj⟩
   have hlook := HLOOK.out _ hgn;rw [hsf] at hlook;have HOWN := Bx.mk (show Slc.Own ((wr.alloc (.cells #[.string (bstr p)] 9)).alloc (.cells #[.string (bstr p), .slice (some ⟨wr.heap.size, 0, none⟩) 1 1, .slice ya yn yc] 65)) B7 65 3 encV (.slice va L.length vc) L from (hL.out.own.below (hba _)).below (hba _));have hwz : (wr.alloc (.cells #[.string (bstr p)] 9)).heap.size = wr.heap.size + 1 := by simp
   obtain ⟨y, hy⟩ : ∃ y : Vt, y = ⟨lvV h p, ⟨some ⟨wr.heap.size, 0, none⟩, 1, 1⟩, ⟨s0.ad.map fun q => ⟨q.1, q.2, none⟩, s0.n, s0.c⟩⟩ := ⟨_, rfl⟩
   have hyq : y.q.val = s0.val := by
    rw [hy]
    cases h : s0.ad <;> simp [Sl.val, Sg.val, h]
   have HSRC := Bx.mk (show SrcV ((wr.alloc (.cells #[.string (bstr p)] 9)).alloc (.cells #[.string (bstr p), .slice (some ⟨wr.heap.size, 0, none⟩) 1 1, .slice ya yn yc] 65)) 3 (.slice (some ⟨wr.heap.size + 1, 0, none⟩) 1 1) 1 ([y].flatMap encV) from by
    have h1 := src_ver (wr.alloc (.cells #[.string (bstr p)] 9)) y;rw [hwz, hyq, hsf, show y.n.pol = p by rw [hy]; rfl, show y.u.val = .slice (some ⟨wr.heap.size, 0, none⟩) 1 1 by rw [hy]; rfl] at h1
    exact h1)
   have HU := Bx.mk (show Slc.Own ((wr.alloc (.cells #[.string (bstr p)] 9)).alloc (.cells #[.string (bstr p), .slice (some ⟨wr.heap.size, 0, none⟩) 1 1, .slice ya yn yc] 65)) wr.heap.size 9 1 encS (.slice (some ⟨wr.heap.size, 0, none⟩) 1 1) [p] from
    Slc.Own.below (t := 9) (own_alloc encS_ok wr [p] _ rfl (zR _) (by unfold maxLen; simp)) (hba _))
   have HBA := Bx.mk (show Below wr.heap.size wr ((wr.alloc (.cells #[.string (bstr p)] 9)).alloc (.cells #[.string (bstr p), .slice (some ⟨wr.heap.size, 0, none⟩) 1 1, .slice ya yn yc] 65)) from (hba _).alloc (by simp) _);have HZA := Bx.mk (show ((wr.alloc (.cells #[.string (bstr p)] 9)).alloc (.cells #[.string (bstr p), .slice (some ⟨wr.heap.size, 0, none⟩) 1 1, .slice ya yn yc] 65)).heap.size = wr.heap.size + 2 by simp);have hap1 : L.length + 1 <= maxLen := by have := HLEN.out; unfold maxLen; omega
   have hap2 : (L.length + 1) * 64 <= 140737488355328 := by have := HLEN.out; omega
   have hap3 : B7 <= ((wr.alloc (.cells #[.string (bstr p)] 9)).alloc (.cells #[.string (bstr p), .slice (some ⟨wr.heap.size, 0, none⟩) 1 1, .slice ya yn yc] 65)).heap.size := by have := HW.out; simp; omega
   have HYQ := Bx.mk hyq;have HY := Bx.mk hy;clear hsf hrow3 hba hgn hwz hy hyq hR;go_wp2_with (at_builtin; refine wpList_append_any rfl _ _ _ rfl B7 65 iv _ 3 64 und_vers hiv hiv0 hiv1 hiv2 rfl (by decide) _ L.length (L.flatMap encV) rfl HOWN.out _ 1 ([y].flatMap encV) rfl HSRC.out hap1 hap2 hap3 ?_)
   intro v9 w9 hapd;have hown := Slc.Own.apd (m := [y]) HOWN.out rfl rfl rfl rfl hapd;have hgr := hapd.grown;have hblk := hapd.blk;obtain ⟨W3, hW3⟩ : ∃ W3, W3 = ((wr.alloc (.cells #[.string (bstr p)] 9)).alloc (.cells #[.string (bstr p), .slice (some ⟨wr.heap.size, 0, none⟩) 1 1, .slice ya yn yc] 65)) := ⟨_, rfl⟩
   rw [<- hW3] at HU HBA HZA hgr hblk;obtain ⟨a9, c9, rfl, -⟩ := hown.rd.form;have hvw : ∀ j, (Value.slice va L.length vc).ownBlock = some j -> B7 <= j /\ j < wr.heap.size := HVL.out
   have hb9 : ∀ j, j < wr.heap.size + 2 -> (Value.slice va L.length vc).ownBlock ≠ some j -> w9.heap[j]? = W3.heap[j]? := fun j hj hn => hgr.block j (by rw [HZA.out]; exact hj) (fun e => hn e.symm)
   have HR9 := Bx.mk (show w9.heap[c3]? = some (.cells #[.slice va L.length vc] 63 (0, 0)) by
    have h3 := lt_of_some HR3.out
    rw [hb9 c3 (by omega) (fun e => by have := (hvw c3 e).1; have := HC3N.out; omega), HBA.out.block c3 h3]; exact HR3.out)
   have hln : (L ++ [y]).length = L.length + 1 := by simp
   rw [hln] at hown hblk |-;clear hln;obtain ⟨V9, hV9⟩ : ∃ V9, V9 = Value.slice a9 (L.length + 1) c9 := ⟨_, rfl⟩
   rw [<- hV9] at hblk hown;obtain ⟨W10, hW10⟩ : ∃ W10, W10 = w9.setCell ⟨c3, 0, none⟩ V9 := ⟨_, rfl⟩
   have hR10 : W10.heap[c3]? = some (.cells #[V9] 63 (0, 0)) := by rw [hW10]; exact row_set HR9.out _
   have hO10 : ∀ j, j ≠ c3 -> W10.heap[j]? = w9.heap[j]? := fun j hj => by rw [hW10]; exact heap_setCell_other _ _ _ _ hj
   have hz10 : W10.heap.size = w9.heap.size := by rw [hW10]; simp
   have hz9 := hgr.size
   have HK10 := Bx.mk (show KB B7 c3 w7 W10 by
    refine hK.out.trans ((KB.of_below (HBA.out.mono HW.out)).trans ((kb_far hgr (by rw [HZA.out]; have := HW.out; omega) fun j hj => (hvw j hj).1).trans ?_))
    rw [hW10]; exact KB.set _ _ _ (by have := HW.out; rw [HZA.out] at hz9; omega))
   have HR10 := Bx.mk hR10;have hb93 : B7 <= c3 -> False := fun e => by have := HC3N.out; omega
   have HL10 := Bx.mk (show LvO w W10 B7 S V9 (L ++ [y]) from by
    refine ⟨hown.keep fun j hj _ => hO10 j (by have := (hown.lt j hj).1; have := HC3N.out; omega), fun x hx => ?_, fun x hx => ?_⟩
    ·rcases List.mem_append.1 hx with hx | hx
     ·have h1 := hL.out.u x hx
      have h2 : RdIn W10 (fun j => B7 <= j /\ (Value.slice va L.length vc).ownBlock ≠ some j) encS x.u.val x.n.ex := h1.keep (by rw [hz10]; have := HBA.out.size; omega) fun j hS hj => by
       rw [hO10 j (by have := hS.1; have := HC3N.out; omega), hb9 j (by omega) hS.2, HBA.out.block j hj]
      refine ⟨h2.1, fun j hj => ⟨(h2.2 j hj).1, fun e => ?_⟩⟩;rcases hblk with q | q
      ·rw [q] at e; exact (h2.2 j hj).2 e
      ·rw [q] at e;simp only [zO] at e
       have := h1.1.lt j hj;rw [HZA.out] at e;omega
     ·rw [zS] at hx;subst hx
      have hu : RdIn W10 (fun j => B7 <= j /\ V9.ownBlock ≠ some j) encS (.slice (some ⟨wr.heap.size, 0, none⟩) 1 1) [p] := by
       have h1 : RdIn W3 (fun j => j = wr.heap.size) encS (.slice (some ⟨wr.heap.size, 0, none⟩) 1 1) [p] := ⟨HU.out.rd, fun j hj => by simp only [Value.ownBlock, zO] at hj; exact hj.symm⟩;refine (h1.keep (w' := W10) (by rw [hz10]; exact hz9) fun j hS _ => ?_).mono fun j _ hS => ⟨by have := HW.out; omega, fun e => ?_⟩
       ·rw [hO10 j (by have := HW.out; have := HC3N.out; omega), hb9 j (by omega) (fun e => by have := (hvw j e).2; omega)]
       ·rcases hblk with q | q
        ·rw [q] at e; have := (hvw j e).2; omega
        ·rw [q] at e;simp only [zO] at e
         rw [HZA.out] at e;omega
      have e1 : x.u.val = .slice (some ⟨wr.heap.size, 0, none⟩) 1 1 := (by rw [HY.out]; rfl);have e2 : x.n.ex = [p] := (by rw [HY.out]; rfl);rw [e1, e2]; exact hu
    ·rcases List.mem_append.1 hx with hx | hx
     ·exact hL.out.q x hx
     ·rw [zS] at hx;subst hx;rw [HYQ.out, show x.n.par = h p by rw [HY.out]; rfl]
      exact HRS.out)
   have HV10 := Bx.mk (show vxs (L ++ [y]) = (ks.take (k + 1)).map (lvV h) by
    rw [HTK.out, <- hV.out, HY.out]; simp [vxs])
   have m9 := cell_of_row _ _ 0 _ _ _ HR9.out;have hf9 := frozen_row (i := 0) HR9.out;simp only [List.getElem?_toArray, List.getElem?_cons_zero, List.getElem?_cons_succ] at m9
   have hc9l := lt_of_some HR9.out;rw [<- hV9];rw [hV9] at hW10;have HW10 := Bx.mk hW10;have HVV := Bx.mk hV9;clear hV9 hW10 hown hgr hblk hvw hb9 hR10 hO10 hz10 hz9 hb93 hapd m3 hlook hap1 hap2 hap3;rw [HVV.out];go_wp2_with fail
   rw [<- HW10.out];go_roundw
   case rel => exact ⟨k + 1, V9, _, by omega, by go_num, HK10, HR10, HL10, HV10⟩
   case measure => simp [intOf]; omega
  ·obtain rfl : N = k := by omega
   have hr3 := hR.out;have m3 := cell_of_row _ _ 0 _ _ _ hr3;have hr2 := (hK.out.block c2 (by have := HC3.out; have := HC3N.out; omega) (by have := HC3.out; omega)).trans H27.out;have m2 := cell_of_row _ _ 0 _ _ _ hr2;simp only [List.getElem?_toArray, List.getElem?_cons_zero, List.getElem?_cons_succ] at m3 m2
   have hf2 := frozen_row (i := 0) hr2;obtain ⟨va, vc, hvf, -⟩ := hL.out.own.rd.form;rw [hvf] at m3;have hc2l := lt_of_some hr2;have HKK := Bx.mk hK.out;have HF2 := Bx.mk (show KB B7 c3 wr (wr.setCell ⟨c2, 0, none⟩ (.slice va L.length vc)) -> True from fun _ => trivial);obtain ⟨W9, hW9⟩ : ∃ W9, W9 = wr.setCell ⟨c2, 0, none⟩ (.slice va L.length vc) := ⟨_, rfl⟩
   have HO9 := Bx.mk (show ∀ j, j ≠ c2 -> W9.heap[j]? = wr.heap[j]? from fun j hj => by rw [hW9]; exact heap_setCell_other _ _ _ _ hj);have HZ9 := Bx.mk (show W9.heap.size = wr.heap.size by rw [hW9]; simp);have HE9 := Bx.mk (show W9.os = wr.os /\ W9.tape = wr.tape /\ W9.output = wr.output by rw [hW9]; exact ⟨rfl, rfl, rfl⟩);have HR9 := Bx.mk (show W9.heap[c2]? = some (.cells #[.slice va L.length vc] 63 (0, 0)) by rw [hW9]; exact row_set hr2 _);clear hr2 hr3 hK;go_wp2_with fail
   rw [<- hW9];refine bodyPost_ret (v := .agg #[.slice va L.length vc]) ?_ rfl ⟨_, L, rfl, ?_, ?_, ?_⟩
   ·exact results_cell_row rfl _ _ c2 63 _ (0, 0) _ rfl HR9.out Tryz.underlying63 rfl (by kernel_rfl)
   ·have hLo := hL.out;rw [hvf] at hLo;have hle : w.heap.size <= B7 := (by have := HBW7.out.size; have := HZ7.out; omega);have h2lt : c2 < B7 := (by have := HC3.out; have := HC3N.out; omega);have hbb : ∀ j, j < w.heap.size -> W9.heap[j]? = w.heap[j]? := fun j hj => (HO9.out j (by have := HC2.out; omega)).trans ((HKK.out.block j (by omega) (by have := HC3.out; have := HC2.out; omega)).trans ((HBW7.out.block j hj)))
    have hsz : w.heap.size <= W9.heap.size := (by rw [HZ9.out]; have := HKK.out.size; have := HZ7.out; omega);refine ⟨(hLo.own.keep fun j hj _ => HO9.out j (by have := (hLo.own.lt j hj).1; omega)).mono hle, fun x hx => ?_, fun x hx => ?_⟩
    ·exact ((hLo.u x hx).keep (by rw [HZ9.out]; exact zR _) fun j hS _ => HO9.out j (by have := hS.1; omega)).mono fun j _ hS => ⟨by have := hS.1; omega, hS.2⟩
    ·exact (hLo.q x hx).keep hsz fun j _ hj => hbb j hj
   ·rw [hV.out, HN.out, List.take_length]
   ·refine ⟨HE9.out.1.trans (HKK.out.os.trans HBW7.out.os), HE9.out.2.1.trans (HKK.out.tape.trans HBW7.out.tape), HE9.out.2.2.trans (HKK.out.output.trans HBW7.out.output), ?_, fun j hj => ?_⟩
    ·rw [HZ9.out]; have := HKK.out.size; have := HBW7.out.size; omega
    ·have := HBW7.out.size;have := HZ7.out;have := HC2.out;have := HC3.out;exact (HO9.out j (by omega)).trans ((HKK.out.block j (by omega) (by omega)).trans (HBW7.out.block j hj))
end Go.Proofs.YtmagjdocondmhaaGreat.Tr.Gr
