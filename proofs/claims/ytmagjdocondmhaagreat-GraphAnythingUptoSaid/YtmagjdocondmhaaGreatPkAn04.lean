/- packed -/
import Derived.Test.YtmagjdocondmhaaGreatPkAn03
import Derived.Deep.CutBlock
import Derived.Deep.DeepCutAuto
import Derived.Deep.QuietTactic
set_option linter.unusedVariables false
set_option linter.unusedSimpArgs false
set_option maxRecDepth 100000
set_option maxHeartbeats 64000000
namespace Go.Proofs.YtmagjdocondmhaaGreat.Tr
open Go Go.RowKit Go.Shelf Go.Sort Slc St Mp Rg
attribute [local go_sem] Oper.semAt_some
theorem valS1_in (F : Fence) (n : Nat) (hF : F.fn 109) (hro : F.round = none) (hn : 1 <= n) (l Bs n₀ b off cap : Nat) (zs : List B) (hlen : zs.length <= 1000000000) (J Jx : List B -> World -> Prop)
  (hY : ∀ pre x W, J pre W -> pre.length < zs.length -> YieldAt F (n - 1) Tryz.prog l #[.string (bstr x)] W fun e W' =>
   (e = .returned (.bool true) /\ J (pre ++ [x]) W' /\ Below n₀ W W') \/ (e = .returned (.bool false) /\ Jx (pre ++ [x]) W'))
  (W : World) (hBs : W.cell? ⟨Bs, 0, none⟩ = some (.slice (some ⟨b, off, none⟩) zs.length cap)) (hc : ∀ W', Below n₀ W W' -> ∀ j (h : j < zs.length), W'.cell? ⟨b, off + j, none⟩ = some (.string (bstr zs[j]))) (h0 : J [] W) :
  CallsIn F n Tryz.prog 109 #[.func (.yield l) #[] #[], .pointer (some ⟨Bs, 0, none⟩)] W fun e W' => (∃ v, e = .returned v) /\
   ((∃ ys, ys = zs /\ J ys W') \/ (∃ pre, (∃ k, k <= zs.length /\ pre = zs.take k) /\ Jx pre W')) := by
 have HC := Lib.hid hc;clear hc;refine callsIn_of_wp Tryz.func109 rfl hF ?_ hro;simp only [Tryz.ntmps109, List.size_toArray, List.length_cons, List.length_nil, Nat.reduceAdd, Nat.reduceSub, Array.replicate_succ, Array.replicate_zero, List.push_toArray, List.append_toArray, List.nil_append, List.cons_append]
 gi_wp2
 gi_loopw [7] (fun i wr => ∃ k : Nat, k <= zs.length /\ i = .int .i64 (k : Int) /\ J (zs.take k) wr /\ Below n₀ W wr)
  (fun i _ => zs.length - (intOf i).toNat)
 case atStart => exact ⟨0, by omega, rfl, by simpa using h0, Below.refl _ _⟩
 case round =>
  obtain ⟨k, hk, rfl, hJs, hnx⟩ := hrel;have HNX := Lib.hid hnx;by_cases hlt : k < zs.length
  ·have hx := HC.out wr hnx k hlt;have hsucc : zs.take (k + 1) = zs.take k ++ [zs[k]] := zA hlt;obtain ⟨x, hxx⟩ : ∃ x, x = zs[k] := ⟨_, rfl⟩
   rw [<- hxx] at hx hsucc;have HS := Lib.hid hsucc;obtain ⟨fn, tmps, assign, body, hy, hR⟩ := hY _ x wr hJs (by rw [List.length_take]; omega);rw [<- hsucc] at hR;clear hnx hsucc hxx hBs
   gi_wp2
   refine hR.mono ?_;rintro e W3 (⟨rfl, hJ3, hk3⟩ | ⟨rfl, hJx3⟩)
   ·gi_wp2
    go_roundw
    case rel => exact ⟨k + 1, by omega, by go_num, hJ3, HNX.out.trans hk3⟩
    case measure => simp [intOf]; omega
   ·gi_wp2
    refine bodyPost_ret (results_none rfl _ _ _) rfl ?_;exact ⟨⟨_, rfl⟩, .inr ⟨_, ⟨k + 1, by omega, rfl⟩, hJx3⟩⟩
  ·obtain rfl : k = zs.length := by omega
   rw [List.take_length] at hJs;clear hnx hBs
   gi_wp2
   go_end0
   exact ⟨⟨_, rfl⟩, .inl ⟨_, rfl, hJs⟩⟩
theorem valS1_nil_in (F : Fence) (n : Nat) (hF : F.fn 109) (hro : F.round = none) (l Bs : Nat) (c : Nat) (a : Option Addr) (J : List B -> World -> Prop) (W : World) (hBs : W.cell? ⟨Bs, 0, none⟩ = some (.slice a 0 c)) (h0 : J [] W) :
  CallsIn F n Tryz.prog 109 #[.func (.yield l) #[] #[], .pointer (some ⟨Bs, 0, none⟩)] W fun e W' => (∃ v, e = .returned v) /\ J [] W' := by
 refine callsIn_of_wp Tryz.func109 rfl hF ?_ hro;simp only [Tryz.ntmps109, List.size_toArray, List.length_cons, List.length_nil, Nat.reduceAdd, Nat.reduceSub, Array.replicate_succ, Array.replicate_zero, List.push_toArray, List.append_toArray, List.nil_append, List.cons_append]
 gi_wp2
 gi_loopw [7] (fun i wr => i = .int .i64 0 /\ J [] wr) (fun _ _ => 0)
 case atStart => exact ⟨rfl, h0⟩
 case round =>
  obtain ⟨rfl, hJs⟩ := hrel
  gi_wp2
  go_end0
  exact ⟨⟨_, rfl⟩, hJs⟩
theorem valS_any (a : Option Addr) (len cap : Nat) (w : World) :
  Calls Tryz.prog 72 #[.slice a len cap] w fun e w' => e = .returned (.func (.func 109) #[] #[.pointer (some ⟨w.heap.size, 0, none⟩)]) /\ w' = w.alloc (.cells #[.slice a len cap] 34) := by
 go_enter Tryz.func72, Tryz.ntmps72;go_wp2
 go_ret;exact ⟨rfl, rfl⟩
theorem valS_stops (F : Fence) (n : Nat) (hF : F.fn 109) (hro : F.round = none) (hn : 1 <= n) (Bs n₀ : Nat) (sv : Value) (zs : List B) (hlen : zs.length <= 1000000000) (w : World) (hBs0 : Bs < n₀) (hn₀ : n₀ <= w.heap.size)
  (hc : w.cell? ⟨Bs, 0, none⟩ = some sv) (hI : ∃ w0, Rd w0 encS sv zs /\ w0.heap.size <= n₀ /\ Below w0.heap.size w0 w) :
  SeqStopsK F n Tryz.prog 109 #[.pointer (some ⟨Bs, 0, none⟩)] (fun x : B => #[Value.string (bstr x)]) (Below n₀) (fun ys => ys = zs)
   (fun pre => ∃ k, k <= zs.length /\ pre = zs.take k) zs.length w := fun l J Jx W hW _ _ hY h0 => by
 have hc' := (hW.cell (p := ⟨Bs, 0, none⟩) (Nat.lt_of_lt_of_le hBs0 hn₀)).trans hc;obtain ⟨w0, hrd, hw0, hbw⟩ := hI;rcases Nat.eq_zero_or_pos zs.length with hz | hp
 ·obtain rfl : zs = [] := List.eq_nil_of_length_eq_zero hz;obtain ⟨a, c, rfl, -⟩ := hrd.form;exact (valS1_nil_in F n hF hro l Bs c a J W hc' h0).mono fun e W' ⟨he, hj⟩ => ⟨he, .inl ⟨_, rfl, hj⟩⟩
 ·obtain ⟨b, o, c, hv, _, hlt, hcell⟩ := hrd.cells encS_ok hp;subst hv;refine valS1_in F n hF hro hn l Bs n₀ b o c zs hlen J Jx hY W hc' (fun W' hW' j hj => ?_) h0;have hb2 : Below w0.heap.size w0 W' := hbw.trans ((hW.mono hbw.size).trans (hW'.mono hw0));have q := hcell W' (fun k hk => by cases hk; exact hb2.block b hlt) j hj 0 _ (by omega) rfl;rw [Nat.mul_one, Nat.add_zero] at q;exact q
theorem encS_str (l : List B) : l.flatMap encS = l.map encStr := by
 induction l with
 | nil => rfl
 | cons x l ih => simp [encS, List.flatMap_cons, ih, encStr, bstr]
theorem apS_any (w : World) (Bs : Nat) (sv : Value) (zs : List B) (hlen : zs.length <= 1000000) (hBs : Bs < w.heap.size) (hc : w.cell? ⟨Bs, 0, none⟩ = some sv) (hI : ∃ w0, Rd w0 encS sv zs /\ w0.heap.size <= w.heap.size /\ Below w0.heap.size w0 w) :
  Calls Tryz.prog 121 #[.slice none 0 0, .func (.func 109) #[] #[.pointer (some ⟨Bs, 0, none⟩)]] w fun e w' => ∃ v, e = .returned v /\ Slc.Own w' w.heap.size 9 1 encS v zs /\ Below w.heap.size w w' := by
 obtain ⟨i0, hi0, hz0, hz1, hz2⟩ := info_parts info_str;obtain ⟨p, hp⟩ : ∃ p, p = w.heap.size := ⟨_, rfl⟩
 have HP := Bx.mk hp;obtain ⟨W1, hW1⟩ : ∃ W1, W1 = w.alloc (.cells #[.slice none 0 0] 34) := ⟨_, rfl⟩
 have HB0 := Bx.mk (show Below p w W1 by rw [hW1, hp]; exact (Below.refl _ _).alloc (zR _) _);have HR0 := Bx.mk (show W1.heap[p]? = some (.cells #[.slice none 0 0] 34 (0, 0)) by rw [hW1]; exact Rg.alloc_at hp);have HZ := Bx.mk (show W1.heap.size = p + 1 by rw [hW1, hp]; simp);have HI := Bx.mk hI;have HC := Bx.mk (show W1.cell? ⟨Bs, 0, none⟩ = some sv from (HB0.out.cell (p := ⟨Bs, 0, none⟩) (by rw [hp]; exact hBs)).trans hc);rw [<- hp] at hBs;have HBS := Bx.mk hBs;clear hI hc hBs;refine (callsIn_wide (n := 6)).1 (callsIn_of_wp_marks Tryz.func121 rfl trivial (wpIn_wide.2 ?_) rfl);simp only [Tryz.ntmps121, List.size_toArray, List.length_cons, List.length_nil, Nat.reduceAdd, Nat.reduceSub, Array.replicate_succ, Array.replicate_zero, List.push_toArray, List.append_toArray, List.nil_append, List.cons_append]
 go_wp2
 rw [<- hp, <- hW1];clear hp hW1
 refine wpIn_wide.1 (rf_H (F := Fence.wide) (n := 6) rfl (by omega) (gf := 109) (lb := #[.pointer (some ⟨Bs, 0, none⟩)]) rfl trivial (enters_of Tryz.func109 (by kernel_rfl) rfl)
  (valS_stops Fence.wide 5 trivial rfl (by omega) Bs p sv zs (by omega) W1 HBS.out (by have := HZ.out; omega) HC.out (by
   obtain ⟨w0, h1, h2, h3⟩ := HI.out
   exact ⟨w0, h1, by rw [HP.out]; exact h2, h3.trans (HB0.out.mono (by rw [HP.out]; exact h2))⟩)) belowK_t (belowK_b (by have := HZ.out; omega)) (Below.refl _ _) (fun _ => rfl)
  (fun pre W => (∃ v, W.heap[p]? = some (.cells #[v] 34 (0, 0)) /\ Slc.Own W (p + 1) 9 1 encS v pre) /\ Below p w W)
  (fun _ _ _ => False)
  (OwnFrom.and (fun s A B row h hg hr => by obtain ⟨v, h1, h2⟩ := h; exact ⟨v, cells_kept h1 hg hr, own_kept h2 hg hr⟩) (ownFrom_below (by have := HP.out; omega) (by have := HZ.out; omega)))
  (fun c s A B row h hg hr => h)
  ⟨⟨_, HR0.out, Slc.Own.nil _ _⟩, HB0.out⟩
  (fun a x a' W => a' = { tmps := (a.tmps.setIfInBounds 7 (.string (bstr x))).setIfInBounds 5 (.string (bstr x)), defers := [] })
  (fun x a' s A B row h hg hr => h)
  ?assign ?body ?done ?stop)
 case assign =>
  rintro l' pre x W K' hI hK
  gi_wp2
  exact hK _ _ (KeepsFrom.refl _ _) (Below.refl _ _) hI rfl
 case body =>
  rintro l' pre x a' W hl' hr ⟨⟨v, h1, h2⟩, hB⟩ rfl hlt;simp only [List.setIfInBounds_toArray, List.set_cons_succ, List.set_cons_zero]
  have hc0 := cell_of_row _ _ 0 _ _ _ h1;simp only [List.getElem?_toArray, List.getElem?_cons_zero] at hc0
  have hpl := lt_of_at h1;obtain ⟨av, cv, rfl, -⟩ := h2.rd.form;have hpk : ∀ (o : Obj) (w3 : World), (W.alloc o).grownBy w3 (Value.slice av pre.length cv).ownBlock -> w3.heap[p]? = some (.cells #[.slice av pre.length cv] 34 (0, 0)) := fun o w3 hg => (hg.block p (by simp; omega) (fun e => by have := (h2.lt p e.symm).1; omega)).trans (Rg.alloc_keep h1)
  have H2 := Bx.mk h2;have HB := Bx.mk hB;have HLT := Bx.mk hlt;have HPL := Bx.mk hpl;have HPK := Bx.mk hpk;clear h1 h2 hB hlt hpk;have hen : encS x = [.string (bstr x)] := rfl
  gi_wp2_with (gi_at_builtin; refine wpListIn_append_own _ rfl _ _ 34 rfl (p + 1) 9 i0 (.string ⟨#[]⟩) 1 16 und_strs hi0 hz0 hz1 hz2 rfl (by decide) _ _ _ rfl (H2.out.alloc _) ⟨W.heap.size, 0, none⟩ 1 1 [.string (bstr x)] rfl rfl (cell_one_new _ _ _) (by simp [Value.oneCell']) (by have := HLT.out; unfold maxLen; omega) (by have := HLT.out; omega) (by have := HPL.out; simp; omega) ?_; intro v' w3 hown' hg3 hnil3; obtain ⟨g', cap', rfl⟩ := ownsRow_succ hown'; have hp3 := HPK.out _ _ hg3; have hz3 := frozen_row (i := 0) hp3; have hcc3 := cell_of_row _ _ 0 _ _ _ hp3; simp only [List.getElem?_toArray, List.getElem?_cons_zero] at hcc3)
  have hsz3 := hg3.size;have hpl := HPL.out;simp only [World.size_alloc] at hsz3
  have hOW : Slc.Own w3 (p + 1) 9 1 encS (.slice (some ⟨g', 0, none⟩) (pre.length + 1) cap') (pre ++ [x]) := Slc.Own.of hown' (by simp) (by rw [List.flatMap_append]; rfl);have hbw : Below p W w3 := ((Below.refl p W).alloc (by omega) _).grown hg3 (by simp; omega) (fun k hk => by have := (H2.out.lt k hk).1; omega);refine ⟨(((KeepsOthers.alloc _ _).from _).trans ((KeepsOthers.of_grownBy hg3 (fun j o hj ho => own_cells (H2.out.alloc _) j o hj ho)).from _)).trans ((KeepsOthers.setCell _ _ _).from _), hbw.setCell (zR _) _, ⟨_, row_set hp3 _, ?_⟩, (HB.out.trans hbw).setCell (zR _) _⟩;refine hOW.keep fun k hk hlt => heap_setCell_other _ _ _ _ fun e => ?_
  have e : k = p := e;have := (hOW.lt k hk).1;omega
 case done =>
  rintro D ys W hD rfl ⟨⟨v, h1, h2⟩, hB⟩ hK;have hc0 := cell_of_row _ _ 0 _ _ _ h1;simp only [List.getElem?_toArray, List.getElem?_cons_zero] at hc0
  obtain ⟨av, cv, rfl, -⟩ := h2.rd.form;have H2 := Bx.mk h2;have HB := Bx.mk hB;clear h1 h2 hB;go_wp2
  refine ⟨by simp, .inl ⟨_, _, rfl, run_takeDeferred hK, ?_⟩⟩;refine ⟨_, results_tmp rfl _ _ _, _, rfl, ?_, ?_⟩
  ·exact (own_kept (B0 := 0) H2.out (grownBy_putObj' _ D _) (fun r hr => by cases hr; exact ⟨by omega, _, hK, rfl⟩)).mono (by have := HP.out; omega)
  ·rw [<- HP.out];exact HB.out.trans (belowK_b (w := W1) (by have := HZ.out; omega) W D _ _ hD hK rfl rfl)
 case stop =>
  rintro D c pre W hD hS hF;exact hF.elim
end Go.Proofs.YtmagjdocondmhaaGreat.Tr
namespace Go.Proofs.YtmagjdocondmhaaGreat.Tr
open Go Go.RowKit Go.Shelf Go.Sort Slc St Mp Rg
attribute [local go_sem] Oper.semAt_some
theorem compact_mem (zs : List B) (x : B) : x ∈ Lib.compact zs ↔ x ∈ zs := by
 unfold Lib.compact Lib.compactUpTo;rw [List.mem_map];constructor
 ·rintro ⟨i, hi, rfl⟩;rw [List.mem_filter, List.mem_range] at hi;rw [getElem!_pos zs.toArray i (by simpa using hi.1)];simp
 ·intro h;obtain ⟨j, hj, rfl⟩ := List.getElem_of_mem h
  have key : ∀ j (hj : j < zs.length), ∃ a ∈ (List.range zs.length).filter (Lib.keeps zs.toArray), zs.toArray[a]! = zs[j] := by
   intro j
   induction j with
   | zero =>
    intro hj
    exact ⟨0, List.mem_filter.2 ⟨List.mem_range.2 hj, by simp [Lib.keeps]⟩, by rw [getElem!_pos zs.toArray 0 (by simpa using hj)]; simp⟩
   | succ j ih =>
    intro hj;have e1 : zs.toArray[j + 1]! = zs[j + 1] := (by rw [getElem!_pos zs.toArray _ (by simpa using hj)]; simp);have e0 : zs.toArray[j]! = zs[j] := (by rw [getElem!_pos zs.toArray _ (by simp; omega)]; simp);by_cases q : Lib.keeps zs.toArray (j + 1) = true
    ·exact ⟨j + 1, List.mem_filter.2 ⟨List.mem_range.2 hj, q⟩, e1⟩
    ·obtain ⟨a, ha, he⟩ := ih (by omega);refine ⟨a, ha, he.trans ?_⟩;unfold Lib.keeps at q;rw [decide_eq_true_eq] at q;have : zs.toArray[j + 1]! = zs.toArray[j]! := Classical.byContradiction fun h => q (.inr h)
     rw [e1, e0] at this;exact this.symm
  exact key j hj
theorem compact_asc {zs : List B} (h : zs.Pairwise fun x y => ¬ y < x) : Asc (Lib.compact zs) := by
 unfold Lib.compact Lib.compactUpTo Asc;rw [List.pairwise_map]
 have hle : ∀ i j, i <= j -> j < zs.length -> ¬ zs.toArray[j]! < zs.toArray[i]! := by
  intro i j hij hj;rw [getElem!_pos zs.toArray j (by simpa using hj), getElem!_pos zs.toArray i (by simp; omega)];simp only [List.getElem_toArray]
  by_cases e : i = j
  ·subst e; exact ltB_irr _
  ·exact List.pairwise_iff_getElem.1 h i j (by omega) hj (by omega)
 have hp : ((List.range zs.length).filter (Lib.keeps zs.toArray)).Pairwise (· < ·) := List.Pairwise.filter _ List.pairwise_lt_range
 have hm : ∀ j ∈ (List.range zs.length).filter (Lib.keeps zs.toArray), j < zs.length /\ Lib.keeps zs.toArray j = true := fun j hj => by
  rw [List.mem_filter, List.mem_range] at hj; exact hj
 refine List.Pairwise.imp_of_mem ?_ hp;intro i j hi hj hij;obtain ⟨h1, h2⟩ := hm j hj;unfold Lib.keeps at h2;rw [decide_eq_true_eq] at h2;have h3 : zs.toArray[j - 1]! < zs.toArray[j]! := ltB_or (hle (j - 1) j (by omega) h1) (by rcases h2 with h2 | h2; omega; exact h2);by_cases e : i = j - 1
 ·rw [e]; exact h3
 ·have h4 := hle i (j - 1) (by omega) (by omega);by_cases q : zs.toArray[i]! = zs.toArray[j - 1]!
  ·rw [q]; exact h3
  ·exact ltB_tr (ltB_or h4 (fun e => q e.symm)) h3
theorem sorted_pair (l : List B) : (l.mergeSort fun x y => decide (x <= y)).Pairwise fun x y => ¬ y < x := by
 have h := List.pairwise_mergeSort (le := fun x y : B => decide (x <= y)) (fun a b c h1 h2 => by
  rw [decide_eq_true_eq] at h1 h2 |-; exact List.le_trans h1 h2) (fun a b => by
  rw [Bool.or_eq_true, decide_eq_true_eq, decide_eq_true_eq]; exact List.le_total a b) l
 exact h.imp fun {a b} h => (leB_iff a b).1 (by simpa using h)
theorem compact_sort (l : List B) : Lib.compact (l.mergeSort fun x y => decide (x <= y)) = setB l :=
 setB_eq (compact_asc (sorted_pair l)) fun x => by rw [compact_mem, List.mem_mergeSort]
theorem holds_strs {w : World} {Bk g n cap : Nat} {l : List B} (h : Slc.Own w Bk 9 1 encS (.slice (some ⟨g, 0, none⟩) n cap) l) : Holds encStr w g 0 l.toArray := by
 intro i hi;have hi' : i < l.length := by simpa using hi
 have h1 := Slc.Own.cell encS_ok h i hi' 0 (by omega) _ rfl;rw [Nat.mul_one, Nat.add_zero] at h1;refine ⟨?_, ?_⟩
 ·rw [Nat.zero_add, h1, getElem!_pos l.toArray i hi]; simp [bstr]
 ·rcases h.2 with ⟨h0, hn⟩ | ⟨g', cap', cur, hv, _, hb, _⟩
  ·simp at h0
  ·simp only [Value.slice.injEq, zO, Addr.mk.injEq] at hv
   obtain ⟨⟨rfl, -⟩, -⟩ := hv;simp [World.frozen?, hb]
theorem own_put {w W : World} {Bk g n cap m k : Nat} {os : Array Obj} {l d : List B} (h : Slc.Own w Bk 9 1 encS (.slice (some ⟨g, 0, none⟩) n cap) l) (hs : d.length = l.length) (hk : k <= d.length) (hS : W = grow (putRow encStr (Sort.ahead w m) g 0 d.toArray) os) :
  Slc.Own W Bk 9 1 encS (.slice (some ⟨g, 0, none⟩) k cap) (d.take k) /\ w.grownBy W (some g) := by
 subst hS;rcases h.2 with ⟨h0, hn⟩ | ⟨g', cap', cur, hv, hB, hb, hc, hm, hcs, ht⟩
 ·simp at h0
 simp only [Value.slice.injEq, zO, Addr.mk.injEq] at hv
 obtain ⟨⟨rfl, -⟩, rfl, rfl⟩ := hv;have hg : g < w.heap.size := lt_of_some hb
 have hheap : (grow (putRow encStr (Sort.ahead w m) g 0 d.toArray) os).heap[g]? = some (.cells (putCells encStr 0 d.toArray cur) 9 (0, 0)) := by
  unfold putRow;rw [heap_grow_old _ _ (by simpa [mapBlock] using hg)];simp [mapBlock, Sort.ahead, Array.getElem?_modify, hb, onCells]
 have hlk : (d.take k).length = k := by rw [List.length_take]; omega
 refine ⟨⟨by rw [flat_len encS_ok, hlk], .inr ⟨g, cap, putCells encStr 0 d.toArray cur, by rw [hlk], hB, hheap, by rw [hlk]; omega, hm, by simp [putCells, hcs], ?_⟩⟩, ⟨rfl, rfl, rfl, by simp [putRow, mapBlock], fun j hj hne => ?_⟩⟩
 ·rw [hlk, Nat.mul_one];apply List.ext_getElem?
  intro j;rw [encS_str];by_cases hj : j < k
  ·rw [List.getElem?_take_of_lt hj, List.getElem?_map, List.getElem?_take_of_lt hj, Array.getElem?_toList];have h1 : j < cur.size := by omega
   have h2 : j < d.length := by omega
   simp [putCells, h1, h2]
  ·rw [List.getElem?_take_eq_none (by omega), List.getElem?_eq_none (by simp; omega)]
 ·unfold putRow;rw [heap_grow_old _ _ (by simpa [mapBlock] using hj)];have : g ≠ j := fun e => hne (by rw [e])
  simp [mapBlock, Sort.ahead, Array.getElem?_modify, this]
theorem sortS_any (w : World) (Bk : Nat) (v : Value) (l : List B) (h : Slc.Own w Bk 9 1 encS v l) (hn : l.length <= 1000000) :
  Calls Tryz.prog 104 #[v] w fun e w' => e = .returned (.tuple #[]) /\ Slc.Own w' Bk 9 1 encS v (l.mergeSort fun x y => decide (x <= y)) /\ w.grownBy w' v.ownBlock := by
 obtain ⟨ad, c, rfl, -⟩ := h.rd.form;rcases Nat.eq_zero_or_pos l.length with h0 | hp
 ·obtain rfl : l = [] := List.eq_nil_of_length_eq_zero h0;refine (AnyM.slices_Sort_string_none Tryz.sortA ad c w).mono ?_;rintro e w' ⟨rfl, rfl⟩;exact ⟨rfl, by simpa using h, rfl, rfl, rfl, zR _, fun _ _ _ => rfl⟩
 ·have h' := h;rcases h'.2 with ⟨_, hn0⟩ | ⟨g, cap, cur, hv, hB, hb, -⟩
  ·omega
  simp only [Value.slice.injEq] at hv
  obtain ⟨rfl, -, rfl⟩ := hv;refine (AnyM.slices_Sort_string Tryz.sortA g 0 c l w (holds_strs h) (lt_of_some hb) (by omega)).mono ?_;rintro e w' ⟨rfl, m, os, hW⟩;have hl : (l.mergeSort fun x y => decide (x <= y)).length = l.length := List.length_mergeSort _;have := own_put (k := l.length) h hl (by omega) hW;rw [List.take_of_length_le (by omega)] at this;exact ⟨rfl, this⟩
theorem compS_any (w : World) (Bk : Nat) (v : Value) (l : List B) (h : Slc.Own w Bk 9 1 encS v l) (hn : l.length <= 1000000) :
  Calls Tryz.prog 71 #[v] w fun e w' => ∃ v', e = .returned v' /\ Slc.Own w' Bk 9 1 encS v' (Lib.compact l) /\ w.grownBy w' v.ownBlock := by
 obtain ⟨ad, c, rfl, hlc⟩ := h.rd.form;rcases Nat.eq_zero_or_pos l.length with h0 | hp
 ·obtain rfl : l = [] := List.eq_nil_of_length_eq_zero h0;refine (Any.slices_Compact_string_empty Tryz.lays194 ad c w).mono ?_;rintro e w' ⟨rfl, rfl⟩;exact ⟨_, rfl, by simpa [Lib.compact, Lib.compactUpTo] using h, rfl, rfl, rfl, zR _, fun _ _ _ => rfl⟩
 ·have h' := h;rcases h'.2 with ⟨_, hn0⟩ | ⟨g, cap, cur, hv, hB, hb, -⟩
  ·omega
  simp only [Value.slice.injEq] at hv
  obtain ⟨rfl, -, rfl⟩ := hv;refine (Any.slices_Compact_string Tryz.lays194 g 0 c l w (holds_strs h) (by omega) hlc).mono ?_;rintro e w' ⟨rfl, q, hW⟩
  have hcl : (Lib.compact l).length <= l.length := by
   unfold Lib.compact Lib.compactUpTo;rw [List.length_map];exact Nat.le_trans (List.length_filter_le _ _) (by simp)
  have := own_put (W := w') (k := (Lib.compact l).length) (os := #[]) (m := q) (d := Lib.compact l ++ List.replicate (l.length - (Lib.compact l).length) []) h (by rw [List.length_append, List.length_replicate]; omega) (by rw [List.length_append]; omega) (by rw [grow_empty]; exact hW);rw [List.take_left'  rfl] at this;exact ⟨_, rfl, this⟩
theorem sortedV_any (w : World) (Bs : Nat) (sv : Value) (zs : List B) (hlen : zs.length <= 1000000) (hBs : Bs < w.heap.size) (hc : w.cell? ⟨Bs, 0, none⟩ = some sv) (hI : ∃ w0, Rd w0 encS sv zs /\ w0.heap.size <= w.heap.size /\ Below w0.heap.size w0 w) :
  Calls Tryz.prog 63 #[.func (.func 109) #[] #[.pointer (some ⟨Bs, 0, none⟩)]] w fun e w' => ∃ v, e = .returned v /\ Slc.Own w' w.heap.size 9 1 encS v (zs.mergeSort fun x y => decide (x <= y)) /\ Below w.heap.size w w' := by
 have h1 := apS_any w Bs sv zs hlen hBs hc hI
 have h2 : Calls Tryz.prog 103 #[.func (.func 109) #[] #[.pointer (some ⟨Bs, 0, none⟩)]] w fun e w' => ∃ v, e = .returned v /\ Slc.Own w' w.heap.size 9 1 encS v zs /\ Below w.heap.size w w' := by
  clear hI hc hBs;go_enter Tryz.func103, Tryz.ntmps103;go_wp2_with (go_at_call 121; refine h1.mono ?_; rintro e w' ⟨v, rfl, ho, hb⟩; obtain ⟨av, cv, rfl, -⟩ := ho.rd.form)
  go_ret;exact ⟨_, rfl, ho, hb⟩
 clear h1 hI hc hBs;go_enter Tryz.func63, Tryz.ntmps63;go_wp2_with fail
 go_at_call 103;refine h2.mono ?_;rintro e w1 ⟨v, rfl, ho, hb⟩;have h3 := sortS_any w1 w.heap.size v zs ho hlen;obtain ⟨av, cv, rfl, -⟩ := ho.rd.form;clear h2;go_wp2_with fail
 go_at_call 104;refine h3.mono ?_;rintro e w2 ⟨rfl, ho2, hg2⟩;go_wp2_with fail
 go_ret;exact ⟨_, rfl, ho2, hb.grown hg2 hb.size fun k hk => (ho.lt k hk).1⟩
end Go.Proofs.YtmagjdocondmhaaGreat.Tr
namespace Go.Proofs.YtmagjdocondmhaaGreat.Tr
open Go Go.RowKit Slc St Mp
attribute [local go_sem] Oper.semAt_some
theorem u_str : Tryz.prog.underlying 9 = some .string := Tryz.underlying9
theorem u_mapSB : Tryz.prog.underlying 98 = some (.map 9 4) := Tryz.underlying98
noncomputable abbrev kS : Ky Tryz.prog 9 (List UInt8) := kyStr u_str
theorem src_str (w : World) (x : B) : SrcV (w.alloc (.cells #[.string (bstr x)] 9)) 1 (.slice (some ⟨w.heap.size, 0, none⟩) 1 1) 1 ([x].flatMap encS) := by
 refine .ro _ _ _ _ (by simp [encS]) (fun j u hj => ?_) (fun u hu => ?_)
 ·rw [add_at];have e : ([x].flatMap encS) = [.string (bstr x)] := by simp [encS]
  rw [e] at hj;unfold World.cell?;rw [heap_alloc_new];simp only [Nat.zero_add]
  simpa using hj
 ·rw [List.mem_flatMap] at hu;obtain ⟨y, -, hy⟩ := hu;exact encS_ok.one y u hy
structure GS (W : World) (Bk : Nat) (wr : World) (v : Value) (l : List B) : Prop where
 own : Slc.Own wr Bk 9 1 encS v l
 bel : Below Bk W wr
 le : Bk <= W.heap.size
theorem GS.nil (W : World) (Bk : Nat) (h : Bk <= W.heap.size) : GS W Bk W (.slice none 0 0) [] := ⟨Slc.Own.nil _ _, Below.refl _ _, h⟩
theorem GS.sz {W wr : World} {Bk : Nat} {v : Value} {l : List B} (h : GS W Bk wr v l) : Bk <= wr.heap.size := Nat.le_trans h.le h.bel.size
theorem GS.below {W wr w1 : World} {Bk : Nat} {v : Value} {l : List B} (h : GS W Bk wr v l) (hb : Below wr.heap.size wr w1) : GS W Bk w1 v l := ⟨h.own.below hb, h.bel.trans (hb.mono h.sz), h.le⟩
theorem GS.form {W wr : World} {Bk : Nat} {v : Value} {l : List B} (h : GS W Bk wr v l) : ∃ ad c, v = .slice ad l.length c /\ l.length <= c := h.own.rd.form
theorem GS.apd {W wr w' : World} {Bk : Nat} {v v' : Value} {l m : List B} (h : GS W Bk wr v l) (h' : Apd wr Bk 9 1 v l.length m.length (l.flatMap encS) (m.flatMap encS) v' w') : GS W Bk w' v' (l ++ m) :=
 ⟨h.own.apd rfl rfl rfl rfl h', h.bel.grown h'.grown h.sz fun k hk => (h.own.lt k hk).1, h.le⟩
end Go.Proofs.YtmagjdocondmhaaGreat.Tr
namespace Go.Proofs.YtmagjdocondmhaaGreat.Tr
open Go Go.RowKit Slc St Mp
attribute [local go_sem] Oper.semAt_some
end Go.Proofs.YtmagjdocondmhaaGreat.Tr
namespace Go.Proofs.YtmagjdocondmhaaGreat.Tr
open Go Go.RowKit Slc St
attribute [local go_sem] Oper.semAt_some
theorem rasc_q (w : World) (v : Value) (l : List B) (h : Rq w v l) (hn : l.length <= 1000000) : Calls Tryz.prog 45 #[v] w fun e w' => e = .returned (.bool (ascB l)) /\ Below w.heap.size w w' := by
 obtain ⟨ad, c, rfl, hc0⟩ := h.form;obtain ⟨-, hcell⟩ := strs_cells_q h;have HC := Bx.mk hcell;obtain ⟨R, hR⟩ : ∃ R, R = ascB l := ⟨_, rfl⟩
 rw [<- hR];have HR := Bx.mk hR;obtain ⟨N, hN⟩ : ∃ N, N = l.length := ⟨_, rfl⟩
 have HN := Bx.mk hN;have hNb : N <= 1000000 := by omega
 rw [<- hN];clear hcell hR hN h hc0 hn;go_enter Tryz.func45, Tryz.ntmps45;go_wp2
 go_loopw [3] (fun iv wr => ∃ i : Nat, iv = .int .i64 (i : Nat) /\ 1 <= i /\ i <= N + 1 /\ Bx (∀ k (hk : k + 1 < l.length), k + 1 < i -> l[k] < l[k + 1]) /\ Below w.heap.size w wr) (fun iv _ => N + 1 - (intOf iv).toNat)
 case atStart => exact ⟨1, rfl, by omega, by omega, ⟨fun k hk h => by omega⟩, Below.refl _ _⟩
 case round =>
  obtain ⟨i, rfl, h1, h2, hB, hbel⟩ := hrel;by_cases hlt : i < N
  ·obtain ⟨j, rfl⟩ : ∃ j, i = j + 1 := ⟨i - 1, by omega⟩
   have hj1 : j + 1 < l.length := by rw [<- HN.out]; exact hlt
   obtain ⟨b, o, rfl, hbl, hx⟩ := HC.out wr hbel j (by omega);obtain ⟨b', o', hbo, -, hy⟩ := HC.out wr hbel (j + 1) hj1;simp only [zO, Addr.mk.injEq, and_true] at hbo
   obtain ⟨rfl, rfl⟩ := hbo;have l1 := less_bytes l[j] l[j + 1];have l2 := less_bytes l[j + 1] l[j];have l3 := same_bytes l[j] l[j + 1];have HBEL := Bx.mk hbel;have wj : IntKind.i64.wrap (((j + 1 : Nat) : Int) - 1) = (j : Int) := by rw [IntWalk.i64_in _ (by omega)]; omega
   have ej : ((j : Int) + 1).toNat = j + 1 := by omega
   by_cases hc : l[j] < l[j + 1]
   ·rw [zT hc] at l1;rw [zF (List.lt_asymm hc)] at l2
    have HX := Bx.mk (show ∀ k (hk : k + 1 < l.length), k + 1 < j + 1 + 1 -> l[k] < l[k + 1] by
     intro k hk hkj;rcases Nat.lt_or_ge (k + 1) (j + 1) with q | q
     ·exact hB.out k hk q
     ·obtain rfl : k = j := by omega
      exact hc)
    rw [zF (fun e => by rw [e] at hc; exact List.lt_irrefl _ hc)] at l3;generalize bstr l[j] = X at *;generalize bstr l[j + 1] = Y at *;clear hbel hc;go_wp2_with fail
    go_quiet (fail)
    go_wp2_with fail
    go_roundw
    case rel => exact ⟨j + 2, by go_num, by omega, by omega, HX, below_drawn HBEL.out _⟩
    case measure => simp [intOf]; omega
   ·rw [zF hc] at l1;have HF := Bx.mk (show R = false by rw [HR.out]; exact ascB_bad hj1 hc);by_cases h2 : l[j + 1] < l[j]
    ·rw [zT h2] at l2;rw [zF (fun e => hc (by rw [e] at h2; exact absurd h2 (List.lt_irrefl _)))] at l3;generalize bstr l[j] = X at *;generalize bstr l[j + 1] = Y at *;clear hbel hc h2;go_wp2_with fail
     go_quiet (fail)
     go_wp2_with fail
     go_ret;exact ⟨by rw [HF.out]; rfl, below_drawn HBEL.out _⟩
    ·rw [zF h2] at l2;rw [zT (eqB hc h2)] at l3;generalize bstr l[j] = X at *;generalize bstr l[j + 1] = Y at *;clear hbel hc h2;go_wp2_with fail
     go_quiet (fail)
     go_wp2_with fail
     go_ret;exact ⟨by rw [HF.out]; rfl, below_drawn HBEL.out _⟩
  ·have HE := Bx.mk (show R = decide ((0 : Int) < (N : Nat)) by
    rw [HR.out, HN.out]
    exact ascB_good (fun k hk => hB.out k hk (by have := HN.out; omega)))
   have HBEL := Bx.mk hbel;obtain ⟨Z, hZ⟩ : ∃ Z, Z = decide ((N : Int) > 0) := ⟨_, rfl⟩
   have HZ := Bx.mk hZ;clear hbel;rw [show decide ((0 : Int) < (N : Nat)) = decide ((N : Int) > 0) from rfl, <- hZ] at HE;go_wp2_with fail
   go_ret;exact ⟨by rw [HE.out, HZ.out]; first | rfl | simp, HBEL.out⟩
theorem alone_any (w : World) : Calls Tryz.prog 44 #[] w fun e w' => ∃ v', e = .returned v' /\ Slc.Own w' w.heap.size 9 1 encS v' [anyP] /\ Below w.heap.size w w' := by
 have ho := own_alloc (Bk := w.heap.size) encS_ok w [anyP] #[.string ⟨#[50, 46, 53, 46, 50, 57, 46, 51, 50, 46, 48]⟩] rfl (zR _) (by unfold maxLen; simp) (e := 9);have HO := Bx.mk ho;have HB := Bx.mk (show Below w.heap.size w (w.alloc (.cells #[.string ⟨#[50, 46, 53, 46, 50, 57, 46, 51, 50, 46, 48]⟩] 9)) from (Below.refl _ _).alloc (zR _) _);clear ho;go_enter Tryz.func44, Tryz.ntmps44;go_wp2_with fail
 go_ret;exact ⟨_, rfl, HO.out, HB.out⟩
theorem rsame_q (w : World) (v1 v2 : Value) (l m : List B) (h1 : Rq w v1 l) (h2 : Rq w v2 m) (hn : l.length <= 1000000) : Calls Tryz.prog 30 #[v1, v2] w fun e w' => e = .returned (.bool (decide (l = m))) /\ Below w.heap.size w w' := by
 obtain ⟨ad, c, rfl, -⟩ := h1.form;obtain ⟨ad2, c2, rfl, -⟩ := h2.form;have HC := Bx.mk (strs_cells_q h1).2;have HC2 := Bx.mk (strs_cells_q h2).2;obtain ⟨R, hR⟩ : ∃ R, R = decide (l = m) := ⟨_, rfl⟩
 rw [<- hR];have HR := Bx.mk hR;obtain ⟨N, hN⟩ : ∃ N, N = l.length := ⟨_, rfl⟩
 obtain ⟨M, hM⟩ : ∃ M, M = m.length := ⟨_, rfl⟩
 have HN := Bx.mk hN;have HM := Bx.mk hM;rw [<- hN] at hn |-;rw [<- hM];clear hR hN hM h1 h2;by_cases hNM : N = M
 ·subst hNM;go_enter Tryz.func30, Tryz.ntmps30;go_wp2_with fail
  go_loopw [5] (fun iv wr => ∃ i : Nat, iv = .int .i64 (i : Nat) /\ i <= N /\ Bx (∀ k (hk : k < l.length) (hk2 : k < m.length), k < i -> l[k] = m[k]) /\ Below w.heap.size w wr) (fun iv _ => N - (intOf iv).toNat)
  case atStart => exact ⟨0, rfl, by omega, ⟨fun k hk hk2 h => by omega⟩, Below.refl _ _⟩
  case round =>
   obtain ⟨i, rfl, hi, hB, hbel⟩ := hrel;by_cases hlt : i < N
   ·have hil : i < l.length := by rw [<- HN.out]; exact hlt
    have him : i < m.length := (by rw [<- HM.out]; exact hlt);obtain ⟨b, o, rfl, hbl, hx⟩ := HC.out wr hbel i hil;obtain ⟨b', o', rfl, hbl2, hy⟩ := HC2.out wr hbel i him;have l3 := same_bytes l[i] m[i];have HBEL := Bx.mk hbel;by_cases hc : l[i] = m[i]
    ·rw [zT hc] at l3
     have HX := Bx.mk (show ∀ k (hk : k < l.length) (hk2 : k < m.length), k < i + 1 -> l[k] = m[k] by
      intro k hk hk2 hki;rcases Nat.lt_or_ge k i with q | q
      ·exact hB.out k hk hk2 q
      ·obtain rfl : k = i := by omega
       exact hc)
     generalize bstr l[i] = X at *;generalize bstr m[i] = Y at *;clear hbel hc hbl hbl2;go_wp2_with fail
     go_quiet (fail)
     go_wp2_with fail
     go_roundw
     case rel => exact ⟨i + 1, by go_num, by omega, HX, below_drawn HBEL.out _⟩
     case measure => simp [intOf]; omega
    ·rw [zF hc] at l3;have HF := Bx.mk (show R = false by rw [HR.out]; exact zF fun e => hc (by subst e; rfl));generalize bstr l[i] = X at *;generalize bstr m[i] = Y at *;clear hbel hc hbl hbl2;go_wp2_with fail
     go_quiet (fail)
     go_wp2_with fail
     go_ret;exact ⟨by rw [HF.out]; rfl, below_drawn HBEL.out _⟩
   ·have HF := Bx.mk (show R = true by
     rw [HR.out]
     refine zT (List.ext_getElem (HN.out.symm.trans HM.out) fun k h1 h2 => hB.out k h1 h2 (by have := HN.out; omega))) 
    have HBEL := Bx.mk hbel;clear hbel;go_wp2_with fail
    go_ret;exact ⟨by rw [HF.out]; rfl, HBEL.out⟩
 ·have t0 : ((N : Int) == (M : Int)) = false := by simp; omega
  have t1 : ((N : Int) != (M : Int)) = true := by simp; omega
  have HF := Bx.mk (show R = false by rw [HR.out]; exact zF fun e => hNM (by rw [HN.out, HM.out, e]));go_enter Tryz.func30, Tryz.ntmps30;go_wp2_with fail
  go_ret;exact ⟨by rw [HF.out]; rfl, Below.refl _ _⟩
theorem rsame_any (w : World) (v1 v2 : Value) (l m : List B) (h1 : Rd w encS v1 l) (h2 : Rd w encS v2 m) (hn : l.length <= 1000000) : Calls Tryz.prog 30 #[v1, v2] w fun e w' => e = .returned (.bool (decide (l = m))) /\ Below w.heap.size w w' := rsame_q w v1 v2 l m (.inr h1) (.inr h2) hn
end Go.Proofs.YtmagjdocondmhaaGreat.Tr
namespace Go.Proofs.YtmagjdocondmhaaGreat.Tr
open Go Go.RowKit Slc St Mp Rg
attribute [local go_sem] Oper.semAt_some
def MI (w : World) (b : Nat) (m : List Int) : Prop := w.heap[b]? = some (.cells (m.map (Value.int .i64)).toArray 3 (0, 0))
theorem MI.cell {w : World} {b : Nat} {m : List Int} (h : MI w b m) (i : Nat) (hi : i < m.length) : w.cell? ⟨b, i, none⟩ = some (.int .i64 m[i]!) := by
 have := cell_of_row _ _ i _ _ _ h;rw [this, getElem!_pos m i hi];simp [hi]
theorem MI.set {w : World} {b : Nat} {m : List Int} (h : MI w b m) (i : Nat) (x : Int) : MI (w.setCell ⟨b, i, none⟩ (.int .i64 x)) b (m.set i x) := by
 have := row_set h (i := i) (.int .i64 x);unfold MI;rw [this, List.map_set];simp
theorem MI.other {w : World} {b p i : Nat} {m : List Int} (h : MI w b m) (hne : b ≠ p) (v : Value) : MI (w.setCell ⟨p, i, none⟩ v) b m := row_other h hne v
theorem made_ints (n : Nat) : madeCells (Value.int .i64 0).cells (n * 1) = ((List.replicate n (0 : Int)).map (Value.int .i64)).toArray := by
 have := toList_madeCells_one (.int .i64 0) n;have e : (Value.int .i64 0).cells = #[.int .i64 0] := rfl;rw [e, Nat.mul_one, List.map_replicate, <- this]
end Go.Proofs.YtmagjdocondmhaaGreat.Tr
namespace Go.Proofs.YtmagjdocondmhaaGreat.Tr
open Go Go.RowKit Slc St
attribute [local go_sem] Oper.semAt_some
theorem insS_at (x : B) : ∀ (l : List B) (j : Nat), Asc l -> j <= l.length -> (∀ i (h : i < l.length), j <= i -> ¬ l[i] < x) -> (∀ (h : j - 1 < l.length), 0 < j -> l[j - 1] < x) ->
  ((∃ h : j < l.length, l[j] = x) -> insS x l = l) /\ ((¬ ∃ h : j < l.length, l[j] = x) -> insS x l = l.take j ++ x :: l.drop j)
 | [], j, _, hj, _, _ => by
  obtain rfl : j = 0 := by simpa using hj
  exact ⟨fun ⟨h, _⟩ => absurd h (by simp), fun _ => rfl⟩
 | y :: l, 0, ha, hj, h1, h2 => by
  have hy : ¬ y < x := h1 0 (by simp) (by omega);constructor
  ·rintro ⟨h, e⟩;have e : y = x := e;subst e;unfold insS;rw [if_neg (ltB_irr _), if_pos rfl]
  ·intro hn;have hne : x ≠ y := fun e => hn ⟨by simp, e.symm⟩
   unfold insS
   rw [if_pos (ltB_or hy fun e => hne e.symm)]; rfl
 | y :: l, j + 1, ha, hj, h1, h2 => by
  have hj' : j <= l.length := by simpa using hj
  rw [Asc, List.pairwise_cons] at ha
  have hyx : y < x := by
   rcases Nat.eq_zero_or_pos j with q | q
   ·subst q; exact h2 (by simp) (by omega)
   ·have h3 : l[j - 1] < x := by
     have := h2 (by simp; omega) (by omega)
     have e : (y :: l)[j + 1 - 1]'(by simp; omega) = l[j - 1]'(by omega) := by
      have : j + 1 - 1 = (j - 1) + 1 := (by omega);simp only [this, List.getElem_cons_succ]
     rw [e] at this; exact this
    exact ltB_tr (ha.1 _ (zM _)) h3
  have ih := insS_at x l j ha.2 hj' (fun i hi hji => by have := h1 (i + 1) (by simp; omega) (by omega); simpa using this) (fun hi h0 => by
   have := h2 (by simp; omega) (by omega)
   have e : (y :: l)[j + 1 - 1]'(by simp; omega) = l[j - 1]'(by omega) := by
    have : j + 1 - 1 = (j - 1) + 1 := (by omega);simp only [this, List.getElem_cons_succ]
   rw [e] at this; exact this)
  have hins : insS x (y :: l) = y :: insS x l := by
   conv => lhs; unfold insS
   rw [if_neg (List.lt_asymm hyx), if_neg (fun e => by subst e; exact ltB_irr _ hyx)]
  constructor
  ·rintro ⟨h, e⟩;rw [hins, ih.1 ⟨by simpa using h, by simpa using e⟩]
  ·intro hn;rw [hins, ih.2 (fun ⟨h, e⟩ => hn ⟨by simpa using h, by simpa using e⟩)]; rfl
theorem und_strs' : Tryz.prog.underlying 34 = some (.slice (Tryz.prog.elem 34)) := by kernel_rfl
theorem size_strs (W : World) : (sizeOf (Tryz.prog.elem 34)).run Tryz.prog W = .ok 1 W := by kernel_rfl
def SrF (W0 : World) (sv u1 u2 : Value) (p : Nat) (cur : List B) (x : B) (lv iv : Value) (b : Nat) (o : Nat) : Nat -> Value -> World -> Prop
 | 0, v, w => ∃ g, v = .slice (some ⟨g, 0, none⟩) 0 0 /\ w.heap[g]? = some (.cells #[] 9 (0, 0)) /\ W0.heap.size <= g
 | 1, v, _ => v = sv
 | 2, v, _ => v = .int .i64 p
 | 3, v, _ => v = u1
 | 4, v, w => Slc.Own w W0.heap.size 9 1 encS v (cur.take p)
 | 5, v, _ => v = lv
 | 6, v, _ => v = iv
 | 7, v, _ => v = .pointer (some ⟨b, o, none⟩)
 | 8, v, _ => v = .string (bstr x)
 | 9, v, w => ∃ g : Nat, v = .slice (some ⟨g, 0, none⟩) 1 1 /\ w.heap[g]? = some (.cells (encS x).toArray 9 (0, 0))
 | 10, v, w => Slc.Own w W0.heap.size 9 1 encS v (cur.take p ++ [x])
 | 11, v, _ => v = sv
 | 12, v, _ => v = .int .i64 p
 | 13, v, _ => v = u2
 | _, _, _ => True
theorem SrF.stable (W0 : World) (sv u1 u2 : Value) (p : Nat) (cur : List B) (x : B) (lv iv : Value) (b : Nat) (o : Nat) (i : Nat) (v : Value) (w w' : World) (h : SrF W0 sv u1 u2 p cur x lv iv b o i v w) (hb : Below w.heap.size w w') : SrF W0 sv u1 u2 p cur x lv iv b o i v w' := by
 match i with
 | 1 | 2 | 3 | 5 | 6 | 7 | 8 | 11 | 12 | 13 => exact h
 | 0 => obtain ⟨g, h1, h2, h3⟩ := h; exact ⟨g, h1, (hb.block g (lt_of_some h2)).trans h2, h3⟩
 | 4 => exact Slc.Own.below (t := 9) h hb
 | 9 => obtain ⟨g, h1, h2⟩ := h; exact ⟨g, h1, (hb.block g (lt_of_some h2)).trans h2⟩
 | 10 => exact Slc.Own.below (t := 9) h hb
 | _ + 14 => exact trivial
def SrFC : Nat -> Option Nat
 | 0 => some 4
 | 4 => some 10
 | 9 => some 10
 | _ => none
theorem SrF.big (W0 : World) (sv u1 u2 : Value) (p : Nat) (cur : List B) (x : B) (lv iv : Value) (b : Nat) (o : Nat) (d : Nat -> Bool) (j : Nat) (v : Value) (w w' : World) (h4 : d 4 = true) (hc : ∀ q, SrFC j = some q -> mark d 10 q = false) (hne : j ≠ 10) (hj : j < 14) (h : SrF W0 sv u1 u2 p cur x lv iv b o j v w) : SrF W0 sv u1 u2 p cur x lv iv b o j v w' := by
 match j with
 | 1 | 2 | 3 | 5 | 6 | 7 | 8 | 11 | 12 | 13 => exact h
 | 0 => have := hc 4 rfl; simp [mark, h4] at this
 | 4 => have := hc 10 rfl; simp [mark] at this
 | 9 => have := hc 10 rfl; simp [mark] at this
 | 10 => exact absurd rfl hne
 | _ + 14 => omega
theorem drewN_below {B : Nat} {a w : World} (h : Below B a w) (n : Nat) : Below B a (w.drewN n) := ⟨h.os, h.tape, h.output, h.size, h.block⟩
theorem rset_any (w : World) (v : Value) (l : List B) (h : Rd w encS v l) (hn : l.length <= 100000) :
  Calls Tryz.prog 54 #[v] w fun e w' => ∃ v', e = .returned v' /\ Slc.Own w' w.heap.size 9 1 encS v' (setB l) /\ Below w.heap.size w w' := by
 obtain ⟨i0, hi0, hz0, hz1, hz2⟩ := info_parts info_str;obtain ⟨la, lc, rfl, -⟩ := h.form;have HCELL := Bx.mk (strs_cells h).2;obtain ⟨N, hN⟩ : ∃ N, N = l.length := ⟨_, rfl⟩
 have HN := Bx.mk hN;rw [<- hN] at hn |-;clear h hN;go_enter Tryz.func54, Tryz.ntmps54;go_wp2_with fail
 go_loopw [3, 4] (fun v i wr => ∃ (k : Nat) (cur : List B), k <= N /\ i = .int .i64 (k : Int) /\ Slc.Own wr w.heap.size 9 1 encS v cur /\ Bx (cur = setB (l.take k)) /\ Below w.heap.size w wr) (fun _ i _ => N - (intOf i).toNat)
 case atStart => exact ⟨0, [], Nat.zero_le _, rfl, Slc.Own.nil _ _, ⟨by simp [setB]⟩, Below.refl _ _⟩
 case round =>
  obtain ⟨k, cur, hk, rfl, hown, hcu, hbw⟩ := hrel;obtain ⟨oa, oc, hof, -⟩ := hown.rd.form;subst hof;have HOWN := Bx.mk hown;have HBW := Bx.mk hbw
  have hcl : cur.length <= 100000 := by
   have h1 := setB_length (l.take k);rw [<- hcu.out, List.length_take] at h1;omega
  by_cases hlt : k < N
  ·have hkl : k < l.length := by rw [<- HN.out]; exact hlt
   obtain ⟨b, o, rfl, hbl, x0⟩ := HCELL.out _ hbw k hkl;obtain ⟨x, hx⟩ : ∃ x, x = l[k] := ⟨_, rfl⟩
   rw [<- hx] at x0
   have HSN := Bx.mk (show setB (l.take (k + 1)) = insS x cur by
    rw [zA hkl, setB_snoc, <- hcu.out, hx])
   have HASC := Bx.mk (show Asc cur by rw [hcu.out]; exact setB_asc _);have hbl2 : b < wr.heap.size := by have := hbw.size; omega
   have HXL := Bx.mk (show ∀ (W : World), Below wr.heap.size wr W -> W.cell? ⟨b, o + k, none⟩ = some (.string (bstr x)) from fun W hW => by
    rw [hW.cell (p := ⟨b, o + k, none⟩) hbl2]; exact x0)
   have HC := Bx.mk (show ∀ (W : World), Below wr.heap.size wr W -> ∀ j (hj : j < cur.length), ∃ g1, oa = some ⟨g1, 0, none⟩ /\ W.cell? ⟨g1, j, none⟩ = some (.string (bstr cur[j])) from fun W hW j hj => by
    rcases HOWN.out.2 with ⟨_, hn⟩ | ⟨g2, cap, cu, hv2, -⟩
    ·omega
    ·simp only [Value.slice.injEq] at hv2
     obtain ⟨rfl, -, rfl⟩ := hv2;have := Own.cell encS_ok HOWN.out j hj 0 (by omega) _ rfl;rw [Nat.add_zero, Nat.mul_one] at this
     exact ⟨_, rfl, (hW.cell (p := ⟨g2, j, none⟩) (World.block_lt_of_cell? wr _ this)).trans this⟩)
   have HCLN := Bx.mk hcl;clear hown hbw hx hcu x0 hkl hbl;go_upto_block 2 with fail
   go_cut [5] (fun s5 wx => ∃ pl : Nat, s5 = .int .i64 (pl : Int) /\ Bx (pl <= cur.length /\ ((∃ h : pl < cur.length, cur[pl] = x) -> insS x cur = cur) /\ ((¬ ∃ h : pl < cur.length, cur[pl] = x) -> insS x cur = cur.take pl ++ x :: cur.drop pl)) /\ Below wr.heap.size wr wx)
   case first =>
    go_wp2_with fail
    go_loopw [5] (fun i wx => ∃ j : Nat, j <= cur.length /\ Bx (∀ i (h : i < cur.length), j <= i -> ¬ cur[i] < x) /\ i = .int .i64 (j : Int) /\ Below wr.heap.size wr wx) (fun i _ => (intOf i).toNat)
    case atStart => exact ⟨cur.length, zR _, ⟨fun i h hi => by omega⟩, rfl, Below.refl _ _⟩
    case round =>
     obtain ⟨j, hj, hall, rfl, hbx⟩ := hrel;have HBX := Bx.mk hbx;have hxw := HXL.out _ hbx
     cases j with
     | zero =>
      have HP0 := Bx.mk (insS_at x cur 0 HASC.out (by omega) hall.out (fun h h2 => by omega));have t0 : decide (0 < ((0 : Nat) : Int)) = false := rfl;clear hbx;go_wp2_with fail
      go_quiet (fail)
      go_wp2
      go_meet
      exact ⟨0, rfl, ⟨by omega, HP0.out⟩, drewN_below HBX.out _⟩
     | succ m =>
      have hmc : m < cur.length := (by omega);obtain ⟨g1, rfl, hcj⟩ := HC.out _ hbx m hmc;have HCM := Bx.mk (show ∀ i (h : i < cur.length), m <= i -> i = m \/ m + 1 <= i from fun i h hi => by omega);have l1 := less_bytes cur[m] x;have l2 := less_bytes x cur[m];have l3 := same_bytes cur[m] x;have wj : IntKind.i64.wrap (((m + 1 : Nat) : Int) - 1) = (m : Int) := (by rw [IntWalk.i64_in _ (by omega)]; omega);have ej : ((m : Int) + 1).toNat = m + 1 := (by omega);clear hbx;by_cases hl : cur[m] < x
      ·have HP0 := Bx.mk (insS_at x cur (m + 1) HASC.out hj hall.out (fun h h2 => by simpa using hl));rw [zT hl] at l1;rw [zF (List.lt_asymm hl)] at l2;rw [zF (fun e => by rw [e] at hl; exact List.lt_irrefl _ hl)] at l3;generalize bstr cur[m] = Y at *;generalize bstr x = X at *;clear hl;go_wp2_with fail
       go_quiet (fail)
       go_wp2
       go_meet;exact ⟨m + 1, by first | rfl | go_num, ⟨by omega, HP0.out⟩, drewN_below HBX.out _⟩
      ·rw [zF hl] at l1
       have HAL := Bx.mk (show ∀ i (h : i < cur.length), m <= i -> ¬ cur[i] < x from fun i h hi => by
        rcases HCM.out i h hi with q | q
        ·subst q; exact hl
        ·exact hall.out i h q)
       by_cases h2 : x < cur[m]
       ·rw [zT h2] at l2;rw [zF (fun e => by rw [e] at h2; exact List.lt_irrefl _ h2)] at l3;generalize bstr cur[m] = Y at *;generalize bstr x = X at *;clear hl h2;go_wp2_with fail
        go_quiet (fail)
        go_wp2
        go_roundw
        case rel => exact ⟨m, by omega, HAL, by go_num, drewN_below HBX.out _⟩
        case measure => simp [intOf]; try omega
       ·rw [zF h2] at l2;rw [zT (eqB hl h2)] at l3;generalize bstr cur[m] = Y at *;generalize bstr x = X at *;clear hl h2;go_wp2_with fail
        go_quiet (fail)
        go_wp2
        go_roundw
        case rel => exact ⟨m, by omega, HAL, by go_num, drewN_below HBX.out _⟩
        case measure => simp [intOf]; try omega
   case rest =>
    obtain ⟨pl, rfl, hpl, hbc⟩ := hcut;obtain ⟨F, hF⟩ : ∃ F, F = decide (∃ h : pl < cur.length, cur[pl] = x) := ⟨_, rfl⟩
    have HF := Bx.mk hF;have HBC := Bx.mk hbc;clear hF;go_upto_region 8 with fail
    go_cut [44] (fun c wx => c = .bool F /\ Below wr.heap.size wr wx)
    case first =>
     have hxw := HXL.out _ hbc;by_cases hpc : pl < cur.length
     ·obtain ⟨g1, rfl, hcj⟩ := HC.out _ hbc pl hpc;have l3 := same_bytes cur[pl] x;have t1 : decide (pl < cur.length) = true := zT hpc;have t2 : decide ((pl : Int) < (cur.length : Nat)) = true := zT (by omega);by_cases e : cur[pl] = x
      ·rw [zT e] at l3;have HFF := Bx.mk (show F = true by rw [HF.out]; exact zT ⟨hpc, e⟩);generalize bstr cur[pl] = Y at *;generalize bstr x = X at *;clear e hbc;go_wp2_with fail
       go_quiet (fail)
       go_wp2
       go_meet;exact ⟨by rw [HFF.out], drewN_below HBC.out _⟩
      ·rw [zF e] at l3;have HFF := Bx.mk (show F = false by rw [HF.out]; exact zF fun ⟨_, h⟩ => e h);generalize bstr cur[pl] = Y at *;generalize bstr x = X at *;clear e hbc;go_wp2_with fail
       go_quiet (fail)
       go_wp2
       go_meet;exact ⟨by rw [HFF.out], drewN_below HBC.out _⟩
     ·have t1 : decide (pl < cur.length) = false := zF hpc;have t2 : decide ((pl : Int) < (cur.length : Nat)) = false := zF (by omega);have HFF := Bx.mk (show F = false by rw [HF.out]; exact zF fun ⟨h, _⟩ => hpc h);clear hbc;go_wp2_with fail
      go_quiet (fail)
      go_wp2
      go_meet;exact ⟨by rw [HFF.out], drewN_below HBC.out _⟩
    case rest =>
     obtain ⟨rfl, hbd⟩ := hcut;clear hbc HBC
     cases F with
     | true =>
      have HNEW := Bx.mk (show cur = setB (l.take (k + 1)) by rw [HSN.out, hpl.out.2.1 (of_decide_eq_true HF.out.symm)]);have HO4 := Bx.mk (HOWN.out.below hbd);have HB4 := Bx.mk (HBW.out.trans (hbd.mono HBW.out.size));clear hbd;go_wp2_with fail
      go_roundw
      case rel => exact ⟨k + 1, cur, by omega, by go_num, HO4.out, HNEW, HB4.out⟩
      case measure => simp [intOf]; omega
     | false =>
      have HIN := Bx.mk (hpl.out.2.2 (of_decide_eq_false HF.out.symm));obtain ⟨W0, hW0⟩ : ∃ W0, W0 = wc := ⟨_, rfl⟩
      have hoc := HOWN.out.below hbd;obtain ⟨u1, hu1, hr1⟩ := hoc.rd.upto (P := Tryz.prog) (T := 34) encS_ok und_strs' size_strs pl hpl.out.1;obtain ⟨u2, hu2, hr2⟩ := hoc.rd.rest (P := Tryz.prog) (T := 34) encS_ok und_strs' size_strs pl hpl.out.1;have HU1 := Bx.mk hu1;have HU2 := Bx.mk hu2;have HR1 := Bx.mk hr1;have HR2 := Bx.mk hr2;have HPC := Bx.mk hpl.out.1;have HXX := Bx.mk (show ∀ (W : World), Below wc.heap.size wc W -> W.cell? ⟨b, o + k, none⟩ = some (.string (bstr x)) from fun W hW => HXL.out W (hbd.trans (hW.mono hbd.size)));have HBF := Bx.mk (HBW.out.trans (hbd.mono HBW.out.size));clear hoc hu1 hu2 hr1 hr2 hbd hpl hW0 hcl;go_upto_region 9 with fail
      refine wp_region_factsV 14 SrFC (· == 10) (SrF wc (.slice oa cur.length oc) u1 u2 pl cur x (.slice (some ⟨b, o, none⟩) N lc) (.int .i64 k) b (o + k)) (by kernel_rfl) (by kernel_rfl) (by rfl) (SrF.stable wc _ u1 u2 pl cur x _ (.int .i64 k) b (o + k)) ?_ ?_ ?_
      ·intro q oq j v d w1 w2 hb hoq hd hc hne hj h _;obtain rfl : q = 10 := (by simpa using hb);simp only [List.getElem?_cons_succ, List.getElem?_cons_zero, zO] at hoq
       subst hoq;have h4 := hd ⟨4, .data⟩ (by simp) rfl;exact SrF.big wc _ u1 u2 pl cur x _ (.int .i64 k) b (o + k) d j v w1 w2 h4 hc hne hj h
      ·intro i o hi9 ho9 xs w1 hb hd;have hcs : i = 0 \/ i = 1 \/ i = 2 \/ i = 3 \/ i = 4 \/ i = 5 \/ i = 6 \/ i = 7 \/ i = 8 \/ i = 9 \/ i = 10 \/ i = 11 \/ i = 12 \/ i = 13 := (by omega);simp only [List.take_succ_cons, List.take_zero, putFrom, Act.put, List.setIfInBounds_toArray, List.set_cons_succ, List.set_cons_zero, Nat.zero_add, Nat.reduceAdd]
       have HBB := Bx.mk hb;have HTL := Bx.mk (show (cur.take pl).length <= 100000 by have h1 := HCLN.out; rw [List.length_take]; omega);clear hb;rcases hcs with rfl | rfl | rfl | rfl | rfl | rfl | rfl | rfl | rfl | rfl | rfl | rfl | rfl | rfl
       all_goals
        simp only [List.getElem?_cons_succ, List.getElem?_cons_zero, zO] at ho9
        subst ho9;simp [NeedsB, Region.binds, SrF, SrFC] at hd
       all_goals clear hi9
       ·have HS := Bx.mk HBB.out.size;go_wp2_with fail
        exact ⟨rfl, rfl, ⟨_, rfl, heap_alloc_new _ _, HS.out⟩, (Below.refl _ _).alloc (zR _) _⟩
       ·go_wp2_with fail
        exact ⟨rfl, rfl, rfl, Below.refl _ _⟩
       ·go_wp2_with fail
        exact ⟨rfl, rfl, rfl, Below.refl _ _⟩
       ·obtain ⟨hd1, hd2⟩ := hd;have hu1 := HU1.out;go_wp2_with fail
        exact ⟨rfl, rfl, rfl, Below.refl _ _⟩
       ·obtain ⟨⟨g0, h0, hg0, hl0⟩, h3⟩ := hd;have hsr := (HR1.out.below HBB.out).src encS_ok;rw [<- h3] at hsr;have hsz := HBB.out.size;clear h3;go_wp2_with (at_builtin; refine wpList_append_fresh rfl _ _ _ rfl wc.heap.size 9 i0 _ 1 16 und_strs hi0 hz0 hz1 hz2 rfl (by decide) g0 h0 hg0 hl0 hsz (xs 3) (cur.take pl).length ((cur.take pl).flatMap encS) rfl hsr ?ap1 ?ap2 ?_)
        case ap1 => have := HTL.out; unfold maxLen; omega
        case ap2 => have := HTL.out; omega
        intro v' w4 hown hb4 _;have HO4 := Bx.mk (Own.of (l := cur.take pl) hown (by have := HPC.out; simp; try omega) rfl);have HB4 := Bx.mk hb4;clear hown hb4 hsr hsz;go_wp2_with fail
        exact ⟨rfl, rfl, HO4.out, HB4.out⟩
       ·go_wp2_with fail
        exact ⟨rfl, rfl, rfl, Below.refl _ _⟩
       ·go_wp2_with fail
        exact ⟨rfl, rfl, rfl, Below.refl _ _⟩
       ·obtain ⟨hd1, hd2⟩ := hd;go_wp2_with fail
        exact ⟨rfl, rfl, rfl, Below.refl _ _⟩
       ·have y0 := HXX.out _ HBB.out;go_wp2_with fail
        exact ⟨rfl, rfl, rfl, Below.refl _ _⟩
       ·go_wp2_with fail
        exact ⟨rfl, rfl, ⟨_, rfl, by rw [heap_alloc_new]; rfl⟩, (Below.refl _ _).alloc (zR _) _⟩
       ·obtain ⟨hd1, ⟨g5, h5, hb5⟩, -⟩ := hd;have hsr : SrcV w1 1 (.slice (some ⟨g5, 0, none⟩) 1 1) 1 ([x].flatMap encS) := src_new encS_ok hb5;rw [<- h5] at hsr;have hsz := HBB.out.size;have hd1' : w1.ownsRow wc.heap.size 9 1 (xs 4) (cur.take pl).length ((cur.take pl).flatMap encS) := hd1;have HD1 := Bx.mk hd1;clear h5 hb5 hd1;go_wp2_with (at_builtin; refine wpList_append_any rfl _ _ _ rfl wc.heap.size 9 i0 _ 1 16 und_strs hi0 hz0 hz1 hz2 rfl (by decide) _ (cur.take pl).length ((cur.take pl).flatMap encS) rfl hd1' _ 1 ([x].flatMap encS) rfl hsr ?bp1 ?bp2 hsz ?_)
        case bp1 => have := HTL.out; unfold maxLen; omega
        case bp2 => have := HTL.out; omega
        intro v' w4 ha;have HO4 := Bx.mk (Own.apd (m := [x]) HD1.out (by simp) (by simp) (by have := HPC.out; simp; try omega) (by simp) ha);have HB4 := Bx.mk ((Below.refl wc.heap.size w1).grown ha.grown HBB.out.size fun k hk => (HD1.out.lt k hk).1);clear ha hsr hsz hd1';go_wp2_with fail
        exact ⟨rfl, rfl, HO4.out, HB4.out⟩
       ·go_wp2_with fail
        exact ⟨rfl, rfl, rfl, Below.refl _ _⟩
       ·go_wp2_with fail
        exact ⟨rfl, rfl, rfl, Below.refl _ _⟩
       ·obtain ⟨hd1, hd2⟩ := hd;have hu2 := HU2.out;go_wp2_with fail
        exact ⟨rfl, rfl, rfl, Below.refl _ _⟩
      ·intro xs w1 hb hf;have f1 := hf 1 (by omega) (fun c hc => by cases hc);have f2 := hf 2 (by omega) (fun c hc => by cases hc);have f3 := hf 3 (by omega) (fun c hc => by cases hc);have f5 := hf 5 (by omega) (fun c hc => by cases hc);have f6 := hf 6 (by omega) (fun c hc => by cases hc);have f7 := hf 7 (by omega) (fun c hc => by cases hc);have f8 := hf 8 (by omega) (fun c hc => by cases hc);have f10 := hf 10 (by omega) (fun c hc => by cases hc);have f11 := hf 11 (by omega) (fun c hc => by cases hc);have f12 := hf 12 (by omega) (fun c hc => by cases hc);have f13 := hf 13 (by omega) (fun c hc => by cases hc);simp only [SrF] at f1 f2 f3 f5 f6 f7 f8 f10 f11 f12 f13
       have HBB := Bx.mk hb;have HO := Bx.mk f10;clear hf f10 hb;simp only [List.take_succ_cons, List.take_zero, List.drop_succ_cons, List.drop_zero, putFrom, Act.put, List.setIfInBounds_toArray, List.set_cons_succ, List.set_cons_zero, Nat.zero_add, Nat.reduceAdd, f1, f2, f3, f5, f6, f7, f8, f11, f12, f13]
       clear f1 f2 f3 f5 f6 f7 f8 f11 f12 f13;generalize xs 0 = X0 at *;generalize xs 4 = X4 at *;generalize xs 9 = X9 at *;generalize hX10 : xs 10 = X10 at *;clear hX10 xs;have hsr := (HR2.out.below HBB.out).src encS_ok;have hsz := HBB.out.size;have HLL := Bx.mk (show (cur.take pl ++ [x]).length + (cur.drop pl).length <= 200000 by have h1 := HCLN.out; simp; omega);have hd1' : w1.ownsRow wc.heap.size 9 1 X10 (cur.take pl ++ [x]).length ((cur.take pl ++ [x]).flatMap encS) := HO.out;have HNEW := Bx.mk (show cur.take pl ++ [x] ++ cur.drop pl = setB (l.take (k + 1)) by rw [HSN.out, HIN.out]; simp);generalize hA : cur.take pl ++ [x] = A at *;generalize hD : cur.drop pl = D at *;clear hA hD;go_wp2_with (at_builtin; refine wpList_append_any rfl _ _ _ rfl wc.heap.size 9 i0 _ 1 16 und_strs hi0 hz0 hz1 hz2 rfl (by decide) _ A.length (A.flatMap encS) rfl hd1' _ D.length (D.flatMap encS) rfl hsr ?cp1 ?cp2 hsz ?_)
       case cp1 => have := HLL.out; unfold maxLen; omega
       case cp2 => have := HLL.out; omega
       intro v' w4 ha;have HO4 := Bx.mk ((Own.apd (m := D) HO.out rfl rfl rfl rfl ha).mono HBF.out.size);have HB4 := Bx.mk (HBF.out.trans ((HBB.out.grown ha.grown HBB.out.size fun k hk => (HO.out.lt k hk).1).mono HBF.out.size));clear ha hsr hsz hd1';go_wp2
       go_roundw
       case rel => exact ⟨k + 1, A ++ D, by omega, by go_num, HO4.out, HNEW, HB4.out⟩
       case measure => simp [intOf]; omega
  ·obtain rfl : k = N := by omega
   have HCU := Bx.mk hcu.out;clear hown hbw hcu;go_wp2_with fail
   go_ret;exact ⟨_, rfl, by rw [show setB l = cur by rw [HCU.out, HN.out, List.take_length]]; exact HOWN.out, HBW.out⟩
end Go.Proofs.YtmagjdocondmhaaGreat.Tr
namespace Go.Proofs.YtmagjdocondmhaaGreat.Tr
open Go Go.RowKit Slc St
attribute [local go_sem] Oper.semAt_some
def InF (W0 : World) (sv u1 u2 : Value) (p : Nat) (cur : List Nt) (x : Nt) : Nat -> Value -> World -> Prop
 | 0, v, w => ∃ g, v = .slice (some ⟨g, 0, none⟩) 0 0 /\ w.heap[g]? = some (.cells #[] 111 (0, 0)) /\ W0.heap.size <= g
 | 1, v, _ => v = sv
 | 2, v, _ => v = .int .i64 p
 | 3, v, _ => v = u1
 | 4, v, w => Slc.Own w W0.heap.size 111 4 encN v (cur.take p)
 | 5, v, _ => v = .agg #[.int .i64 x.n.d, .int .i64 x.n.p, .string (bstr x.n.pol), .slice x.u.ad x.u.n x.u.c]
 | 6, v, w => ∃ g : Nat, v = .slice (some ⟨g, 0, none⟩) 1 1 /\ w.heap[g]? = some (.cells (encN x).toArray 111 (0, 0))
 | 7, v, w => Slc.Own w W0.heap.size 111 4 encN v (cur.take p ++ [x])
 | 8, v, _ => v = sv
 | 9, v, _ => v = .int .i64 p
 | 10, v, _ => v = u2
 | _, _, _ => True
end Go.Proofs.YtmagjdocondmhaaGreat.Tr
namespace Go.Proofs.YtmagjdocondmhaaGreat.Tr.Gr
open Go Go.RowKit Slc St Mp Tr
attribute [local go_sem] Oper.semAt_some
def keepT {α : Type} [Inhabited α] (l : List α) (m : List Bool) (k : Nat) : List α := ((List.range k).filter fun j => m[j]!).map fun j => l[j]!
theorem keepT_succ {α : Type} [Inhabited α] (l : List α) (m : List Bool) (k : Nat) : keepT l m (k + 1) = keepT l m k ++ if m[k]! then [l[k]!] else [] := by
 unfold keepT;rw [List.range_succ, List.filter_append, List.map_append]
 cases h : m[k]! <;> simp [List.filter_cons, h, -List.getElem!_eq_getElem?_getD]
theorem keepT_len {α : Type} [Inhabited α] (l : List α) (m : List Bool) (k : Nat) : (keepT l m k).length = rk m k := by unfold keepT rk; rw [List.length_map]
theorem keepT_mem {α : Type} [Inhabited α] {l : List α} {m : List Bool} {k : Nat} {x : α} (hk : k <= l.length) (h : x ∈ keepT l m k) : x ∈ l := by
 unfold keepT at h;obtain ⟨j, hj, rfl⟩ := List.mem_map.1 h;have := List.mem_range.1 (List.mem_filter.1 hj).1;rw [getElem!_pos l j (by omega)];exact zM _
theorem keepT_vxs (l : List Vt) (m : List Bool) (k : Nat) (hk : k <= l.length) : vxs (keepT l m k) = keepT (vxs l) m k := by
 unfold keepT vxs;rw [List.map_map];apply List.map_congr_left
 intro j hj;have := List.mem_range.1 (List.mem_filter.1 hj).1;rw [getElem!_pos (List.map _ l) j (by simp; omega)];simp only [Function.comp_apply, List.getElem_map]
 rw [getElem!_pos l j (by omega)]
def plJ (m : List Bool) (N k : Nat) : List Int := (List.range N).map fun j => if j < k then ((rk m j : Nat) : Int) else 0
theorem plJ_length (m : List Bool) (N k : Nat) : (plJ m N k).length = N := by simp [plJ]
theorem plJ_zero (m : List Bool) (N : Nat) : plJ m N 0 = List.replicate N 0 := by
 unfold plJ;apply List.ext_getElem
 ·simp
 ·intro i h1 h2; simp
theorem plJ_at (m : List Bool) (N j : Nat) (hj : j < N) : (plJ m N N)[j]! = ((rk m j : Nat) : Int) := by
 unfold plJ;rw [getElem!_pos _ j (by simpa using hj)];simp [hj]
theorem plJ_succ {m : List Bool} {N k : Nat} (hk : k < N) : plJ m N (k + 1) = (plJ m N k).set k ((rk m k : Nat) : Int) := by
 apply List.ext_getElem
 ·simp [plJ]
 ·intro j h1 h2;rw [List.getElem_set];simp only [plJ, List.getElem_map, List.getElem_range]
  by_cases e : k = j
  ·subst e; rw [if_pos rfl, if_pos (by omega)]
  ·rw [if_neg e];by_cases q : j < k
   ·rw [if_pos q, if_pos (by omega)]
   ·rw [if_neg q, if_neg (by omega)]
def renP (m : List Bool) (ps : List Int) : List Int := (ps.filter fun p => m[p.toNat]!).map fun p => ((rk m p.toNat : Nat) : Int)
theorem renP_snoc (m : List Bool) (ps : List Int) (p : Int) : renP m (ps ++ [p]) = renP m ps ++ if m[p.toNat]! then [((rk m p.toNat : Nat) : Int)] else [] := by
 unfold renP;rw [List.filter_append, List.map_append]
 cases h : m[p.toNat]! <;> simp [List.filter_cons, h, -List.getElem!_eq_getElem?_getD]
theorem renP_len (m : List Bool) (ps : List Int) : (renP m ps).length <= ps.length := by
 unfold renP; rw [List.length_map]; exact List.length_filter_le _ _
def renV (m : List Bool) (v : Vx) : Vx := ⟨v.pol, v.ex, renP m v.par⟩
def filtG (g : List (List Vx)) (k : Nat) (m : List Bool) : List (List Vx) :=
 if k + 1 < g.length then (g.set k (keepT g[k]! m (g[k]!).length)).set (k + 1) ((g[k + 1]!).map (renV m)) else g.set k (keepT g[k]! m (g[k]!).length)
theorem filtG_len (g : List (List Vx)) (k : Nat) (m : List Bool) : (filtG g k m).length = g.length := by unfold filtG; split <;> simp
structure GStep (w : World) (B : Nat) (v : Value) (g : List Lv) (w' : World) (g' : List Lv) : Prop where
 go : GO w' B v g'
 fr : Fr (GB v g) w w'
 nb : ∀ k, GB v g' k -> GB v g k \/ w.heap.size <= k
theorem GStep.trans {w w1 w2 : World} {B : Nat} {v : Value} {g g1 g2 : List Lv} (h : GStep w B v g w1 g1) (h' : GStep w1 B v g1 w2 g2) : GStep w B v g w2 g2 :=
 ⟨h'.go, h.fr.trans h'.fr fun k hk q => (h.nb k q).elim id fun h => absurd hk (by omega), fun k hk => by
  rcases h'.nb k hk with q | q
  ·exact h.nb k q
  ·exact .inr (Nat.le_trans h.fr.size q)⟩
theorem GStep.below {w w1 w2 : World} {B : Nat} {v : Value} {g g1 : List Lv} (h : GStep w B v g w1 g1) (hb : Below w1.heap.size w1 w2) : GStep w B v g w2 g1 :=
 ⟨h.go.below hb, h.fr.trans (Fr.of_below (S := fun _ => False) hb) (fun k _ q => q.elim), h.nb⟩
theorem GStep.refl {w : World} {B : Nat} {v : Value} {g : List Lv} (h : GO w B v g) : GStep w B v g w g := ⟨h, Fr.refl _ _, fun k hk => .inl hk⟩
theorem GStep.bel {w w' : World} {B : Nat} {v : Value} {g g' : List Lv} (h : GStep w B v g w' g') (hg : GO w B v g) (hB : B <= w.heap.size) : Below B w w' := h.fr.below (fun k hk => (hg.lt hk).1) hB
def QA (x y : Vt) : Prop := ∀ k, x.q.val.ownBlock = some k -> y.q.val.ownBlock ≠ some k
theorem QA.symm {x y : Vt} (h : QA x y) : QA y x := fun k h1 h2 => h k h2 h1
structure FX (w : World) (B : Nat) (vs us : List Vt) (q : Nat) : Prop where
 u : ∀ r, r < q -> (vs[r]!).u = (us[r]!).u
 own : ∀ r, r < q -> Slc.Own w B 3 1 encI (vs[r]!).q.val (vs[r]!).n.par
 ap : ∀ r1 r2, r1 < r2 -> r2 < q -> QA vs[r1]! vs[r2]!
theorem FX.zero (w : World) (B : Nat) (vs us : List Vt) : FX w B vs us 0 := ⟨fun r h => by omega, fun r h => by omega, fun r1 r2 h h' => by omega⟩
theorem FX.below {w w' : World} {B : Nat} {vs us : List Vt} {q : Nat} (h : FX w B vs us q) (hb : Below w.heap.size w w') : FX w' B vs us q := ⟨h.u, fun r hr => (h.own r hr).below hb, h.ap⟩
theorem FX.setCell {w : World} {B : Nat} {vs us : List Vt} {q : Nat} (h : FX w B vs us q) {nb : Nat} (hnb : nb < B) (o : Nat) (u : Value) : FX (w.setCell ⟨nb, o, none⟩ u) B vs us q :=
 ⟨h.u, fun r hr => (h.own r hr).keep fun k hk _ => heap_setCell_other _ _ _ _ (by have := ((h.own r hr).lt k hk).1; show k ≠ nb; omega), h.ap⟩
theorem FX.set {w : World} {B C : Nat} {vs us : List Vt} {q : Nat} {y : Vt} (h : FX w B vs us q) (hq : q < vs.length) (hu : y.u = (us[q]!).u) (ho : Slc.Own w C 3 1 encI y.q.val y.n.par) (hB : B <= C) (hC : ∀ r, r < q -> ∀ k, (vs[r]!).q.val.ownBlock = some k -> k < C) : FX w B (vs.set q y) us (q + 1) := by
 have e1 : (vs.set q y)[q]! = y := by rw [getElem!_pos _ q (by simpa using hq)]; simp
 have e2 : ∀ r, r < q -> (vs.set q y)[r]! = vs[r]! := fun r hr => by
  rw [getElem!_pos _ r (by simp; omega), getElem!_pos vs r (by omega), List.getElem_set, if_neg (by omega)]
 refine ⟨fun r hr => ?_, fun r hr => ?_, fun r1 r2 h1 h2 => ?_⟩
 ·by_cases e : r = q
  ·subst e; rw [e1]; exact hu
  ·rw [e2 r (by omega)]; exact h.u r (by omega)
 ·by_cases e : r = q
  ·subst e; rw [e1]; exact ho.mono hB
  ·rw [e2 r (by omega)]; exact h.own r (by omega)
 ·by_cases e : r2 = q
  ·subst e;rw [e1, e2 r1 (by omega)];intro k hk hk';have := hC r1 (by omega) k hk;have := (ho.lt k hk').1;omega
  ·rw [e2 r1 (by omega), e2 r2 (by omega)]; exact h.ap r1 r2 h1 (by omega)
structure FiltR (w w' : World) (g g' : List Lv) (k : Nat) (m : List Bool) : Prop where
 len : g'.length = g.length
 lo : ∀ j (h : j < g.length) (h' : j < g'.length), j ≠ k -> j ≠ k + 1 -> g'[j] = g[j]
 mid : ∀ (h : k < g.length) (h' : k < g'.length), (g'[k]).vs = keepT (g[k]).vs m (g[k]).vs.length
 nx : ∀ (h : k + 1 < g.length) (h' : k + 1 < g'.length), (g'[k + 1]).vs.length = (g[k + 1]).vs.length /\ FX w' w.heap.size (g'[k + 1]).vs (g[k + 1]).vs (g[k + 1]).vs.length
end Go.Proofs.YtmagjdocondmhaaGreat.Tr.Gr
