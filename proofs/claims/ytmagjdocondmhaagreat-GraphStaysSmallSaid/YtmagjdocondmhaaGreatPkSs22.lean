/-
slices.Sorted(slices.Values(l)) of ints. Printed by gen_sorti.py out of the text on strings.
pgraph.Restrict in plain Lean.
Restrict: parents stay apart where vertices are removed or inserted; the region that adds a parent.
-/
import Derived.Test.YtmagjdocondmhaaGreatPkSs03
import Derived.Test.YtmagjdocondmhaaGreatPkSs10
import Derived.Test.YtmagjdocondmhaaGreatPkSs08
import Derived.Test.YtmagjdocondmhaaGreatPkSs21
namespace Go.Proofs.YtmagjdocondmhaaGreat.Tr.Gr
open Go Go.RowKit Go.Shelf Go.Sort Go.Proofs.YtmagjdocondmhaaGreat.Slc Go.Proofs.YtmagjdocondmhaaGreat.St Go.Proofs.YtmagjdocondmhaaGreat.Mp Go.Proofs.YtmagjdocondmhaaGreat.Tr Go.Proofs.YtmagjdocondmhaaGreat.Rg
set_option linter.unusedVariables false
set_option linter.unusedSimpArgs false
attribute [local go_sem] Oper.semAt_some

set_option maxRecDepth 100000 in
set_option maxHeartbeats 2000000 in
theorem valI1_in (F : Fence) (n : Nat) (hF : F.fn 112) (hro : F.round = none) (hn : 1 ≤ n) (l Bs n₀ b off cap : Nat) (zs : List Int) (hlen : zs.length ≤ 1000000000) (J Jx : List Int → World → Prop)
    (hY : ∀ pre x W, J pre W → pre.length < zs.length → YieldAt F (n - 1) Tryz.prog l #[.int .i64 x] W fun e W' =>
      (e = .returned (.bool true) ∧ J (pre ++ [x]) W' ∧ Below n₀ W W') ∨ (e = .returned (.bool false) ∧ Jx (pre ++ [x]) W'))
    (W : World) (hBs : W.cell? ⟨Bs, 0, none⟩ = some (.slice (some ⟨b, off, none⟩) zs.length cap)) (hc : ∀ W', Below n₀ W W' → ∀ j (h : j < zs.length), W'.cell? ⟨b, off + j, none⟩ = some (.int .i64 zs[j])) (h0 : J [] W) :
    CallsIn F n Tryz.prog 112 #[.func (.yield l) #[] #[], .pointer (some ⟨Bs, 0, none⟩)] W fun e W' => (∃ v, e = .returned v) ∧
      ((∃ ys, ys = zs ∧ J ys W') ∨ (∃ pre, (∃ k, k ≤ zs.length ∧ pre = zs.take k) ∧ Jx pre W')) := by
  have HC := Lib.hid hc
  clear hc
  refine callsIn_of_wp Tryz.func112 rfl hF ?_ hro
  simp only [Tryz.ntmps112, List.size_toArray, List.length_cons, List.length_nil, Nat.reduceAdd, Nat.reduceSub, Array.replicate_succ, Array.replicate_zero, List.push_toArray, List.append_toArray, List.nil_append, List.cons_append]
  gi_wp2
  gi_loopw [7] (fun i wr => ∃ k : Nat, k ≤ zs.length ∧ i = .int .i64 (k : Int) ∧ J (zs.take k) wr ∧ Below n₀ W wr)
    (fun i _ => zs.length - (intOf i).toNat)
  case atStart => exact ⟨0, by omega, rfl, by simpa using h0, Below.refl _ _⟩
  case round =>
    obtain ⟨k, hk, rfl, hJs, hnx⟩ := hrel
    have HNX := Lib.hid hnx
    by_cases hlt : k < zs.length
    · have hx := HC.out wr hnx k hlt
      have hsucc : zs.take (k + 1) = zs.take k ++ [zs[k]] := List.take_succ_eq_append_getElem hlt
      obtain ⟨x, hxx⟩ : ∃ x, x = zs[k] := ⟨_, rfl⟩
      rw [← hxx] at hx hsucc
      have HS := Lib.hid hsucc
      obtain ⟨fn, tmps, assign, body, hy, hR⟩ := hY _ x wr hJs (by rw [List.length_take]; omega)
      rw [← hsucc] at hR
      clear hnx hsucc hxx hBs
      gi_wp2
      refine hR.mono ?_
      rintro e W3 (⟨rfl, hJ3, hk3⟩ | ⟨rfl, hJx3⟩)
      · gi_wp2
        go_roundw
        case rel => exact ⟨k + 1, by omega, by go_num, hJ3, HNX.out.trans hk3⟩
        case measure => simp [intOf]; omega
      · gi_wp2
        refine bodyPost_ret (results_none rfl _ _ _) rfl ?_
        exact ⟨⟨_, rfl⟩, .inr ⟨_, ⟨k + 1, by omega, rfl⟩, hJx3⟩⟩
    · obtain rfl : k = zs.length := by omega
      rw [List.take_length] at hJs
      clear hnx hBs
      gi_wp2
      go_end0
      exact ⟨⟨_, rfl⟩, .inl ⟨_, rfl, hJs⟩⟩
theorem valI1_nil_in (F : Fence) (n : Nat) (hF : F.fn 112) (hro : F.round = none) (l Bs : Nat) (c : Nat) (a : Option Addr) (J : List Int → World → Prop) (W : World) (hBs : W.cell? ⟨Bs, 0, none⟩ = some (.slice a 0 c)) (h0 : J [] W) :
    CallsIn F n Tryz.prog 112 #[.func (.yield l) #[] #[], .pointer (some ⟨Bs, 0, none⟩)] W fun e W' => (∃ v, e = .returned v) ∧ J [] W' := by
  refine callsIn_of_wp Tryz.func112 rfl hF ?_ hro
  simp only [Tryz.ntmps112, List.size_toArray, List.length_cons, List.length_nil, Nat.reduceAdd, Nat.reduceSub, Array.replicate_succ, Array.replicate_zero, List.push_toArray, List.append_toArray, List.nil_append, List.cons_append]
  gi_wp2
  gi_loopw [7] (fun i wr => i = .int .i64 0 ∧ J [] wr) (fun _ _ => 0)
  case atStart => exact ⟨rfl, h0⟩
  case round =>
    obtain ⟨rfl, hJs⟩ := hrel
    gi_wp2
    go_end0
    exact ⟨⟨_, rfl⟩, hJs⟩
set_option maxHeartbeats 1000000 in
theorem valI_any (a : Option Addr) (len cap : Nat) (w : World) :
    Calls Tryz.prog 74 #[.slice a len cap] w fun e w' => e = .returned (.func (.func 112) #[] #[.pointer (some ⟨w.heap.size, 0, none⟩)]) ∧ w' = w.alloc (.cells #[.slice a len cap] 22) := by
  go_enter Tryz.func74, Tryz.ntmps74
  go_wp2
  go_ret
  exact ⟨rfl, rfl⟩
theorem valI_stops (F : Fence) (n : Nat) (hF : F.fn 112) (hro : F.round = none) (hn : 1 ≤ n) (Bs n₀ : Nat) (sv : Value) (zs : List Int) (hlen : zs.length ≤ 1000000000) (w : World) (hBs0 : Bs < n₀) (hn₀ : n₀ ≤ w.heap.size)
    (hc : w.cell? ⟨Bs, 0, none⟩ = some sv) (hI : ∃ w0, Rd w0 encI sv zs ∧ w0.heap.size ≤ n₀ ∧ Below w0.heap.size w0 w) :
    SeqStopsK F n Tryz.prog 112 #[.pointer (some ⟨Bs, 0, none⟩)] (fun x : Int => #[Value.int .i64 x]) (Below n₀) (fun ys => ys = zs)
      (fun pre => ∃ k, k ≤ zs.length ∧ pre = zs.take k) zs.length w := fun l J Jx W hW _ _ hY h0 => by
  have hc' := (hW.cell (p := ⟨Bs, 0, none⟩) (Nat.lt_of_lt_of_le hBs0 hn₀)).trans hc
  obtain ⟨w0, hrd, hw0, hbw⟩ := hI
  rcases Nat.eq_zero_or_pos zs.length with hz | hp
  · obtain rfl : zs = [] := List.eq_nil_of_length_eq_zero hz
    obtain ⟨a, c, rfl, -⟩ := hrd.form
    exact (valI1_nil_in F n hF hro l Bs c a J W hc' h0).mono fun e W' ⟨he, hj⟩ => ⟨he, .inl ⟨_, rfl, hj⟩⟩
  · obtain ⟨b, o, c, hv, _, hlt, hcell⟩ := hrd.cells encI_ok hp
    subst hv
    refine valI1_in F n hF hro hn l Bs n₀ b o c zs hlen J Jx hY W hc' (fun W' hW' j hj => ?_) h0
    have hb2 : Below w0.heap.size w0 W' := hbw.trans ((hW.mono hbw.size).trans (hW'.mono hw0))
    have q := hcell W' (fun k hk => by cases hk; exact hb2.block b hlt) j hj 0 _ (by omega) rfl
    rw [Nat.mul_one, Nat.add_zero] at q
    exact q
theorem encI_int (l : List Int) : l.flatMap encI = l.map (Value.int .i64) := by
  induction l with
  | nil => rfl
  | cons x l ih => simp [encI, List.flatMap_cons, ih]
set_option maxRecDepth 100000 in
set_option maxHeartbeats 4000000 in
theorem apI_any (w : World) (Bs : Nat) (sv : Value) (zs : List Int) (hlen : zs.length ≤ 1000000) (hBs : Bs < w.heap.size) (hc : w.cell? ⟨Bs, 0, none⟩ = some sv) (hI : ∃ w0, Rd w0 encI sv zs ∧ w0.heap.size ≤ w.heap.size ∧ Below w0.heap.size w0 w) :
    Calls Tryz.prog 127 #[.slice none 0 0, .func (.func 112) #[] #[.pointer (some ⟨Bs, 0, none⟩)]] w fun e w' => ∃ v, e = .returned v ∧ Slc.Own w' w.heap.size 3 1 encI v zs ∧ Below w.heap.size w w' := by
  obtain ⟨i0, hi0, hz0, hz1, hz2⟩ := info_parts info_int
  obtain ⟨p, hp⟩ : ∃ p, p = w.heap.size := ⟨_, rfl⟩
  have HP := Bx.mk hp
  obtain ⟨W1, hW1⟩ : ∃ W1, W1 = w.alloc (.cells #[.slice none 0 0] 22) := ⟨_, rfl⟩
  have HB0 := Bx.mk (show Below p w W1 by rw [hW1, hp]; exact (Below.refl _ _).alloc (Nat.le_refl _) _)
  have HR0 := Bx.mk (show W1.heap[p]? = some (.cells #[.slice none 0 0] 22 (0, 0)) by rw [hW1]; exact Rg.alloc_at hp)
  have HZ := Bx.mk (show W1.heap.size = p + 1 by rw [hW1, hp]; simp)
  have HI := Bx.mk hI
  have HC := Bx.mk (show W1.cell? ⟨Bs, 0, none⟩ = some sv from (HB0.out.cell (p := ⟨Bs, 0, none⟩) (by rw [hp]; exact hBs)).trans hc)
  rw [← hp] at hBs
  have HBS := Bx.mk hBs
  clear hI hc hBs
  refine (callsIn_wide (n := 6)).1 (callsIn_of_wp_marks Tryz.func127 rfl trivial (wpIn_wide.2 ?_) rfl)
  simp only [Tryz.ntmps127, List.size_toArray, List.length_cons, List.length_nil, Nat.reduceAdd, Nat.reduceSub, Array.replicate_succ, Array.replicate_zero, List.push_toArray, List.append_toArray, List.nil_append, List.cons_append]
  go_wp2
  rw [← hp, ← hW1]
  clear hp hW1
  refine wpIn_wide.1 (rf_H (F := Fence.wide) (n := 6) rfl (by omega) (gf := 112) (lb := #[.pointer (some ⟨Bs, 0, none⟩)]) rfl trivial (enters_of Tryz.func112 (by kernel_rfl) rfl)
    (valI_stops Fence.wide 5 trivial rfl (by omega) Bs p sv zs (by omega) W1 HBS.out (by have := HZ.out; omega) HC.out (by
      obtain ⟨w0, h1, h2, h3⟩ := HI.out
      exact ⟨w0, h1, by rw [HP.out]; exact h2, h3.trans (HB0.out.mono (by rw [HP.out]; exact h2))⟩)) belowK_t (belowK_b (by have := HZ.out; omega)) (Below.refl _ _) (fun _ => rfl)
    (fun pre W => (∃ v, W.heap[p]? = some (.cells #[v] 22 (0, 0)) ∧ Slc.Own W (p + 1) 3 1 encI v pre) ∧ Below p w W)
    (fun _ _ _ => False)
    (OwnFrom.and (fun s A B row h hg hr => by obtain ⟨v, h1, h2⟩ := h; exact ⟨v, cells_kept h1 hg hr, own_kept h2 hg hr⟩) (ownFrom_below (by have := HP.out; omega) (by have := HZ.out; omega)))
    (fun c s A B row h hg hr => h)
    ⟨⟨_, HR0.out, Slc.Own.nil _ _⟩, HB0.out⟩
    (fun a x a' W => a' = { tmps := (a.tmps.setIfInBounds 7 (.int .i64 x)).setIfInBounds 5 (.int .i64 x), defers := [] })
    (fun x a' s A B row h hg hr => h)
    ?assign ?body ?done ?stop)
  case assign =>
    rintro l' pre x W K' hI hK
    gi_wp2
    exact hK _ _ (KeepsFrom.refl _ _) (Below.refl _ _) hI rfl
  case body =>
    rintro l' pre x a' W hl' hr ⟨⟨v, h1, h2⟩, hB⟩ rfl hlt
    simp only [List.setIfInBounds_toArray, List.set_cons_succ, List.set_cons_zero]
    have hc0 := cell_of_row _ _ 0 _ _ _ h1
    simp only [List.getElem?_toArray, List.getElem?_cons_zero] at hc0
    have hpl := lt_of_at h1
    obtain ⟨av, cv, rfl, -⟩ := h2.rd.form
    have hpk : ∀ (o : Obj) (w3 : World), (W.alloc o).grownBy w3 (Value.slice av pre.length cv).ownBlock → w3.heap[p]? = some (.cells #[.slice av pre.length cv] 22 (0, 0)) := fun o w3 hg => (hg.block p (by simp; omega) (fun e => by have := (h2.lt p e.symm).1; omega)).trans (Rg.alloc_keep h1)
    have H2 := Bx.mk h2
    have HB := Bx.mk hB
    have HLT := Bx.mk hlt
    have HPL := Bx.mk hpl
    have HPK := Bx.mk hpk
    clear h1 h2 hB hlt hpk
    have hen : encI x = [.int .i64 x] := rfl
    gi_wp2_with (gi_at_builtin; refine wpListIn_append_own _ rfl _ _ 22 rfl (p + 1) 3 i0 (.int .i64 0) 1 8 und_ints hi0 hz0 hz1 hz2 rfl (by decide) _ _ _ rfl (H2.out.alloc _) ⟨W.heap.size, 0, none⟩ 1 1 [.int .i64 x] rfl rfl (cell_one_new _ _ _) (by simp [Value.oneCell']) (by have := HLT.out; unfold maxLen; omega) (by have := HLT.out; omega) (by have := HPL.out; simp; omega) ?_; intro v' w3 hown' hg3 hnil3; obtain ⟨g', cap', rfl⟩ := ownsRow_succ hown'; have hp3 := HPK.out _ _ hg3; have hz3 := frozen_row (i := 0) hp3; have hcc3 := cell_of_row _ _ 0 _ _ _ hp3; simp only [List.getElem?_toArray, List.getElem?_cons_zero] at hcc3)
    have hsz3 := hg3.size
    have hpl := HPL.out
    simp only [World.size_alloc] at hsz3
    have hOW : Slc.Own w3 (p + 1) 3 1 encI (.slice (some ⟨g', 0, none⟩) (pre.length + 1) cap') (pre ++ [x]) := Slc.Own.of hown' (by simp) (by rw [List.flatMap_append]; rfl)
    have hbw : Below p W w3 := ((Below.refl p W).alloc (by omega) _).grown hg3 (by simp; omega) (fun k hk => by have := (H2.out.lt k hk).1; omega)
    refine ⟨(((KeepsOthers.alloc _ _).from _).trans ((KeepsOthers.of_grownBy hg3 (fun j o hj ho => own_cells (H2.out.alloc _) j o hj ho)).from _)).trans ((KeepsOthers.setCell _ _ _).from _), hbw.setCell (Nat.le_refl _) _, ⟨_, row_set hp3 _, ?_⟩, (HB.out.trans hbw).setCell (Nat.le_refl _) _⟩
    refine hOW.keep fun k hk hlt => heap_setCell_other _ _ _ _ fun e => ?_
    have e : k = p := e
    have := (hOW.lt k hk).1
    omega
  case done =>
    rintro D ys W hD rfl ⟨⟨v, h1, h2⟩, hB⟩ hK
    have hc0 := cell_of_row _ _ 0 _ _ _ h1
    simp only [List.getElem?_toArray, List.getElem?_cons_zero] at hc0
    obtain ⟨av, cv, rfl, -⟩ := h2.rd.form
    have H2 := Bx.mk h2
    have HB := Bx.mk hB
    clear h1 h2 hB
    go_wp2
    refine ⟨by simp, .inl ⟨_, _, rfl, run_takeDeferred hK, ?_⟩⟩
    refine ⟨_, results_tmp rfl _ _ _, _, rfl, ?_, ?_⟩
    · exact (own_kept (B0 := 0) H2.out (grownBy_putObj' _ D _) (fun r hr => by cases hr; exact ⟨by omega, _, hK, rfl⟩)).mono (by have := HP.out; omega)
    · rw [← HP.out]
      exact HB.out.trans (belowK_b (w := W1) (by have := HZ.out; omega) W D _ _ hD hK rfl rfl)
  case stop =>
    rintro D c pre W hD hS hF
    exact hF.elim
theorem holds_ints {w : World} {Bk g n cap : Nat} {l : List Int} (h : Slc.Own w Bk 3 1 encI (.slice (some ⟨g, 0, none⟩) n cap) l) : Holds (Value.int .i64) w g 0 l.toArray := by
  intro i hi
  have hi' : i < l.length := by simpa using hi
  have h1 := Slc.Own.cell encI_ok h i hi' 0 (by omega) _ rfl
  rw [Nat.mul_one, Nat.add_zero] at h1
  refine ⟨?_, ?_⟩
  · rw [Nat.zero_add, h1, getElem!_pos l.toArray i hi]; simp
  · rcases h.2 with ⟨h0, hn⟩ | ⟨g', cap', cur, hv, _, hb, _⟩
    · simp at h0
    · simp only [Value.slice.injEq, Option.some.injEq, Addr.mk.injEq] at hv
      obtain ⟨⟨rfl, -⟩, -⟩ := hv
      simp [World.frozen?, hb]
theorem own_putI {w W : World} {Bk g n cap m k : Nat} {os : Array Obj} {l d : List Int} (h : Slc.Own w Bk 3 1 encI (.slice (some ⟨g, 0, none⟩) n cap) l) (hs : d.length = l.length) (hk : k ≤ d.length) (hS : W = grow (putRow (Value.int .i64) (Sort.ahead w m) g 0 d.toArray) os) :
    Slc.Own W Bk 3 1 encI (.slice (some ⟨g, 0, none⟩) k cap) (d.take k) ∧ w.grownBy W (some g) := by
  subst hS
  rcases h.2 with ⟨h0, hn⟩ | ⟨g', cap', cur, hv, hB, hb, hc, hm, hcs, ht⟩
  · simp at h0
  simp only [Value.slice.injEq, Option.some.injEq, Addr.mk.injEq] at hv
  obtain ⟨⟨rfl, -⟩, rfl, rfl⟩ := hv
  have hg : g < w.heap.size := lt_of_some hb
  have hheap : (grow (putRow (Value.int .i64) (Sort.ahead w m) g 0 d.toArray) os).heap[g]? = some (.cells (putCells (Value.int .i64) 0 d.toArray cur) 3 (0, 0)) := by
    unfold putRow
    rw [heap_grow_old _ _ (by simpa [mapBlock] using hg)]
    simp [mapBlock, Sort.ahead, Array.getElem?_modify, hb, onCells]
  have hlk : (d.take k).length = k := by rw [List.length_take]; omega
  refine ⟨⟨by rw [flat_len encI_ok, hlk], .inr ⟨g, cap, putCells (Value.int .i64) 0 d.toArray cur, by rw [hlk], hB, hheap, by rw [hlk]; omega, hm, by simp [putCells, hcs], ?_⟩⟩, ⟨rfl, rfl, rfl, by simp [putRow, mapBlock], fun j hj hne => ?_⟩⟩
  · rw [hlk, Nat.mul_one]
    apply List.ext_getElem?
    intro j
    rw [encI_int]
    by_cases hj : j < k
    · rw [List.getElem?_take_of_lt hj, List.getElem?_map, List.getElem?_take_of_lt hj, Array.getElem?_toList]
      have h1 : j < cur.size := by omega
      have h2 : j < d.length := by omega
      simp [putCells, h1, h2]
    · rw [List.getElem?_take_eq_none (by omega), List.getElem?_eq_none (by simp; omega)]
  · unfold putRow
    rw [heap_grow_old _ _ (by simpa [mapBlock] using hj)]
    have : g ≠ j := fun e => hne (by rw [e])
    simp [mapBlock, Sort.ahead, Array.getElem?_modify, this]
theorem sortI_any (w : World) (Bk : Nat) (v : Value) (l : List Int) (h : Slc.Own w Bk 3 1 encI v l) (hn : l.length ≤ 1000000) :
    Calls Tryz.prog 111 #[v] w fun e w' => e = .returned (.tuple #[]) ∧ Slc.Own w' Bk 3 1 encI v (l.mergeSort fun x y => decide (x ≤ y)) ∧ w.grownBy w' v.ownBlock := by
  obtain ⟨ad, c, rfl, -⟩ := h.rd.form
  rcases Nat.eq_zero_or_pos l.length with h0 | hp
  · obtain rfl : l = [] := List.eq_nil_of_length_eq_zero h0
    refine (AnyM.slices_Sort_int_none Tryz.sortI ad c w).mono ?_
    rintro e w' ⟨rfl, rfl⟩
    exact ⟨rfl, by simpa using h, rfl, rfl, rfl, Nat.le_refl _, fun _ _ _ => rfl⟩
  · have h' := h
    rcases h'.2 with ⟨_, hn0⟩ | ⟨g, cap, cur, hv, hB, hb, -⟩
    · omega
    simp only [Value.slice.injEq] at hv
    obtain ⟨rfl, -, rfl⟩ := hv
    refine (AnyM.slices_Sort_int Tryz.sortI g 0 c l w (holds_ints h) (lt_of_some hb) (by omega)).mono ?_
    rintro e w' ⟨rfl, m, os, hW⟩
    have hl : (l.mergeSort fun x y => decide (x ≤ y)).length = l.length := List.length_mergeSort _
    have := own_putI (k := l.length) h hl (by omega) hW
    rw [List.take_of_length_le (by omega)] at this
    exact ⟨rfl, this⟩
set_option maxRecDepth 100000 in
set_option maxHeartbeats 2000000 in
theorem sortedI_any (w : World) (Bs : Nat) (sv : Value) (zs : List Int) (hlen : zs.length ≤ 1000000) (hBs : Bs < w.heap.size) (hc : w.cell? ⟨Bs, 0, none⟩ = some sv) (hI : ∃ w0, Rd w0 encI sv zs ∧ w0.heap.size ≤ w.heap.size ∧ Below w0.heap.size w0 w) :
    Calls Tryz.prog 73 #[.func (.func 112) #[] #[.pointer (some ⟨Bs, 0, none⟩)]] w fun e w' => ∃ v, e = .returned v ∧ Slc.Own w' w.heap.size 3 1 encI v (zs.mergeSort fun x y => decide (x ≤ y)) ∧ Below w.heap.size w w' := by
  have h1 := apI_any w Bs sv zs hlen hBs hc hI
  have h2 : Calls Tryz.prog 110 #[.func (.func 112) #[] #[.pointer (some ⟨Bs, 0, none⟩)]] w fun e w' => ∃ v, e = .returned v ∧ Slc.Own w' w.heap.size 3 1 encI v zs ∧ Below w.heap.size w w' := by
    clear hI hc hBs
    go_enter Tryz.func110, Tryz.ntmps110
    go_wp2_with (go_at_call 127; refine h1.mono ?_; rintro e w' ⟨v, rfl, ho, hb⟩; obtain ⟨av, cv, rfl, -⟩ := ho.rd.form)
    go_ret
    exact ⟨_, rfl, ho, hb⟩
  clear h1 hI hc hBs
  go_enter Tryz.func73, Tryz.ntmps73
  go_wp2_with fail
  go_at_call 110
  refine h2.mono ?_
  rintro e w1 ⟨v, rfl, ho, hb⟩
  have h3 := sortI_any w1 w.heap.size v zs ho hlen
  obtain ⟨av, cv, rfl, -⟩ := ho.rd.form
  clear h2
  go_wp2_with fail
  go_at_call 111
  refine h3.mono ?_
  rintro e w2 ⟨rfl, ho2, hg2⟩
  go_wp2_with fail
  go_ret
  exact ⟨_, rfl, ho2, hb.grown hg2 hb.size fun k hk => (ho.lt k hk).1⟩
end Go.Proofs.YtmagjdocondmhaaGreat.Tr.Gr
namespace Go.Proofs.YtmagjdocondmhaaGreat.Tr.Gr
open Go Go.RowKit Go.Proofs.YtmagjdocondmhaaGreat.Slc Go.Proofs.YtmagjdocondmhaaGreat.St Go.Proofs.YtmagjdocondmhaaGreat.Mp Go.Proofs.YtmagjdocondmhaaGreat.Tr Go.Proofs.YtmagjdocondmhaaGreat.Rg
set_option linter.unusedVariables false
set_option linter.unusedSimpArgs false

/-- ints in order -/
def srtI (l : List Int) : List Int := l.mergeSort fun x y => decide (x ≤ y)
/-- one policy that a client wants -/
def resS (has : List B) (above : Int) (l : List Vx) (p : B) : List Vx :=
  if p ∈ has then l
  else if 0 ≤ fndP l p then l.set (fndP l p).toNat ⟨(l[(fndP l p).toNat]!).pol, (l[(fndP l p).toNat]!).ex, srtI ((l[(fndP l p).toNat]!).par ++ [above])⟩
  else insV l ⟨p, [p], [above]⟩
def resL (has : List B) (above : Int) (l : List Vx) (ks : List B) : List Vx := ks.foldl (resS has above) l
theorem resL_snoc (has : List B) (above : Int) (l : List Vx) (ks : List B) (p : B) : resL has above l (ks ++ [p]) = resS has above (resL has above l ks) p := by
  unfold resL; rw [List.foldl_append]; rfl
def delL (l : List Vx) (i : Nat) : List Vx := l.take i ++ l.drop (i + 1)
/-- the graph that Restrict prunes -/
def gresG (g : List (List Vx)) (ps : List B) : List (List Vx) :=
  if g.length = 0 ∨ ps.length = 0 ∨ anyP ∈ ps then g
  else if g.length = 1 ∨ fndP (wanG ps g (g.length - 1))[g.length - 1]! anyP < 0 then wanG ps g (g.length - 1)
  else (wanG ps g (g.length - 1)).set (g.length - 1) (resL (hasG ps g (g.length - 1)) (fndP (wanG ps g (g.length - 1))[g.length - 2]! anyP) (delL (wanG ps g (g.length - 1))[g.length - 1]! (fndP (wanG ps g (g.length - 1))[g.length - 1]! anyP).toNat) (setB ps))
def gresP (g : List (List Vx)) (ps : List B) : List (List Vx) × Int := if gvalidB g then (pruneG (gresG g ps), 0) else ([], 7)

/-- a special vertex lies below a special one -/
def SPG (g : List (List Vx)) : Prop := ∀ k, k + 1 < g.length → ∀ v ∈ g[k + 1]!, specV v = true → ∃ p : Nat, (p : Int) ∈ v.par ∧ p < (g[k]!).length ∧ specV (g[k]!)[p]! = true
theorem gvalid_spg {g : List (List Vx)} (h : gvalidB g = true) : SPG g := by
  intro k hk v hv hs
  have h1 := (gvalid_at h k hk).2 v hv
  have h2 := (gfit_par h1).2
  unfold gfitB at h1
  rw [Bool.and_eq_true] at h1
  have h3 := h1.2
  rw [if_pos hs] at h3
  simp only [Bool.and_eq_true, decide_eq_true_eq] at h3
  obtain ⟨p, hp⟩ := List.length_eq_one_iff.1 h3.1
  rw [hp] at h3 h2 ⊢
  have h4 := h2.2 p (by simp)
  refine ⟨p.toNat, ?_, by omega, h3.2.1⟩
  rw [Int.toNat_of_nonneg h4.1]; simp
theorem keepT_pre {α : Type} [Inhabited α] (l : List α) (m : List Bool) (k : Nat) : ∀ n, ∃ t, keepT l m (k + n) = keepT l m k ++ t
  | 0 => ⟨[], by simp⟩
  | n + 1 => by
    obtain ⟨t, ht⟩ := keepT_pre l m k n
    exact ⟨t ++ if m[k + n]! then [l[k + n]!] else [], by rw [show k + (n + 1) = k + n + 1 by omega, keepT_succ, ht, List.append_assoc]⟩
theorem keepT_at {α : Type} [Inhabited α] {l : List α} {m : List Bool} {p n : Nat} (hp : p < n) (hm : m[p]! = true) : rk m p < (keepT l m n).length ∧ (keepT l m n)[rk m p]! = l[p]! := by
  obtain ⟨t, ht⟩ := keepT_pre l m (p + 1) (n - (p + 1))
  rw [show p + 1 + (n - (p + 1)) = n by omega, keepT_succ, hm, if_pos rfl, List.append_assoc] at ht
  have hl := keepT_len l m p
  have h1 : rk m p < (keepT l m n).length := by rw [ht, List.length_append, hl]; simp
  refine ⟨h1, ?_⟩
  rw [getElem!_pos (keepT l m n) (rk m p) h1]
  simp only [ht]
  rw [List.getElem_append_right (by rw [hl]; exact Nat.le_refl _)]
  simp [hl, -List.getElem!_eq_getElem?_getD]
theorem spec_ren (m : List Bool) (v : Vx) : specV (renV m v) = specV v := rfl
theorem spec_wan (ps : List B) (st : Int) (v : Vx) : specV (wanV ps st v) = specV v := by unfold wanV; split <;> rfl
theorem wan_spec (ps : List B) (st : Int) {v : Vx} (h : specV v = true) : wanV ps st v = v := by
  unfold wanV hitV; rw [h]; rfl
theorem SPG.set {g : List (List Vx)} (h : SPG g) {k : Nat} (hk : k < g.length) (ps : List B) (st : Int) : SPG (g.set k (wanL ps st g[k]!)) := by
  have hat : ∀ j, j < g.length → (g.set k (wanL ps st g[k]!))[j]! = if j = k then wanL ps st g[k]! else g[j]! := fun j hj => by
    rw [getElem!_pos _ j (by simpa using hj), List.getElem_set]
    by_cases e : k = j
    · rw [if_pos e, if_pos e.symm]
    · rw [if_neg e, if_neg (fun q => e q.symm), getElem!_pos g j hj]
  have hsp : ∀ j, j < g.length → ∀ p, p < (g[j]!).length → specV (g[j]!)[p]! = true → p < ((g.set k (wanL ps st g[k]!))[j]!).length ∧ specV ((g.set k (wanL ps st g[k]!))[j]!)[p]! = true := fun j hj p hp hs => by
    rw [hat j hj]
    by_cases e : j = k
    · subst e
      rw [if_pos rfl]
      unfold wanL
      refine ⟨by rw [List.length_map]; exact hp, ?_⟩
      rw [getElem!_pos _ p (by rw [List.length_map]; exact hp), List.getElem_map, spec_wan]
      rwa [getElem!_pos _ p hp] at hs
    · rw [if_neg e]; exact ⟨hp, hs⟩
  intro j hj v hv hs
  rw [List.length_set] at hj
  rw [hat (j + 1) hj] at hv
  have hv' : v ∈ g[j + 1]! := by
    by_cases e : j + 1 = k
    · rw [if_pos e] at hv
      unfold wanL at hv
      obtain ⟨u, hu, rfl⟩ := List.mem_map.1 hv
      rw [spec_wan] at hs
      rw [wan_spec ps st hs, e]; exact hu
    · rw [if_neg e] at hv; exact hv
  obtain ⟨p, h1, h2, h3⟩ := h j hj v hv' hs
  obtain ⟨h4, h5⟩ := hsp j (by omega) p h2 h3
  exact ⟨p, h1, h4, h5⟩
theorem SPG.filt {g : List (List Vx)} (h : SPG g) {k : Nat} (hk : k < g.length) (hk0 : 0 < k) : SPG (filtG g k (marksA g[k]!)) := by
  intro j hj v hv hs
  rw [filtG_len] at hj
  rw [filtG_at hk (j + 1)] at hv
  rw [filtG_at hk j]
  by_cases e1 : j + 1 = k
  · rw [if_pos e1] at hv
    rw [if_neg (by omega), if_neg (by omega)]
    have hv' := keepT_mem (Nat.le_refl _) hv
    rw [← e1] at hv'
    exact h j hj v hv' hs
  · rw [if_neg e1] at hv
    by_cases e2 : j + 1 = k + 1
    · rw [if_pos e2] at hv
      have e3 : j = k := by omega
      subst e3
      rw [if_pos rfl]
      obtain ⟨u, hu, rfl⟩ := List.mem_map.1 hv
      rw [spec_ren] at hs
      obtain ⟨p, h1, h2, h3⟩ := h j hj u hu hs
      have hmk : (marksA g[j]!)[p]! = true := by
        rw [marksA_at _ p h2]
        obtain ⟨i, rfl⟩ : ∃ i, j = i + 1 := ⟨j - 1, by omega⟩
        have hmem : (g[i + 1]!)[p]! ∈ g[i + 1]! := by rw [getElem!_pos _ p h2]; exact List.getElem_mem h2
        obtain ⟨q, hq, -⟩ := h i (by omega) _ hmem h3
        exact decide_eq_true (List.length_pos_of_mem hq)
      obtain ⟨h4, h5⟩ := keepT_at (l := g[j]!) h2 hmk
      refine ⟨rk (marksA g[j]!) p, ?_, h4, by rw [h5]; exact h3⟩
      unfold renV renP
      refine List.mem_map.2 ⟨(p : Int), List.mem_filter.2 ⟨h1, ?_⟩, ?_⟩
      · rw [Int.toNat_natCast]; exact hmk
      · rw [Int.toNat_natCast]
    · rw [if_neg e2] at hv
      rw [if_neg (by omega)]
      obtain ⟨p, h1, h2, h3⟩ := h j hj v hv hs
      by_cases e4 : j = k + 1
      · rw [if_pos e4]
        refine ⟨p, h1, by rw [List.length_map]; exact h2, ?_⟩
        rw [getElem!_pos _ p (by rw [List.length_map]; exact h2), List.getElem_map, spec_ren]
        rwa [getElem!_pos _ p h2] at h3
      · rw [if_neg e4]; exact ⟨p, h1, h2, h3⟩
theorem set_at_self {g : List (List Vx)} {k : Nat} (hk : k < g.length) (l : List Vx) : (g.set k l)[k]! = l := by
  rw [getElem!_pos _ k (by simpa using hk), List.getElem_set_self]
theorem wanG_spg {g : List (List Vx)} (h : SPG g) (ps : List B) : ∀ n, n < g.length ∨ n = 0 → SPG (wanG ps g n)
  | 0, _ => h
  | n + 1, hn => by
    have h1 := wanG_spg h ps n (by omega)
    have hk : n + 1 < (wanG ps g n).length := by rw [wanG_len]; omega
    rw [wanG]
    unfold wanK
    have h2 := (h1.set hk ps (fndP (wanG ps g n)[n + 1 - 1]! anyP)).filt (k := n + 1) (by rw [List.length_set]; exact hk) (by omega)
    rw [set_at_self hk] at h2
    exact h2
theorem SPG.star {g : List (List Vx)} (h : SPG g) {k : Nat} (hk : k + 1 < g.length) (hs : 0 ≤ fndP g[k + 1]! anyP) : 0 ≤ fndP g[k]! anyP := by
  obtain ⟨j, hj, -, hp, -⟩ := fndP_some hs
  obtain ⟨p, -, h2, h3⟩ := h k hk (g[k + 1]!)[j]! (by rw [getElem!_pos _ j hj]; exact List.getElem_mem hj) (by unfold specV; exact decide_eq_true hp)
  rw [getElem!_pos _ p h2] at h3
  exact fndP_has (List.getElem_mem h2) (of_decide_eq_true h3)
/-- no vertex has too many parents -/
def PB (K : Nat) (g : List (List Vx)) : Prop := ∀ l ∈ g, ∀ v ∈ l, v.par.length ≤ K
theorem PB.filt {K : Nat} {g : List (List Vx)} (h : PB K g) {k : Nat} (hk : k < g.length) (m : List Bool) : PB K (filtG g k m) := by
  have hg : ∀ (j : Nat), ∀ v ∈ g[j]!, v.par.length ≤ K := fun j v hv => by
    by_cases hj : j < g.length
    · rw [getElem!_pos g j hj] at hv; exact h _ (List.getElem_mem hj) v hv
    · rw [getElem!_neg g j hj] at hv; cases hv
  intro l hl v hv
  obtain ⟨j, hj, rfl⟩ := List.getElem_of_mem hl
  rw [← getElem!_pos (filtG g k m) j hj, filtG_at hk j] at hv
  split at hv
  · rename_i e
    exact hg k v (keepT_mem (Nat.le_refl _) hv)
  · split at hv
    · obtain ⟨u, hu, rfl⟩ := List.mem_map.1 hv
      exact Nat.le_trans (renP_len _ _) (hg j u hu)
    · exact hg j v hv
theorem PB.set {K : Nat} {g : List (List Vx)} (h : PB K g) (k : Nat) {l : List Vx} (hl : ∀ v ∈ l, v.par.length ≤ K) : PB K (g.set k l) := fun m hm v hv => by
  rcases List.mem_or_eq_of_mem_set hm with q | rfl
  · exact h m q v hv
  · exact hl v hv
theorem wanV_plen (ps : List B) (st : Int) (v : Vx) : (wanV ps st v).par.length ≤ v.par.length := by
  unfold wanV
  split
  · exact List.length_filter_le _ _
  · exact Nat.le_refl _
theorem wanG_pb {K : Nat} {g : List (List Vx)} (h : PB K g) (ps : List B) : ∀ n, n < g.length ∨ n = 0 → PB K (wanG ps g n)
  | 0, _ => h
  | n + 1, hn => by
    have h1 := wanG_pb h ps n (by omega)
    have hk : n + 1 < (wanG ps g n).length := by rw [wanG_len]; omega
    rw [wanG]
    unfold wanK
    refine (h1.set (n + 1) fun v hv => ?_).filt (by rw [List.length_set]; exact hk) _
    unfold wanL at hv
    obtain ⟨u, hu, rfl⟩ := List.mem_map.1 hv
    rw [getElem!_pos _ (n + 1) hk] at hu
    exact Nat.le_trans (wanV_plen ps _ u) (h1 _ (List.getElem_mem hk) u hu)
theorem resS_par {has : List B} {above : Int} {l : List Vx} {p : B} {v : Vx} (h : v ∈ resS has above l p) : ∃ u, (u ∈ l ∨ u.par = []) ∧ (v.par = u.par ∨ v.par = srtI (u.par ++ [above])) := by
  unfold resS at h
  split at h
  · exact ⟨v, .inl h, .inl rfl⟩
  · split at h
    · rename_i h0
      obtain ⟨k, hk, he, -⟩ := fndP_some h0
      rcases List.mem_or_eq_of_mem_set h with q | rfl
      · exact ⟨v, .inl q, .inl rfl⟩
      · refine ⟨l[k]!, .inl ?_, .inr ?_⟩
        · rw [getElem!_pos l k hk]; exact List.getElem_mem hk
        · rw [he, Int.toNat_natCast]
    · rcases insV_mem h with q | rfl
      · exact ⟨v, .inl q, .inl rfl⟩
      · exact ⟨⟨[], [], []⟩, .inr rfl, .inr (by simp [srtI])⟩
theorem srtI_mem {l : List Int} {x : Int} : x ∈ srtI l ↔ x ∈ l := by unfold srtI; exact List.mem_mergeSort
theorem srtI_len (l : List Int) : (srtI l).length = l.length := by unfold srtI; exact List.length_mergeSort _
theorem resS_len (has : List B) (above : Int) (l : List Vx) (p : B) : (resS has above l p).length ≤ l.length + 1 := by
  unfold resS
  split
  · omega
  · split
    · rw [List.length_set]; omega
    · rw [insV_len]; omega
theorem resL_len (has : List B) (above : Int) : ∀ (ks : List B) (l : List Vx), (resL has above l ks).length ≤ l.length + ks.length
  | [], l => by simp [resL]
  | p :: ks, l => by
    have h1 := resL_len has above ks (resS has above l p)
    have h2 := resS_len has above l p
    have e : resL has above l (p :: ks) = resL has above (resS has above l p) ks := rfl
    rw [e, List.length_cons]; omega
/-- parents in range, and how many -/
theorem resL_par {has : List B} {above : Int} {n : Nat} (ha : 0 ≤ above ∧ above < (n : Int)) : ∀ (ks : List B) (l : List Vx) (K : Nat), (∀ v ∈ l, v.par.length ≤ K ∧ ∀ p ∈ v.par, 0 ≤ p ∧ p < (n : Int)) → ∀ v ∈ resL has above l ks, v.par.length ≤ K + ks.length ∧ ∀ p ∈ v.par, 0 ≤ p ∧ p < (n : Int)
  | [], l, K, h, v, hv => ⟨Nat.le_trans (h v hv).1 (by simp), (h v hv).2⟩
  | q :: ks, l, K, h, v, hv => by
    have hs : ∀ u ∈ resS has above l q, u.par.length ≤ K + 1 ∧ ∀ p ∈ u.par, 0 ≤ p ∧ p < (n : Int) := fun u hu => by
      obtain ⟨z, hz, e⟩ := resS_par hu
      have hz' : z.par.length ≤ K ∧ ∀ p ∈ z.par, 0 ≤ p ∧ p < (n : Int) := by
        rcases hz with hz | hz
        · exact h z hz
        · rw [hz]; exact ⟨by simp, fun p hp => by cases hp⟩
      rcases e with e | e
      · rw [e]; exact ⟨by omega, hz'.2⟩
      · rw [e, srtI_len, List.length_append]
        refine ⟨by simp; exact hz'.1, fun p hp => ?_⟩
        rw [srtI_mem, List.mem_append] at hp
        rcases hp with hp | hp
        · exact hz'.2 p hp
        · rw [List.mem_singleton] at hp; subst hp; exact ha
    have h2 := resL_par ha ks (resS has above l q) (K + 1) hs v hv
    rw [List.length_cons]
    exact ⟨by have := h2.1; omega, h2.2⟩
theorem delL_mem {l : List Vx} {i : Nat} {v : Vx} (h : v ∈ delL l i) : v ∈ l := by
  unfold delL at h
  rcases List.mem_append.1 h with q | q
  · exact List.mem_of_mem_take q
  · exact List.mem_of_mem_drop q
theorem delL_len (l : List Vx) (i : Nat) : (delL l i).length ≤ l.length := by
  unfold delL
  rw [List.length_append, List.length_take, List.length_drop]; omega
end Go.Proofs.YtmagjdocondmhaaGreat.Tr.Gr
namespace Go.Proofs.YtmagjdocondmhaaGreat.Tr.Gr
open Go Go.RowKit Go.Proofs.YtmagjdocondmhaaGreat.Slc Go.Proofs.YtmagjdocondmhaaGreat.St Go.Proofs.YtmagjdocondmhaaGreat.Mp Go.Proofs.YtmagjdocondmhaaGreat.Tr Go.Proofs.YtmagjdocondmhaaGreat.Rg
set_option linter.unusedVariables false
set_option linter.unusedSimpArgs false

theorem PDG.mono {w : World} {Bk U U' : Nat} {g : List Lv} (h : PDG w Bk U g) (hU : U ≤ U') : PDG w Bk U' g := ⟨h.own, h.ap, h.ab, h.ex, fun L hL x hx k hk => Nat.lt_of_lt_of_le (h.ul L hL x hx k hk) hU⟩
theorem PDG.fr {w w' : World} {Bk U : Nat} {v : Value} {g : List Lv} (h : PDG w Bk U g) (hg : GO w Bk v g) (hf : Fr (GB v g) w w') : PDG w' Bk U g := h.keep fun L hL x hx k hk hkl => hf.block k hkl fun hn => by
  have ho := h.own L hL x hx
  rcases hn with hn | ⟨L0, h0, hn⟩
  · exact own_type ho hg.own (by decide) k hk hn
  · exact own_type ho (hg.lv L0 h0) (by decide) k hk hn
/-- a level whose vertices are some of those that were there -/
theorem PDG.sub {w : World} {Bk U : Nat} {g : List Lv} (h : PDG w Bk U g) (n : Nat) (hn : n < g.length) (L' : Lv) (hL : L'.vs.Sublist (g[n]).vs) : PDG w Bk U (g.set n L') := by
  have key : ∀ (j : Nat) (hj : j < (g.set n L').length), ∃ hj' : j < g.length, ((g.set n L')[j]).vs.Sublist (g[j]).vs := by
    intro j hj
    have hj' : j < g.length := by simpa using hj
    refine ⟨hj', ?_⟩
    rw [List.getElem_set]
    by_cases e : n = j
    · rw [if_pos e]; subst e; exact hL
    · rw [if_neg e]; exact List.Sublist.refl _
  have kl : ∀ L ∈ g.set n L', ∃ L0 ∈ g, L.vs.Sublist L0.vs := fun L hLm => by
    obtain ⟨j, hj, rfl⟩ := List.getElem_of_mem hLm
    obtain ⟨hj', hs⟩ := key j hj
    exact ⟨g[j], List.getElem_mem hj', hs⟩
  refine ⟨fun L hLm x hx => ?_, fun L hLm => ?_, fun i j hi hj hij x hx y hy => ?_, fun L hLm x hx L2 hL2 y hy => ?_, fun L hLm x hx => ?_⟩
  · obtain ⟨L0, h0, hs⟩ := kl L hLm
    exact h.own L0 h0 x (hs.subset hx)
  · obtain ⟨L0, h0, hs⟩ := kl L hLm
    exact (h.ap L0 h0).sublist hs
  · obtain ⟨hi', hs⟩ := key i hi
    obtain ⟨hj', hs'⟩ := key j hj
    exact h.ab i j hi' hj' hij x (hs.subset hx) y (hs'.subset hy)
  · obtain ⟨L0, h0, hs⟩ := kl L hLm
    obtain ⟨L1, h1, hs'⟩ := kl L2 hL2
    exact h.ex L0 h0 x (hs.subset hx) L1 h1 y (hs'.subset hy)
  · obtain ⟨L0, h0, hs⟩ := kl L hLm
    exact h.ul L0 h0 x (hs.subset hx)
theorem insT_pair {R : Vt → Vt → Prop} {l : List Vt} {x : Vt} (h : l.Pairwise R) (h1 : ∀ y ∈ l, R y x) (h2 : ∀ y ∈ l, R x y) : (insT l x).Pairwise R := by
  unfold insT
  have hp : (l.take (plc (vxs l) x.n.pol) ++ l.drop (plc (vxs l) x.n.pol)).Pairwise R := by rw [List.take_append_drop]; exact h
  rw [List.pairwise_append] at hp
  obtain ⟨a1, a2, a3⟩ := hp
  refine List.pairwise_append.2 ⟨a1, List.pairwise_cons.2 ⟨fun y hy => h2 y (List.mem_of_mem_drop hy), a2⟩, fun a ha b hb => ?_⟩
  rcases List.mem_cons.1 hb with rfl | hb
  · exact h1 a (List.mem_of_mem_take ha)
  · exact a3 a ha b hb
/-- one more vertex, whose slices are new -/
theorem PDG.ins {w0 w : World} {Bk U : Nat} {g : List Lv} (h : PDG w Bk U g) (hlt : ∀ L ∈ g, ∀ y ∈ L.vs, (∀ k, y.q.val.ownBlock = some k → k < w0.heap.size) ∧ ∀ k, y.u.val.ownBlock = some k → k < w0.heap.size) (n : Nat) (hn : n < g.length) (L' : Lv) (x : Vt) (hL : L'.vs = insT (g[n]).vs x)
    (hxq : Slc.Own w Bk 3 1 encI x.q.val x.n.par) (hxb : ∀ k, x.q.val.ownBlock = some k → w0.heap.size ≤ k) (hxu : ∀ k, x.u.val.ownBlock = some k → w0.heap.size ≤ k ∧ k < w.heap.size) (hxx : ∀ k, x.q.val.ownBlock = some k → x.u.val.ownBlock ≠ some k) (hU : U ≤ w.heap.size) : PDG w Bk w.heap.size (g.set n L') := by
  have key : ∀ (j : Nat) (hj : j < (g.set n L').length), ∃ hj' : j < g.length, ∀ y ∈ ((g.set n L')[j]).vs, y ∈ (g[j]).vs ∨ (y = x ∧ j = n) := by
    intro j hj
    have hj' : j < g.length := by simpa using hj
    refine ⟨hj', fun y hy => ?_⟩
    rw [List.getElem_set] at hy
    by_cases e : n = j
    · rw [if_pos e, hL] at hy
      subst e
      exact (insT_mem hy).imp id fun q => ⟨q, rfl⟩
    · rw [if_neg e] at hy; exact .inl hy
  have hnew : ∀ L ∈ g, ∀ y ∈ L.vs, QA x y ∧ QA y x := fun L hLm y hy =>
    ⟨fun k h1 h2 => by have := hxb k h1; have := (hlt L hLm y hy).1 k h2; omega, fun k h1 h2 => by have := hxb k h2; have := (hlt L hLm y hy).1 k h1; omega⟩
  refine ⟨fun L hLm y hy => ?_, fun L hLm => ?_, fun i j hi hj hij y hy z hz => ?_, fun L hLm y hy L2 hL2 z hz k hk => ?_, fun L hLm y hy k hk => ?_⟩
  · obtain ⟨j, hj, rfl⟩ := List.getElem_of_mem hLm
    obtain ⟨hj', hk⟩ := key j hj
    rcases hk y hy with q | ⟨rfl, -⟩
    · exact h.own _ (List.getElem_mem hj') y q
    · exact hxq
  · obtain ⟨j, hj, rfl⟩ := List.getElem_of_mem hLm
    obtain ⟨hj', -⟩ := key j hj
    rw [List.getElem_set]
    by_cases e : n = j
    · rw [if_pos e, hL]
      exact insT_pair (h.ap _ (List.getElem_mem hn)) (fun y hy => (hnew _ (List.getElem_mem hn) y hy).2) (fun y hy => (hnew _ (List.getElem_mem hn) y hy).1)
    · rw [if_neg e]; exact h.ap _ (List.getElem_mem hj')
  · obtain ⟨hi', ki⟩ := key i hi
    obtain ⟨hj', kj⟩ := key j hj
    rcases ki y hy with q | ⟨ey, ei⟩
    · rcases kj z hz with r | ⟨ez, ej⟩
      · exact h.ab i j hi' hj' hij y q z r
      · rw [ez]; exact (hnew _ (List.getElem_mem hi') y q).2
    · rcases kj z hz with r | ⟨ez, ej⟩
      · rw [ey]; exact (hnew _ (List.getElem_mem hj') z r).1
      · omega
  · obtain ⟨i, hi, rfl⟩ := List.getElem_of_mem hLm
    obtain ⟨j, hj, rfl⟩ := List.getElem_of_mem hL2
    obtain ⟨hi', ki⟩ := key i hi
    obtain ⟨hj', kj⟩ := key j hj
    rcases ki y hy with q | ⟨ey, -⟩
    · rcases kj z hz with r | ⟨ez, -⟩
      · exact h.ex _ (List.getElem_mem hi') y q _ (List.getElem_mem hj') z r k hk
      · rw [ez]
        intro h2
        have := (hlt _ (List.getElem_mem hi') y q).1 k hk
        have := (hxu k h2).1
        omega
    · rw [ey] at hk
      rcases kj z hz with r | ⟨ez, -⟩
      · intro h2
        have := (hlt _ (List.getElem_mem hj') z r).2 k h2
        have := hxb k hk
        omega
      · rw [ez]; exact hxx k hk
  · obtain ⟨j, hj, rfl⟩ := List.getElem_of_mem hLm
    obtain ⟨hj', kj⟩ := key j hj
    rcases kj y hy with q | ⟨ey, -⟩
    · exact Nat.lt_of_lt_of_le (h.ul _ (List.getElem_mem hj') y q k hk) hU
    · rw [ey] at hk; exact (hxu k hk).2
/-- the facts of the region that adds a parent -/
def RsF (W : World) (Bk gb n nb RN rc i : Nat) (qa : Option Addr) (QN qc : Nat) (par : List Int) (AB : Int) : Nat → Value → World → Prop
  | 0, v, _ => v = .pointer (some ⟨gb, n, none⟩)
  | 1, v, _ => v = .pointer (some ⟨gb, n, none⟩)
  | 2, v, _ => v = .pointer (some ⟨gb, n, none⟩)
  | 3, v, _ => v = .slice (some ⟨nb, 0, none⟩) RN rc
  | 4, v, _ => v = .int .i64 (i : Nat)
  | 5, v, _ => v = .pointer (some ⟨gb, n, none⟩)
  | 6, v, _ => v = .pointer (some ⟨gb, n, none⟩)
  | 7, v, _ => v = .pointer (some ⟨gb, n, none⟩)
  | 8, v, _ => v = .slice (some ⟨nb, 0, none⟩) RN rc
  | 9, v, _ => v = .int .i64 (i : Nat)
  | 10, v, _ => v = .pointer (some ⟨nb, i * 3, none⟩)
  | 11, v, _ => v = .pointer (some ⟨nb, i * 3 + 2, none⟩)
  | 12, v, _ => v = .slice qa QN qc
  | 13, v, _ => v = .int .i64 AB
  | 14, v, w => ∃ b, v = .slice (some ⟨b, 0, none⟩) 1 1 ∧ W.heap.size ≤ b ∧ w.heap[b]? = some (.cells #[.int .i64 AB] 3 (0, 0))
  | 15, v, w => (∃ a n c, v = .slice a n c) ∧ Slc.Own w Bk 3 1 encI v (par ++ [AB])
  | 16, v, w => ∃ b u, v = .func (.func 112) #[] #[.pointer (some ⟨b, 0, none⟩)] ∧ W.heap.size ≤ b ∧ w.heap[b]? = some (.cells #[u] 22 (0, 0)) ∧ Slc.Own w Bk 3 1 encI u (par ++ [AB])
  | 17, v, w => (∃ a n c, v = .slice a n c) ∧ Slc.Own w W.heap.size 3 1 encI v (srtI (par ++ [AB]))
  | 18, v, _ => v = .pointer (some ⟨nb, i * 3, none⟩)
  | 19, v, _ => v = .pointer (some ⟨nb, i * 3 + 2, none⟩)
  | _, _, _ => True
theorem RsF.below {W : World} {Bk gb n nb RN rc i : Nat} {qa : Option Addr} {QN qc : Nat} {par : List Int} {AB : Int} (j : Nat) (v : Value) (w w' : World) (h : RsF W Bk gb n nb RN rc i qa QN qc par AB j v w) (hb : Below w.heap.size w w') : RsF W Bk gb n nb RN rc i qa QN qc par AB j v w' := by
  match j with
  | 0 | 1 | 2 | 3 | 4 | 5 | 6 | 7 | 8 | 9 | 10 | 11 | 12 | 13 | 18 | 19 => exact h
  | 14 => obtain ⟨b, h1, h2, h3⟩ := h; exact ⟨b, h1, h2, (hb.block b (lt_of_some h3)).trans h3⟩
  | 15 => exact ⟨h.1, h.2.below hb⟩
  | 16 => obtain ⟨b, u, h1, h2, h3, h4⟩ := h; exact ⟨b, u, h1, h2, (hb.block b (lt_of_some h3)).trans h3, h4.below hb⟩
  | 17 => exact ⟨h.1, h.2.below hb⟩
  | _ + 20 => exact trivial
/-- .. beside the append -/
theorem RsF.big {W : World} {Bk gb n nb RN rc i : Nat} {qa : Option Addr} {QN qc : Nat} {par : List Int} {AB : Int} (j : Nat) (v : Value) (w w' : World) (h : RsF W Bk gb n nb RN rc i qa QN qc par AB j v w) (h15 : j ≠ 15) (h16 : j ≠ 16) (ob : Option Nat) (hob : ∀ k, ob = some k → k < W.heap.size) (hg : w.grownBy w' ob) : RsF W Bk gb n nb RN rc i qa QN qc par AB j v w' := by
  match j with
  | 0 | 1 | 2 | 3 | 4 | 5 | 6 | 7 | 8 | 9 | 10 | 11 | 12 | 13 | 18 | 19 => exact h
  | 14 => obtain ⟨b, h1, h2, h3⟩ := h; exact ⟨b, h1, h2, (hg.block b (lt_of_some h3) (fun e => by have := hob b e.symm; omega)).trans h3⟩
  | 15 => exact absurd rfl h15
  | 16 => exact absurd rfl h16
  | 17 => exact ⟨h.1, h.2.keep fun k hk hkl => hg.block k hkl (fun e => by have := hob k e.symm; have := (h.2.lt k hk).1; omega)⟩
  | _ + 20 => exact trivial
structure RsC (W : World) (ob : Option Nat) (d : Nat → Bool) (w : World) : Prop where
  gr : W.grownBy w ob
  be : d 15 = false → Below W.heap.size W w
end Go.Proofs.YtmagjdocondmhaaGreat.Tr.Gr
