/-
  Backward at nodes, for a loop that writes to one block ahead of it.
-/
/-
  slices.Clone at strings and at nodes; marks.
-/
/-
  ptree.keep.
-/
import Derived.Test.YtmagjdocondmhaaTrValid
import Derived.Test.YtmagjdocondmhaaRange
import Derived.WalkSpells
namespace Go.Proofs.Ytmagjdocondmhaa.Tr
open Go Go.RowKit Go.Shelf Go.Sort Go.Proofs.Ytmagjdocondmhaa.Slc Go.Proofs.Ytmagjdocondmhaa.St Go.Proofs.Ytmagjdocondmhaa.Mp Go.Proofs.Ytmagjdocondmhaa.Rg
set_option linter.unusedVariables false
set_option linter.unusedSimpArgs false
attribute [local go_sem] Oper.semAt_some

def bw {α : Type} (l : List α) (k : Nat) : List (Int × α) := ((l.mapIdx fun i x => ((i : Int), x)).reverse).take k
theorem bw_succ {α : Type} (l : List α) (k m : Nat) (h : m + 1 + k = l.length) : bw l (k + 1) = bw l k ++ [((m : Int), l[m]'(by omega))] := by
  unfold bw
  rw [List.take_succ_eq_append_getElem (by simp; omega)]
  congr 2
  rw [List.getElem_reverse]
  simp only [List.length_mapIdx, List.getElem_mapIdx]
  have : l.length - 1 - k = m := by omega
  simp only [this]
/-- a node whose slice shows its form -/
def nodS (x : Nt) : Value := .agg #[.int .i64 x.n.d, .int .i64 x.n.p, .string (bstr x.n.pol), .slice x.u.ad x.u.n x.u.c]
set_option maxRecDepth 100000 in
set_option maxHeartbeats 2000000 in
theorem backN2_in (F : Fence) (n : Nat) (hF : F.fn 77) (hro : F.round = none) (hn : 1 ≤ n) (l Bs b off cap : Nat) (zs : List Nt) (hlen : zs.length ≤ 1000000) (Kp : World → World → Prop) (hrefl : ∀ W, Kp W W) (htr : ∀ {A B C : World}, Kp A B → Kp B C → Kp A C) (J Jx : List (Int × Nt) → World → Prop)
    (hY : ∀ pre x W, J pre W → pre.length < zs.length → (∃ (m : Nat) (hm : m < zs.length), x = ((m : Int), zs[m])) → YieldAt F (n - 1) Try.prog l #[.int .i64 x.1, nodS x.2] W fun e W' =>
      (e = .returned (.bool true) ∧ J (pre ++ [x]) W' ∧ Kp W W') ∨ (e = .returned (.bool false) ∧ Jx (pre ++ [x]) W'))
    (W : World) (hBs : ∀ W', Kp W W' → W'.cell? ⟨Bs, 0, none⟩ = some (.slice (some ⟨b, off, none⟩) zs.length cap)) (hc : ∀ W', Kp W W' → ∀ j (h : j < zs.length), W'.cell? ⟨b, off + j * 4, none⟩ = some (.int .i64 (zs[j]).n.d) ∧ W'.cell? ⟨b, off + j * 4 + 1, none⟩ = some (.int .i64 (zs[j]).n.p) ∧ W'.cell? ⟨b, off + j * 4 + 2, none⟩ = some (.string (bstr (zs[j]).n.pol)) ∧ W'.cell? ⟨b, off + j * 4 + 3, none⟩ = some (.slice (zs[j]).u.ad (zs[j]).u.n (zs[j]).u.c)) (h0 : J [] W) :
    CallsIn F n Try.prog 77 #[.func (.yield l) #[] #[], .pointer (some ⟨Bs, 0, none⟩)] W fun e W' => (∃ v, e = .returned v) ∧
      ((∃ ys, ys = bw zs zs.length ∧ J ys W') ∨ (∃ pre, (∃ k, k ≤ zs.length ∧ pre = bw zs k) ∧ Jx pre W')) := by
  have HC := Lib.hid hc
  have HBSK := Lib.hid hBs
  clear hc hBs
  have hBs := HBSK.out W (hrefl W)
  refine callsIn_of_wp Try.func77 rfl hF ?_ hro
  simp only [Try.ntmps77, List.size_toArray, List.length_cons, List.length_nil, Nat.reduceAdd, Nat.reduceSub, Array.replicate_succ, Array.replicate_zero, List.push_toArray, List.append_toArray, List.nil_append, List.cons_append]
  gi_wp2
  gi_loopw [3] (fun i wr => ∃ m k : Nat, m + k = zs.length ∧ i = .int .i64 ((m : Int) - 1) ∧ J (bw zs k) wr ∧ Kp W wr)
    (fun i _ => (intOf i + 1).toNat)
  case atStart => exact ⟨zs.length, 0, by omega, rfl, h0, hrefl _⟩
  case round =>
    obtain ⟨m, k, hmk, rfl, hJs, hnx⟩ := hrel
    have HNX := Lib.hid hnx
    have HMK := Lib.hid hmk
    have hbs := HBSK.out wr hnx
    cases m with
    | zero =>
      obtain rfl : k = zs.length := by omega
      have e0 : (((0 : Nat) : Int) - 1) = -1 := rfl
      rw [e0]
      clear hmk hnx e0 hBs
      gi_wp2
      go_end0
      exact ⟨⟨_, rfl⟩, .inl ⟨_, rfl, hJs⟩⟩
    | succ m =>
      have e0 : (((m + 1 : Nat) : Int) - 1) = (m : Int) := by omega
      rw [e0]
      have hml : m < zs.length := by omega
      have hsucc := bw_succ zs k m (by omega)
      obtain ⟨x, hx⟩ : ∃ x, x = zs[m] := ⟨_, rfl⟩
      obtain ⟨c0, c1, c2, c3⟩ := HC.out wr hnx m hml
      rw [← hx] at hsucc c0 c1 c2 c3
      obtain ⟨fn, tmps, assign, body, hy, hR⟩ := hY _ ((m : Int), x) wr hJs (by unfold bw; rw [List.length_take, List.length_reverse, List.length_mapIdx]; omega) ⟨m, hml, by rw [hx]⟩
      have HS := Lib.hid hsucc
      dsimp only [nodS] at hy
      rw [← hsucc] at hR
      clear hmk hnx hsucc hx e0 hBs
      gi_wp2
      refine hR.mono ?_
      rintro e W3 (⟨rfl, hJ3, hk3⟩ | ⟨rfl, hJx3⟩)
      · gi_wp2
        go_roundw
        case rel => exact ⟨m, k + 1, by have := HMK.out; omega, by first | rfl | go_num, hJ3, htr HNX.out hk3⟩
        case measure => simp [intOf]
      · gi_wp2
        refine bodyPost_ret (results_none rfl _ _ _) rfl ?_
        exact ⟨⟨_, rfl⟩, .inr ⟨_, ⟨k + 1, by have := HMK.out; omega, rfl⟩, hJx3⟩⟩
theorem backN1_nil_in (F : Fence) (n : Nat) (hF : F.fn 77) (hro : F.round = none) (l Bs : Nat) (c : Nat) (a : Option Addr) (J : List (Int × Nt) → World → Prop) (W : World) (hBs : W.cell? ⟨Bs, 0, none⟩ = some (.slice a 0 c)) (h0 : J [] W) :
    CallsIn F n Try.prog 77 #[.func (.yield l) #[] #[], .pointer (some ⟨Bs, 0, none⟩)] W fun e W' => (∃ v, e = .returned v) ∧ J [] W' := by
  refine callsIn_of_wp Try.func77 rfl hF ?_ hro
  simp only [Try.ntmps77, List.size_toArray, List.length_cons, List.length_nil, Nat.reduceAdd, Nat.reduceSub, Array.replicate_succ, Array.replicate_zero, List.push_toArray, List.append_toArray, List.nil_append, List.cons_append]
  gi_wp2
  gi_loopw [3] (fun i wr => i = .int .i64 (-1) ∧ J [] wr) (fun _ _ => 0)
  case atStart => exact ⟨rfl, h0⟩
  case round =>
    obtain ⟨rfl, hJs⟩ := hrel
    gi_wp2
    go_end0
    exact ⟨⟨_, rfl⟩, hJs⟩
set_option maxHeartbeats 1000000 in
theorem backN_in (F : Fence) (n : Nat) (hF : F.fn 66) (hro : F.round = none) (a : Option Addr) (len cap : Nat) (w : World) :
    CallsIn F n Try.prog 66 #[.slice a len cap] w fun e w' => e = .returned (.func (.func 77) #[] #[.pointer (some ⟨w.heap.size, 0, none⟩)]) ∧ w' = w.alloc (.cells #[.slice a len cap] 23) := by
  refine callsIn_of_wp Try.func66 rfl hF ?_ hro
  simp only [Try.ntmps66, List.size_toArray, List.length_cons, List.length_nil, Nat.reduceAdd, Nat.reduceSub, Array.replicate_succ, Array.replicate_zero, List.push_toArray, List.append_toArray, List.nil_append, List.cons_append]
  gi_wp2
  go_ret
  exact ⟨rfl, rfl⟩
/-- a node with its index, whose parent is within the tree -/
abbrev NtB (N : Nat) := { x : Int × Nt // 0 ≤ x.1 ∧ x.1 < N ∧ -1 ≤ x.2.n.p ∧ x.2.n.p < x.1 }
theorem tl_cells {w : World} {ad : Option Addr} {n c : Nat} {l : List Nt} (h : Rd w encN (.slice ad n c) l) : n = l.length ∧ ∀ (W : World), (∀ k, k < w.heap.size → W.heap[k]? = w.heap[k]?) → ∀ k (hk : k < l.length), ∃ b o, ad = some ⟨b, o, none⟩ ∧ b < w.heap.size ∧ W.cell? ⟨b, o + k * 4, none⟩ = some (.int .i64 (l[k]).n.d) ∧ W.cell? ⟨b, o + k * 4 + 1, none⟩ = some (.int .i64 (l[k]).n.p) ∧ W.cell? ⟨b, o + k * 4 + 2, none⟩ = some (.string (bstr (l[k]).n.pol)) ∧ W.cell? ⟨b, o + k * 4 + 3, none⟩ = some (l[k]).u.val := by
  obtain ⟨ad', c', hv, -⟩ := h.form
  simp only [Value.slice.injEq] at hv
  refine ⟨hv.2.1, fun W hW k hk => ?_⟩
  obtain ⟨b, o, c, hv', _, hlt, hc⟩ := h.cells encN_ok (by omega)
  simp only [Value.slice.injEq] at hv'
  have q := hc W (fun k' hk' => by
    have e : k' = b := by rw [hv'.1] at hk'; simp only [Value.ownBlock, Option.some.injEq] at hk'; exact hk'.symm
    exact hW k' (e ▸ hlt)) k hk
  exact ⟨b, o, hv'.1, hlt, q 0 _ (by omega) rfl, q 1 _ (by omega) rfl, q 2 _ (by omega) rfl, q 3 _ (by omega) rfl⟩
theorem backN_stops (F : Fence) (n : Nat) (hF : F.fn 77) (hro : F.round = none) (hn : 1 ≤ n) (Bs n₀ p : Nat) (ad : Option Addr) (cap : Nat) (zs : List Nt) (hlen : zs.length ≤ 1000000) (hs : ∀ (i : Nat) (h : i < zs.length), -1 ≤ (zs[i]).n.p ∧ (zs[i]).n.p < i) (w : World) (hn₀ : n₀ ≤ w.heap.size) (hBs0 : Bs < n₀) (hBp : Bs ≠ p)
    (hc : w.cell? ⟨Bs, 0, none⟩ = some (.slice ad zs.length cap)) (hI : ∃ w0, Rd w0 encN (.slice ad zs.length cap) zs ∧ w0.heap.size ≤ n₀ ∧ w0.heap.size ≤ p ∧ Below w0.heap.size w0 w) :
    SeqStopsK F n Try.prog 77 #[.pointer (some ⟨Bs, 0, none⟩)] (fun x : NtB zs.length => #[Value.int .i64 x.1.1, nodS x.1.2]) (KB n₀ p) (fun ys => ys.map (·.1) = bw zs zs.length)
      (fun pre => ∃ k, k ≤ zs.length ∧ pre.map (·.1) = bw zs k) zs.length w := fun l J Jx W hWb _ _ hY h0 => by
  have hW : KB n₀ p w W := KB.of_below (hWb.mono hn₀)
  have hcell : ∀ W', KB n₀ p w W' → W'.cell? ⟨Bs, 0, none⟩ = some (.slice ad zs.length cap) := fun W' h => by
    unfold World.cell? at hc ⊢; rw [h.block Bs hBs0 hBp]; exact hc
  obtain ⟨w0, hrd, hw0, hwp, hbw⟩ := hI
  rcases Nat.eq_zero_or_pos zs.length with hz | hp
  · obtain rfl : zs = [] := List.eq_nil_of_length_eq_zero hz
    exact (backN1_nil_in F n hF hro l Bs cap ad (fun pre W => J [] W) W (hcell W hW) h0).mono fun e W' ⟨he, hj⟩ => ⟨he, .inl ⟨[], rfl, hj⟩⟩
  · obtain ⟨b, o, c, hv, _, hlt, -⟩ := hrd.cells encN_ok hp
    simp only [Value.slice.injEq, true_and] at hv
    obtain ⟨rfl, rfl⟩ := hv
    have main := backN2_in F n hF hro hn l Bs b o cap zs hlen (KB n₀ p) (KB.refl _ _) (fun h k => h.trans k) (fun pre W => ∃ pre' : List (NtB zs.length), pre'.map (·.1) = pre ∧ J pre' W) (fun pre W => ∃ pre' : List (NtB zs.length), pre'.map (·.1) = pre ∧ Jx pre' W) (fun pre x W hJ hlt hmem => by
      obtain ⟨m, hm, rfl⟩ := hmem
      obtain ⟨pre', rfl, hJ⟩ := hJ
      obtain ⟨fn, tmps, assign, body, hy, hR⟩ := hY pre' ⟨((m : Int), zs[m]), by show (0 : Int) ≤ (m : Int); omega, by show (m : Int) < _; omega, (hs m hm).1, (hs m hm).2⟩ W hJ (by simpa using hlt)
      refine ⟨fn, tmps, assign, body, hy, hR.mono ?_⟩
      rintro e W3 (⟨he, h1, h2⟩ | ⟨he, h1⟩)
      · exact .inl ⟨he, ⟨_, by simp, h1⟩, h2⟩
      · exact .inr ⟨he, ⟨_, by simp, h1⟩⟩) W (fun W' h => hcell W' (hW.trans h)) (fun W' h j hj => by
        have hk := hW.trans h
        obtain ⟨b', o', hb', -, q0, q1, q2, q3⟩ := (tl_cells hrd).2 W' (fun k hk1 => (hk.block k (by omega) (by omega)).trans (hbw.block k hk1)) j hj
        simp only [Option.some.injEq, Addr.mk.injEq] at hb'
        obtain ⟨rfl, rfl, -⟩ := hb'
        exact ⟨q0, q1, q2, q3⟩) ⟨[], rfl, h0⟩
    refine main.mono ?_
    rintro e W' ⟨he, h | h⟩
    · obtain ⟨ys, hys, ys', rfl, hj⟩ := h
      exact ⟨he, .inl ⟨ys', hys, hj⟩⟩
    · obtain ⟨pre, ⟨k, hk, hpk⟩, pre', rfl, hj⟩ := h
      exact ⟨he, .inr ⟨pre', ⟨k, hk, hpk⟩, hj⟩⟩
end Go.Proofs.Ytmagjdocondmhaa.Tr

namespace Go.Proofs.Ytmagjdocondmhaa.Tr
open Go Go.RowKit Go.Proofs.Ytmagjdocondmhaa.Slc Go.Proofs.Ytmagjdocondmhaa.St Go.Proofs.Ytmagjdocondmhaa.Mp
set_option linter.unusedVariables false
set_option linter.unusedSimpArgs false

set_option maxRecDepth 10000 in
theorem cloneS_any (w : World) (v : Value) (cs : List B) (h : Rd w encS v cs) (hl : cs.length ≤ 1000000) :
    Calls Try.prog 68 #[v] w fun e w' => ∃ u, e = .returned u ∧ Slc.Own w' w.heap.size 9 1 encS u cs ∧ Below w.heap.size w w' := by
  obtain ⟨i0, hi, hz0, hz1, hz2⟩ := info_parts info_str
  have hsrc := h.src encS_ok
  rcases h with ⟨rfl, rfl⟩ | ⟨b, o, c, rfl, hlt, hc, hcell⟩
  · have hq := fun W : World => Lib.run_eql_slice_nil (P := Try.prog) W 35 _ none 0 0 0 0 und_strs
    go_enter Try.func68, Try.ntmps68
    go_wp2
    go_ret
    exact ⟨_, rfl, Slc.Own.nil _ _, Below.refl _ _⟩
  · clear hcell
    have hs1 := hsrc.below ((Below.refl w.heap.size w).alloc (Nat.le_refl _) (.cells #[] 9))
    have HS := Bx.mk hs1
    have hn := heap_alloc_new w (.cells #[] 9)
    have HN := Bx.mk hn
    have hq := fun W : World => Lib.run_eql_slice_nil (P := Try.prog) W 35 _ (some ⟨b, o, none⟩) cs.length c 0 0 und_strs
    clear hs1 hsrc hn
    go_enter Try.func68, Try.ntmps68
    have hs2 := HS.out
    have hn2 := HN.out
    go_wp2_with (at_builtin; refine wpList_append_fresh rfl _ _ _ rfl w.heap.size 9 i0 _ 1 16 und_strs hi hz0 hz1 hz2 rfl (by decide) w.heap.size rfl hn2 (Nat.le_refl _) (by simp) _ cs.length (cs.flatMap encS) rfl hs2 ?ap1 ?ap2 ?_)
    case ap1 => unfold maxLen; omega
    case ap2 => omega
    intro v' w4 hown hb _
    have HO := Bx.mk (show Slc.Own w4 w.heap.size 9 1 encS v' cs from hown)
    have HB := Bx.mk (((Below.refl w.heap.size w).alloc (Nat.le_refl _) (.cells #[] 9)).trans (hb.mono (by simp)))
    clear hown hb hs2 hn2 hq
    go_wp2
    go_ret
    exact ⟨_, rfl, HO.out, HB.out⟩
set_option maxRecDepth 10000 in
theorem cloneN_any (w : World) (v : Value) (l : List Nt) (h : TL w v l) (hl : l.length ≤ 1000000) :
    Calls Try.prog 50 #[v] w fun e w' => ∃ u, e = .returned u ∧ TO w' w.heap.size u l ∧ Below w.heap.size w w' := by
  obtain ⟨i0, hi, hz0, hz1, hz2⟩ := info_parts info_node
  have hsrc := h.rd.src encN_ok
  have HAT := Bx.mk h.at_
  obtain ⟨hrd, -⟩ := h
  rcases hrd with ⟨rfl, rfl⟩ | ⟨b, o, c, rfl, hlt, hc, hcell⟩
  · have hq := fun W : World => Lib.run_eql_slice_nil (P := Try.prog) W 23 _ none 0 0 0 0 und_nodes
    go_enter Try.func50, Try.ntmps50
    go_wp2
    go_ret
    exact ⟨_, rfl, TO.nil _ _, Below.refl _ _⟩
  · clear hcell
    have hs1 := hsrc.below ((Below.refl w.heap.size w).alloc (Nat.le_refl _) (.cells #[] 56))
    have HS := Bx.mk hs1
    have hn := heap_alloc_new w (.cells #[] 56)
    have HN := Bx.mk hn
    have hq := fun W : World => Lib.run_eql_slice_nil (P := Try.prog) W 23 _ (some ⟨b, o, none⟩) l.length c 0 0 und_nodes
    clear hs1 hsrc hn
    go_enter Try.func50, Try.ntmps50
    have hs2 := HS.out
    have hn2 := HN.out
    go_wp2_with (at_builtin; refine wpList_append_fresh rfl _ _ _ rfl w.heap.size 56 i0 _ 4 56 und_nodes hi hz0 hz1 hz2 rfl (by decide) w.heap.size rfl hn2 (Nat.le_refl _) (by simp) _ l.length (l.flatMap encN) rfl hs2 ?ap1 ?ap2 ?_)
    case ap1 => unfold maxLen; omega
    case ap2 => omega
    intro v' w4 hown hb _
    have HO := Bx.mk (show Slc.Own w4 w.heap.size 56 4 encN v' l from hown)
    have HB := Bx.mk (((Below.refl w.heap.size w).alloc (Nat.le_refl _) (.cells #[] 56)).trans (hb.mono (by simp)))
    clear hown hb hs2 hn2 hq
    go_wp2
    go_ret
    exact ⟨_, rfl, ⟨HO.out, fun x hx => ((NtIn.of (HAT.out x hx)).below HB.out).mono fun k _ hk e => by have := (HO.out.lt k e).1; omega⟩, HB.out⟩
/-- marks -/
def encM (b : Bool) : List Value := [.bool b]
theorem encM_ok : Enc 1 encM := ⟨fun c => rfl, fun c u hu => by
  simp only [encM, List.mem_singleton] at hu
  subst hu; rfl, by omega⟩
theorem marks_cells {w : World} {ad : Option Addr} {n c : Nat} {l : List Bool} (h : Rd w encM (.slice ad n c) l) : n = l.length ∧ ∀ (W : World), Below w.heap.size w W → ∀ k (hk : k < l.length), ∃ b o, ad = some ⟨b, o, none⟩ ∧ b < w.heap.size ∧ W.cell? ⟨b, o + k, none⟩ = some (.bool l[k]!) := by
  obtain ⟨ad', c', hv, -⟩ := h.form
  simp only [Value.slice.injEq] at hv
  refine ⟨hv.2.1, fun W hW k hk => ?_⟩
  obtain ⟨b, o, c, hv', _, hlt, hc⟩ := h.cells encM_ok (by omega)
  simp only [Value.slice.injEq] at hv'
  have q := hc W (fun k' hk' => hW.block k' (h.lt k' hk')) k hk 0 _ (by omega) rfl
  rw [Nat.mul_one, Nat.add_zero] at q
  exact ⟨b, o, hv'.1, hlt, by rw [getElem!_pos l k hk]; exact q⟩
end Go.Proofs.Ytmagjdocondmhaa.Tr

namespace Go.Proofs.Ytmagjdocondmhaa.Tr
open Go Go.RowKit Go.Proofs.Ytmagjdocondmhaa.Slc Go.Proofs.Ytmagjdocondmhaa.St Go.Proofs.Ytmagjdocondmhaa.Mp
set_option linter.unusedVariables false
set_option linter.unusedSimpArgs false
attribute [local go_sem] Oper.semAt_some

theorem u_mapII : Try.prog.underlying 95 = some (.map 3 3) := Try.underlying95
/-- the places so far -/
def plK (m : List Bool) (k : Nat) : Int → Option Int := fun j => if j = -1 then some (-1) else if 0 ≤ j ∧ j < k ∧ m[j.toNat]! = true then some (rk m j.toNat : Nat) else none
theorem plK_zero (m : List Bool) : plK m 0 = fun j => if j = -1 then some (-1) else none := by
  funext j; unfold plK
  by_cases h : j = -1
  · rw [if_pos h, if_pos h]
  · rw [if_neg h, if_neg h, if_neg (by omega)]
theorem plK_mark (m : List Bool) (k : Nat) (h : m[k]! = true) : plK m (k + 1) = fun (j : Int) => if j = (k : Nat) then some ((rk m k : Nat) : Int) else plK m k j := by
  funext j; unfold plK
  by_cases e : j = (k : Nat)
  · subst e
    rw [if_neg (by omega), if_pos rfl, if_pos ⟨by omega, by omega, by simpa using h⟩]; rfl
  · rw [if_neg e]
    by_cases e1 : j = -1
    · rw [if_pos e1, if_pos e1]
    · rw [if_neg e1, if_neg e1]
      by_cases e2 : 0 ≤ j ∧ j < k ∧ m[j.toNat]! = true
      · rw [if_pos e2, if_pos ⟨e2.1, by omega, e2.2.2⟩]
      · rw [if_neg e2, if_neg]
        rintro ⟨a, b, c⟩
        exact e2 ⟨a, by omega, c⟩
theorem plK_skip (m : List Bool) (k : Nat) (h : m[k]! = false) : plK m (k + 1) = plK m k := by
  funext j; unfold plK
  by_cases e1 : j = -1
  · rw [if_pos e1, if_pos e1]
  · rw [if_neg e1, if_neg e1]
    by_cases e2 : 0 ≤ j ∧ j < k ∧ m[j.toNat]! = true
    · rw [if_pos e2, if_pos ⟨e2.1, by omega, e2.2.2⟩]
    · rw [if_neg e2, if_neg]
      rintro ⟨a, b, c⟩
      refine e2 ⟨a, ?_, c⟩
      by_cases e : j = (k : Nat)
      · subst e
        have : m[((k : Nat) : Int).toNat]! = m[k]! := rfl
        rw [this, h] at c; cases c
      · omega
theorem plK_get (m : List Bool) (k : Nat) (n : Nd) (h1 : -1 ≤ n.p) (h2 : n.p < k) : (plK m (k + 1) n.p).getD 0 = (kpN m n).p := by
  unfold plK kpN
  simp only
  by_cases e : n.p = -1
  · rw [if_pos e, if_pos (show n.p < 0 by omega), e]; rfl
  · rw [if_neg e, if_neg (show ¬ n.p < 0 by omega)]
    cases h : m[n.p.toNat]! with
    | true => rw [if_pos ⟨by omega, by omega, rfl⟩]; rfl
    | false => rw [if_neg (by simp)]; rfl
/-- the nodes that are kept, beside the map at p -/
structure KO (w : World) (p : Nat) (v : Value) (l : List Nt) : Prop where
  own : Slc.Own w (p + 1) 56 4 encN v l
  nm : ∀ x ∈ l, NtIn w (fun k => v.ownBlock ≠ some k ∧ k ≠ p) x
theorem KO.nil (w : World) (p : Nat) : KO w p (.slice none 0 0) [] := ⟨Slc.Own.nil _ _, fun x hx => by cases hx⟩
theorem KO.keep {w w' : World} {p : Nat} {v : Value} {l : List Nt} (h : KO w p v l) (hs : w.heap.size ≤ w'.heap.size) (hb : ∀ k, k < w.heap.size → k ≠ p → w'.heap[k]? = w.heap[k]?) : KO w' p v l :=
  ⟨h.own.keep fun k hk hlt => hb k hlt (by have := (h.own.lt k hk).1; omega), fun x hx => (h.nm x hx).keep hs fun k hS hlt => hb k hlt hS.2⟩
theorem KO.apd {wr w' : World} {p a b : Nat} {v v' : Value} {l m : List Nt} {xs news : List Value} (h : KO wr p v l) (hp : p < wr.heap.size) (hm : ∀ x ∈ m, NtIn wr (fun k => v.ownBlock ≠ some k ∧ k ≠ p) x) (hx : xs = l.flatMap encN) (hy : news = m.flatMap encN) (ha : a = l.length) (hb : b = m.length) (h' : Apd wr (p + 1) 56 4 v a b xs news v' w') : KO w' p v' (l ++ m) := by
  have key : ∀ x, NtIn wr (fun k => v.ownBlock ≠ some k ∧ k ≠ p) x → NtIn w' (fun k => v'.ownBlock ≠ some k ∧ k ≠ p) x := by
    intro x hx
    refine NtIn.mono (S := fun k => (v.ownBlock ≠ some k ∧ k ≠ p) ∧ k < wr.heap.size) ((hx.mono fun k hk h1 => ⟨h1, hk⟩).keep h'.grown.size fun k hk hlt => h'.grown.block k hlt fun e => hk.1.1 e.symm) ?_
    intro k _ hk
    refine ⟨fun e => ?_, hk.1.2⟩
    rcases h'.blk with q | q
    · exact hk.1.1 (by rw [← q]; exact e)
    · rw [q] at e; simp only [Option.some.injEq] at e; omega
  refine ⟨h.own.apd hx hy ha hb h', fun x hx => ?_⟩
  rcases List.mem_append.1 hx with q | q
  · exact key x (h.nm x q)
  · exact key x (hm x q)
theorem KO.to {w : World} {p : Nat} {v : Value} {l : List Nt} (h : KO w p v l) : TO w p v l := ⟨h.own.mono (by omega), fun x hx => (h.nm x hx).mono fun k _ hk => hk.1⟩
theorem KO.step {w w' : World} {p : Nat} {o : Obj} {v v' : Value} {l : List Nt} {y : Nt} (h : KO w p v l) (hp : p < w.heap.size) (hy : NtIn w (fun k => v.ownBlock ≠ some k ∧ k ≠ p) y) (h' : Apd (w.alloc o) (p + 1) 56 4 v l.length 1 (l.flatMap encN) ([y].flatMap encN) v' w') :
    KO w' p v' (l ++ [y]) ∧ Below p w w' ∧ w'.heap[p]? = w.heap[p]? := by
  have hA : Below w.heap.size w (w.alloc o) := (Below.refl _ _).alloc (Nat.le_refl _) _
  refine ⟨(h.keep hA.size fun k hk _ => hA.block k hk).apd (by simp; omega) (fun x hx => by rw [List.mem_singleton] at hx; subst hx; exact hy.below hA) rfl rfl rfl rfl h', (hA.mono (by omega)).grown h'.grown (by simp; omega) fun k hk => by have := (h.own.lt k hk).1; omega, ?_⟩
  exact (h'.grown.block p (by simp; omega) fun e => by have := (h.own.lt p e.symm).1; omega).trans (hA.block p hp)
theorem src_node (w : World) (x : Nt) : SrcV (w.alloc (.cells #[.int .i64 x.n.d, .int .i64 x.n.p, .string (bstr x.n.pol), x.u.val] 56)) 4 (.slice (some ⟨w.heap.size, 0, none⟩) 1 1) 1 ([x].flatMap encN) := by
  refine .ro _ _ _ _ (by simp [encN]) (fun j u hj => ?_) (fun u hu => ?_)
  · rw [add_at]
    have e : ([x].flatMap encN) = [.int .i64 x.n.d, .int .i64 x.n.p, .string (bstr x.n.pol), x.u.val] := by simp [encN]
    rw [e] at hj
    unfold World.cell?
    rw [heap_alloc_new]
    simp only [Nat.zero_add]
    simpa using hj
  · rw [List.mem_flatMap] at hu
    obtain ⟨y, -, hy⟩ := hu
    exact encN_ok.one y u hy
/-- the facts of the region that clones -/
def KeF (W : World) (p bn : Nat) (Pp Pv : Int) (xs : Sl) (ex : List B) : Nat → Value → World → Prop
  | 0, v, _ => v = .map (some p)
  | 1, v, _ => v = .pointer (some ⟨bn, 1, none⟩)
  | 2, v, _ => v = .int .i64 Pp
  | 3, v, _ => v = .int .i64 Pv
  | 4, v, _ => v = .pointer (some ⟨bn, 3, none⟩)
  | 5, v, _ => v = .slice xs.ad xs.n xs.c
  | 6, v, w => Slc.Own w W.heap.size 9 1 encS v ex
  | 7, v, _ => v = .pointer (some ⟨bn, 1, none⟩)
  | 9, v, _ => v = .pointer (some ⟨bn, 3, none⟩)
  | _, _, _ => True
theorem KeF.stable (W : World) (p bn : Nat) (Pp Pv : Int) (xs : Sl) (ex : List B) (i : Nat) (v : Value) (w w' : World) (h : KeF W p bn Pp Pv xs ex i v w) (hb : Below w.heap.size w w') : KeF W p bn Pp Pv xs ex i v w' := by
  match i with
  | 0 | 1 | 2 | 3 | 4 | 5 | 7 | 9 => exact h
  | 6 => exact Slc.Own.below (t := 9) h hb
  | 8 => exact trivial
  | _ + 10 => exact trivial
theorem KeF.stable' (W : World) (p bn : Nat) (Pp Pv : Int) (xs : Sl) (ex : List B) (hbn : bn < W.heap.size) (i : Nat) (v : Value) (w : World) (j : Nat) (y : Value) (h : KeF W p bn Pp Pv xs ex i v w) : KeF W p bn Pp Pv xs ex i v (w.setCell ⟨bn, j, none⟩ y) := by
  match i with
  | 0 | 1 | 2 | 3 | 4 | 5 | 7 | 9 => exact h
  | 6 => exact Slc.Own.keep (t := 9) h fun k hk _ => heap_setCell_other _ _ _ _ (by have := (Slc.Own.lt (t := 9) h k hk).1; show k ≠ bn; omega)
  | 8 => exact trivial
  | _ + 10 => exact trivial
structure KeC (W : World) (bn : Nat) (dd Pp Pv : Int) (pol : B) (xv : Value) (ex : List B) (d : Nat → Bool) (w' : World) : Prop where
  gr : W.grownBy w' (some bn)
  row : ∃ P E, w'.heap[bn]? = some (.cells #[.int .i64 dd, .int .i64 P, .string (bstr pol), E] 56 (0, 0)) ∧ (d 8 = false → P = Pp) ∧ (d 8 = true → P = Pv) ∧ (d 10 = false → E = xv) ∧ (d 10 = true → Slc.Own w' W.heap.size 9 1 encS E ex)
def KeG (W : World) (bn : Nat) (Pv : Int) (ex : List B) (i : Nat) (w1 w2 : World) : Prop :=
  if i = 8 then w2 = w1.setCell ⟨bn, 1, none⟩ (.int .i64 Pv) else ∃ u, Slc.Own w1 W.heap.size 9 1 encS u ex ∧ w2 = w1.setCell ⟨bn, 3, none⟩ u
theorem grown_set' {W w : World} {bn : Nat} (h : W.grownBy w (some bn)) (j : Nat) (y : Value) : W.grownBy (w.setCell ⟨bn, j, none⟩ y) (some bn) :=
  ⟨h.os, h.tape, h.output, by simpa using h.size, fun k hk hne => by
    have hkb : k ≠ bn := fun e => hne (by rw [e])
    rw [heap_setCell_other _ _ _ _ (show k ≠ bn from hkb)]; exact h.block k hk hne⟩
theorem grown_bel {W w w' : World} {r : Option Nat} (h : W.grownBy w r) (hb : Below w.heap.size w w') : W.grownBy w' r :=
  ⟨hb.os.trans h.os, hb.tape.trans h.tape, hb.output.trans h.output, Nat.le_trans h.size hb.size, fun k hk hne => (hb.block k (Nat.lt_of_lt_of_le hk h.size)).trans (h.block k hk hne)⟩
theorem KeC.bel {W : World} {bn : Nat} {dd Pp Pv : Int} {pol : B} {xv : Value} {ex : List B} {d : Nat → Bool} {w w' : World} {i : Nat} (h : KeC W bn dd Pp Pv pol xv ex d w) (hi : (i == 8 || i == 10) = false) (hb : Below w.heap.size w w') : KeC W bn dd Pp Pv pol xv ex (mark d i) w' := by
  simp only [Bool.or_eq_false_iff, beq_eq_false_iff_ne, ne_eq] at hi
  obtain ⟨P, E, h1, h2, h3, h4, h5⟩ := h.row
  have e8 : mark d i 8 = d 8 := by unfold mark; rw [if_neg fun e => hi.1 e.symm]
  have e10 : mark d i 10 = d 10 := by unfold mark; rw [if_neg fun e => hi.2 e.symm]
  refine ⟨grown_bel h.gr hb, P, E, (hb.block bn (lt_of_some h1)).trans h1, ?_, ?_, ?_, ?_⟩
  · rw [e8]; exact h2
  · rw [e8]; exact h3
  · rw [e10]; exact h4
  · rw [e10]; exact fun e => (h5 e).below hb
theorem KeC.big {W : World} {bn : Nat} {dd Pp Pv : Int} {pol : B} {xv : Value} {ex : List B} {d : Nat → Bool} {w w' : World} {i : Nat} (hbn : bn < W.heap.size) (h : KeC W bn dd Pp Pv pol xv ex d w) (hi : (i == 8 || i == 10) = true) (hg : KeG W bn Pv ex i w w') : KeC W bn dd Pp Pv pol xv ex (mark d i) w' := by
  obtain ⟨P, E, h1, h2, h3, h4, h5⟩ := h.row
  have own_set : ∀ {u : Value} (j : Nat) (y : Value), Slc.Own w W.heap.size 9 1 encS u ex → Slc.Own (w.setCell ⟨bn, j, none⟩ y) W.heap.size 9 1 encS u ex := fun {u} j y hu => hu.keep fun k hk _ => heap_setCell_other _ _ _ _ (by have := (hu.lt k hk).1; show k ≠ bn; omega)
  unfold KeG at hg
  rcases (show i = 8 ∨ i = 10 by simpa using hi) with rfl | rfl
  · rw [if_pos rfl] at hg
    subst hg
    have r := Go.Proofs.Ytmagjdocondmhaa.Rg.row_set h1 (i := 1) (.int .i64 Pv)
    simp only [List.setIfInBounds_toArray, List.set_cons_succ, List.set_cons_zero] at r
    exact ⟨grown_set' h.gr _ _, Pv, E, r, fun e => by simp [mark] at e, fun _ => rfl, fun e => h4 (by simpa [mark] using e), fun e => own_set _ _ (h5 (by simpa [mark] using e))⟩
  · rw [if_neg (by omega)] at hg
    obtain ⟨u, hu, rfl⟩ := hg
    have r := Go.Proofs.Ytmagjdocondmhaa.Rg.row_set h1 (i := 3) u
    simp only [List.setIfInBounds_toArray, List.set_cons_succ, List.set_cons_zero] at r
    exact ⟨grown_set' h.gr _ _, P, u, r, fun e => h2 (by simpa [mark] using e), fun e => h3 (by simpa [mark] using e), fun e => by simp [mark] at e, fun _ => own_set _ _ hu⟩
set_option maxRecDepth 100000 in
set_option maxHeartbeats 4000000 in
theorem keep_any (w : World) (v mv : Value) (l : List Nt) (m : List Bool) (h : TL w v l) (hm : Rd w encM mv m) (hml : m.length = l.length) (hn : l.length ≤ 5000) (hp : ∀ i, i < l.length → m[i]! = true → -1 ≤ (nds l)[i]!.p ∧ (nds l)[i]!.p < i) :
    Calls Try.prog 49 #[v, mv] w fun e w' => ∃ v' l', e = .returned v' ∧ TO w' w.heap.size v' l' ∧ nds l' = keepP (nds l) m ∧ Below w.heap.size w w' := by
  obtain ⟨i0, hi0, hz0, hz1, hz2⟩ := info_parts info_node
  obtain ⟨ad, c, rfl, -⟩ := h.rd.form
  obtain ⟨md, mc, rfl, -⟩ := hm.form
  have HL := Bx.mk h
  have HC := Bx.mk h.cells.2
  have HMC := Bx.mk (marks_cells hm).2
  have HPA := Bx.mk hp
  have HML := Bx.mk hml
  obtain ⟨N, hN⟩ : ∃ N, N = l.length := ⟨_, rfl⟩
  have HN := Bx.mk hN
  obtain ⟨M, hM⟩ : ∃ M, M = m.length := ⟨_, rfl⟩
  have HMN := Bx.mk (show M = N by omega)
  rw [← hN] at hn ⊢
  rw [← hM] 
  clear h hm hp hml hM hN
  have hmm := @run_makeMap Try.prog
  have HM0 := OwnF.made w kI rdI edI
  obtain ⟨w0, hrun0, hop0, hgr0⟩ := HM0.putI u_mapII (by unfold maxLen; omega) (k := -1) (by unfold I64; omega) (-1) (.int .i64 (-1)) (rdI_mk _)
  obtain ⟨p, hpp⟩ : ∃ p, p = w.heap.size := ⟨_, rfl⟩
  have HP := Bx.mk hpp
  have HM1 := Bx.mk (show OwnF w0 kI rdI edI p (0 + 1) (plK m 0) by rw [plK_zero, hpp]; exact hop0)
  have HB0 := Bx.mk (show Below p w w0 by
    rw [hpp]
    exact ((Below.refl _ _).alloc (Nat.le_refl _) _).grown hgr0 (by simp) (fun k hk => by simp only [Option.some.injEq] at hk; omega))
  clear HM0 hop0 hgr0
  go_enter Try.func49, Try.ntmps49
  go_wp2_with fail
  rw [← hpp]
  clear hrun0 hmm hpp
  go_loopw [5, 13] (fun ov i wr => ∃ (k : Nat) (l' : List Nt), k ≤ N ∧ i = .int .i64 k ∧ l'.length ≤ k ∧ Bx (KO wr p ov l') ∧ Bx (nds l' = keepK (nds l) m k) ∧ Bx (∃ q, q ≤ k + 1 ∧ OwnF wr kI rdI edI p q (plK m k)) ∧ Bx (Below p w wr)) (fun _ i _ => N - (intOf i).toNat)
  case atStart => exact ⟨0, [], by omega, rfl, by simp, ⟨KO.nil _ _⟩, ⟨by simp [keepK]⟩, ⟨_, by omega, HM1.out⟩, HB0⟩
  case round =>
    clear HM1 HB0
    obtain ⟨k, l', hk, rfl, hlen, hKO, hF, hMP, hBw⟩ := hrel
    have hBw' : Below w.heap.size w wr := HP.out ▸ hBw.out
    have hplt : p < wr.heap.size := by obtain ⟨q, _, hq⟩ := hMP.out; exact hq.lt
    have HPL := Bx.mk hplt
    clear hplt
    obtain ⟨av, cv, rfl, -⟩ := hKO.out.own.rd.form
    by_cases hlt : k < N
    · have hkl : k < l.length := by rw [← HN.out]; exact hlt
      have hkm : k < m.length := by rw [HML.out]; exact hkl
      obtain ⟨b, o, rfl, hbl, c0, c1, c2, c3⟩ := HC.out wr hBw' k hkl
      obtain ⟨bm, om, rfl, hbm, cm⟩ := HMC.out wr hBw' k hkm
      have hltM : k < M := by rw [HMN.out]; exact hlt
      have HX := Bx.mk (show (nds l)[k]! = (l[k]).n from nds_at l k hkl)
      have HXA := Bx.mk (HL.out.at_ l[k] (List.getElem_mem hkl))
      have hpa := HPA.out k hkl
      obtain ⟨x, hx⟩ : ∃ x, x = l[k] := ⟨_, rfl⟩
      rw [← hx] at c0 c1 c2 c3 HX HXA
      obtain ⟨mk, hmk⟩ : ∃ b, b = m[k]! := ⟨_, rfl⟩
      rw [← hmk] at cm hpa
      have HMK := Bx.mk hmk
      have HPAK := Bx.mk hpa
      simp only [Sl.val] at c3
      clear hx hBw' hbl hbm hmk hpa hkl hkm
      obtain ⟨W1, hW1⟩ : ∃ W1, W1 = wr.alloc (.cells #[.int .i64 x.n.d, .int .i64 x.n.p, .string (bstr x.n.pol), .slice x.u.ad x.u.n x.u.c] 56) := ⟨_, rfl⟩
      have hcm : W1.cell? ⟨bm, om + k, none⟩ = some (.bool mk) := by
        rw [hW1]; exact (((Below.refl wr.heap.size wr).alloc (Nat.le_refl _) _).cell (World.block_lt_of_cell? wr _ cm)).trans cm
      have HB1 := Bx.mk (show Below wr.heap.size wr W1 by rw [hW1]; exact (Below.refl _ _).alloc (Nat.le_refl _) _)
      obtain ⟨bn, hbn⟩ : ∃ bn, bn = wr.heap.size := ⟨_, rfl⟩
      have HBN := Bx.mk hbn
      have hq1 : W1.heap[bn]? = some (.cells #[.int .i64 x.n.d, .int .i64 x.n.p, .string (bstr x.n.pol), .slice x.u.ad x.u.n x.u.c] 56 (0, 0)) := by rw [hW1, hbn]; exact heap_alloc_new _ _
      have HQ1 := Bx.mk hq1
      have HS1 := Bx.mk (show W1.heap.size = bn + 1 by rw [hW1, hbn]; simp)
      go_upto_region 6 with fail
      rw [← hW1, ← hbn]
      clear hW1 c0 c1 c2 c3 cm hbn hq1
      cases mk with
      | false =>
        go_wp2_with fail
        go_roundw
        case rel =>
          have hb2 : ∀ j, j < wr.heap.size → j ≠ p → W1.heap[j]? = wr.heap[j]? := fun j hj _ => HB1.out.block j hj
          refine ⟨k + 1, l', by omega, by go_num, by omega, ⟨hKO.out.keep HB1.out.size hb2⟩, ⟨by rw [keepK_succ, ← HMK.out]; simpa using hF.out⟩, ⟨?_⟩, ⟨hBw.out.trans (HB1.out.mono (by have := HPL.out; omega))⟩⟩
          obtain ⟨q, hq, ho⟩ := hMP.out
          exact ⟨q, by omega, by rw [plK_skip _ _ HMK.out.symm]; exact ho.below HB1.out⟩
        case measure => simp [intOf]; omega
      | true =>
        obtain ⟨q, hq, hop⟩ := hMP.out
        have HQK := Bx.mk hq
        have hpr := HPAK.out rfl
        rw [HX.out] at hpr
        have hll : l'.length = rk m k := by
          have := congrArg List.length hF.out
          rw [nds_len, keepK_length] at this
          exact this
        obtain ⟨w3, hrun, hop3, hgr⟩ := (hop.below HB1.out).putI u_mapII (by unfold maxLen; omega) (k := (k : Nat)) (by unfold I64; omega) ((l'.length : Nat) : Int) (.int .i64 (l'.length : Nat)) (rdI_mk _)
        have hop4 : OwnF w3 kI rdI edI p (q + 1) (plK m (k + 1)) := by
          rw [plK_mark _ _ HMK.out.symm, ← hll]; exact hop3
        have hlook := fun (W' : World) (hW' : w3.grownBy W' (some bn)) => ((hop4.kept hW' (by simp only [ne_eq, Option.some.injEq]; have := HBN.out; have := HPL.out; omega)).lookI u_mapII (fun z => Value.int .i64 z) 0 (Try.zeroValue3 _) rdI_mk rdI_inv (k := x.n.p) (by unfold I64; omega)).1
        rw [plK_get m k x.n hpr.1 hpr.2] at hlook
        have HLOOK := Bx.mk hlook
        have HOP := Bx.mk hop4
        have HGR := Bx.mk hgr
        have hbq : w3.heap[bn]? = some (.cells #[.int .i64 x.n.d, .int .i64 x.n.p, .string (bstr x.n.pol), .slice x.u.ad x.u.n x.u.c] 56 (0, 0)) := (hgr.block bn (by have := HS1.out; omega) (by simp only [ne_eq, Option.some.injEq]; have := HBN.out; have := HPL.out; omega)).trans HQ1.out
        have HBQ := Bx.mk hbq
        have hsz3 := hgr.size
        have hbw3 : Below p w w3 := (hBw.out.trans (HB1.out.mono (by have := HPL.out; omega))).grown hgr (by have := HPL.out; have := HS1.out; have := HBN.out; omega) (fun k hk => by simp only [Option.some.injEq] at hk; omega)
        have HBW3 := Bx.mk hbw3
        have HS3 := Bx.mk (show bn + 1 ≤ w3.heap.size by have := HS1.out; omega)
        have HCL := Bx.mk (fun (W' : World) (hW' : w3.grownBy W' (some bn)) => cloneS_any W' _ _ (HXA.out.1.keep (by have := hbw3.size; have := hW'.size; omega) fun k hk hlt => (hW'.block k (by have := hbw3.size; omega) (by simp only [ne_eq, Option.some.injEq]; have := HBN.out; have := HPL.out; have := HP.out; omega)).trans (hbw3.block k (by have := HP.out; omega))) (by have := HXA.out.2.1.1; omega))
        have HKO3 := Bx.mk (show ∀ j, j < wr.heap.size → j ≠ p → w3.heap[j]? = wr.heap[j]? from fun j hj hne => (hgr.block j (by have := HB1.out.size; omega) (by simp only [ne_eq, Option.some.injEq]; omega)).trans (HB1.out.block j hj))
        have HXU := Bx.mk (show Few x.n.ex ∧ x.n.pol.length ≤ 1000000 from HXA.out.2)
        clear hop hpr hll hop3 hop4 hlook hgr hbq hq hsz3 hbw3
        go_wp2_with fail
        refine wp_region_factsH 11 (fun _ => none) (fun i => i == 8 || i == 10) (fun j z w' => KeF w3 p bn x.n.p (kpN m x.n).p x.u x.n.ex j (z j) w') (KeC w3 bn x.n.d x.n.p (kpN m x.n).p x.n.pol (.slice x.u.ad x.u.n x.u.c) x.n.ex) (KeG w3 bn (kpN m x.n).p x.n.ex) ?_ (by kernel_rfl) (by kernel_rfl) (by rfl) ?_ ?_ ?_ ?_ ?_ ?_ ?_
        · exact ⟨⟨rfl, rfl, rfl, Nat.le_refl _, fun _ _ _ => rfl⟩, _, _, HBQ.out, fun _ => rfl, (fun e => Bool.noConfusion e), fun _ => rfl, (fun e => Bool.noConfusion e)⟩
        · intro j oj z y w1 _ _ e _ hh
          show KeF _ _ _ _ _ _ _ j (y j) w1
          rw [← e]; exact hh
        · exact fun i z w1 w2 hh hb => KeF.stable _ _ _ _ _ _ _ _ _ _ _ hh hb
        · exact fun d i w1 w2 hh hb _ hB => hh.bel hb hB
        · exact fun d i oi w1 w2 _ _ hh hb _ hg => hh.big HS3.out hb hg
        · intro b ob j z d w1 w2 hb _ _ _ _ _ _ _ _ hh hg
          unfold KeG at hg
          split at hg
          · rw [hg]; exact KeF.stable' _ _ _ _ _ _ _ HS3.out _ _ _ _ _ hh
          · obtain ⟨u, _, rfl⟩ := hg
            exact KeF.stable' _ _ _ _ _ _ _ HS3.out _ _ _ _ _ hh
        · intro i o hi ho d z w7 hcl hdi hrd hCC hd
          have hc : i = 0 ∨ i = 1 ∨ i = 2 ∨ i = 3 ∨ i = 4 ∨ i = 5 ∨ i = 6 ∨ i = 7 ∨ i = 8 ∨ i = 9 ∨ i = 10 := by omega
          have HG7 := Bx.mk hCC.gr
          obtain ⟨P, E, hrow, hP0, hP1, hE0, hE1⟩ := hCC.row
          have w28 := fun h8 : d 8 = true => waits_done hcl 11 8 (m := 2) (by rfl) h8
          have w510 := fun h8 : d 10 = true => waits_done hcl 11 10 (m := 5) (by rfl) h8
          have HW := Bx.mk (And.intro w28 w510)
          have HPE := Bx.mk (And.intro hP0 hE0)
          have HHR := Bx.mk hrow
          have HDI := Bx.mk hdi
          clear hcl hrd hCC hP0 hP1 hE0 hE1 w28 w510 hrow
          simp only [List.take_succ_cons, List.take_zero, putFrom]
          rcases hc with rfl | rfl | rfl | rfl | rfl | rfl | rfl | rfl | rfl | rfl | rfl
          all_goals
            simp only [List.getElem?_cons_succ, List.getElem?_cons_zero, Option.some.injEq] at ho
            subst ho
            simp [NeedsB, Region.binds, KeF] at hd
          all_goals clear hi hdi
          case inr.inr.inl =>
            have e : P = x.n.p := HPE.out.1 (by cases q : d 8 with | false => rfl | true => have := HW.out.1 q; rw [HDI.out] at this; cases this)
            subst e
            have m1 := cell_of_row _ _ 1 _ _ _ HHR.out
            simp only [List.getElem?_toArray, List.getElem?_cons_zero, List.getElem?_cons_succ] at m1
            go_wp2_with fail
            exact ⟨rfl, rfl, rfl, Below.refl _ _⟩
          case inr.inr.inr.inl =>
            have hlook := HLOOK.out w7 HG7.out
            go_wp2_with fail
            exact ⟨rfl, rfl, rfl, Below.refl _ _⟩
          case inr.inr.inr.inr.inr.inl =>
            have e : E = .slice x.u.ad x.u.n x.u.c := HPE.out.2 (by cases q : d 10 with | false => rfl | true => have := HW.out.2 q; rw [HDI.out] at this; cases this)
            subst e
            have m1 := cell_of_row _ _ 3 _ _ _ HHR.out
            simp only [List.getElem?_toArray, List.getElem?_cons_zero, List.getElem?_cons_succ] at m1
            go_wp2_with fail
            exact ⟨rfl, rfl, rfl, Below.refl _ _⟩
          case inr.inr.inr.inr.inr.inr.inl =>
            have hcall := HCL.out w7 HG7.out
            simp only [Sl.val] at hcall
            go_wp2_with (go_at_call 68; refine hcall.mono ?_; rintro e w8 ⟨u, rfl, hu, hb8⟩)
            exact ⟨rfl, rfl, by simpa [upd, KeF] using hu.mono HG7.out.size, hb8⟩
          case inr.inr.inr.inr.inr.inr.inr.inr.inl =>
            have m1 := cell_of_row _ _ 1 _ _ _ HHR.out
            simp only [List.getElem?_toArray, List.getElem?_cons_zero, List.getElem?_cons_succ] at m1
            have z1 := Go.Proofs.Ytmagjdocondmhaa.Rg.frozen_row (i := 1) HHR.out
            obtain ⟨h3, h6, h7⟩ := hd
            clear h6
            go_wp2_with fail
            exact ⟨rfl, rfl, trivial, rfl⟩
          case inr.inr.inr.inr.inr.inr.inr.inr.inr.inr =>
            have m1 := cell_of_row _ _ 3 _ _ _ HHR.out
            simp only [List.getElem?_toArray, List.getElem?_cons_zero, List.getElem?_cons_succ] at m1
            have z1 := Go.Proofs.Ytmagjdocondmhaa.Rg.frozen_row (i := 3) HHR.out
            obtain ⟨h9, h6⟩ := hd
            have h6' : Slc.Own w7 w3.heap.size 9 1 encS (z 6) x.n.ex := by first | exact h6 | exact h6.1
            obtain ⟨ua, uc, hu, -⟩ := h6'.rd.form
            rw [hu] at h6'
            have HU := Bx.mk h6'
            clear h6 h6'
            go_wp2_with fail
            exact ⟨rfl, rfl, trivial, ⟨_, HU.out, rfl⟩⟩
          all_goals
            go_wp2_with fail
            exact ⟨rfl, rfl, rfl, Below.refl _ _⟩
        · intro d z w7 hdn hCC hf
          obtain ⟨P, E, hrow, hP0, hP1, hE0, hE1⟩ := hCC.row
          obtain rfl := hP1 (hdn 8 (by omega))
          have f6 := hE1 (hdn 10 (by omega))
          have hgr7 := hCC.gr
          clear hf hP0 hP1 hE0 hE1 hCC hdn
          obtain ⟨ua, uc, rfl, -⟩ := f6.rd.form
          have hs7 := hgr7.size
          have hkk : ∀ j, j < wr.heap.size → j ≠ p → w7.heap[j]? = wr.heap[j]? := fun j hj hne => (hgr7.block j (by have := HS3.out; have := HBN.out; omega) (by simp only [ne_eq, Option.some.injEq]; have := HBN.out; omega)).trans (HKO3.out j hj hne)
          have HK8 := Bx.mk (hKO.out.keep (by have := HS3.out; have := HBN.out; omega) hkk)
          obtain ⟨y, hy⟩ : ∃ y : Nt, y = ⟨⟨x.n.d, (kpN m x.n).p, x.n.pol, x.n.ex⟩, ⟨ua, x.n.ex.length, uc⟩⟩ := ⟨_, rfl⟩
          have hyn : NtIn w7 (fun k => (Value.slice av l'.length cv).ownBlock ≠ some k ∧ k ≠ p) y := by
            rw [hy]
            refine ⟨⟨f6.rd, fun k hk => ?_⟩, HXU.out⟩
            have h1 := (f6.lt k hk).1
            have h2 := HS3.out
            have h3 := HBN.out
            have h4 := HPL.out
            refine ⟨fun e => ?_, by omega⟩
            have := (hKO.out.own.lt k e).2
            omega
          have HYN := Bx.mk hyn
          have HYO := Bx.mk (show OwnF w7 kI rdI edI p (q + 1) (plK m (k + 1)) from HOP.out.kept hgr7 (by simp only [ne_eq, Option.some.injEq]; have := HBN.out; have := HPL.out; omega))
          have HBW8 := Bx.mk (show Below p w w7 from HBW3.out.grown hgr7 (by have := HS3.out; have := HBN.out; have := HPL.out; omega) (fun k hk => by simp only [Option.some.injEq] at hk; have := HBN.out; have := HPL.out; omega))
          have HPL8 := Bx.mk (show p < w7.heap.size by have := HS3.out; have := HBN.out; have := HPL.out; omega)
          have HYE := Bx.mk (show y.n = kpN m (nds l)[k]! by rw [HX.out, hy]; rfl)
          have HSRC := Bx.mk (show SrcV (w7.alloc (.cells #[.int .i64 x.n.d, .int .i64 (kpN m x.n).p, .string (bstr x.n.pol), .slice ua x.n.ex.length uc] 56)) 4 (.slice (some ⟨w7.heap.size, 0, none⟩) 1 1) 1 ([y].flatMap encN) by
            have hsrc := src_node w7 y
            rw [hy] at hsrc ⊢
            exact hsrc)
          have HOWN := Bx.mk (show Slc.Own (w7.alloc (.cells #[.int .i64 x.n.d, .int .i64 (kpN m x.n).p, .string (bstr x.n.pol), .slice ua x.n.ex.length uc] 56)) (p + 1) 56 4 encN (.slice av l'.length cv) l' from HK8.out.own.below ((Below.refl _ _).alloc (Nat.le_refl _) _))
          have hbz : p + 1 ≤ (w7.alloc (.cells #[.int .i64 x.n.d, .int .i64 (kpN m x.n).p, .string (bstr x.n.pol), .slice ua x.n.ex.length uc] 56)).heap.size := by have := HPL8.out; simp; omega
          have m0 := cell_of_row _ _ 0 _ _ _ hrow
          have m1 := cell_of_row _ _ 1 _ _ _ hrow
          have m2 := cell_of_row _ _ 2 _ _ _ hrow
          have m3 := cell_of_row _ _ 3 _ _ _ hrow
          simp only [List.getElem?_toArray, List.getElem?_cons_zero, List.getElem?_cons_succ] at m0 m1 m2 m3
          have hm1 : l'.length + 1 ≤ maxLen := by unfold maxLen; omega
          have hm2 : (l'.length + 1) * 56 ≤ 140737488355328 := by omega
          clear f6 hkk hyn hy hrow hgr7 hs7
          simp only [List.take_succ_cons, List.take_zero, List.drop_succ_cons, List.drop_zero, putFrom, Nat.zero_add, Nat.reduceAdd]
          generalize z 0 = z0, z 1 = z1', z 2 = z2, z 3 = z3', z 4 = z4, z 5 = z5, z 6 = z6, z 7 = z7, z 8 = z8, z 9 = z9, z 10 = z10
          simp only [Act.put, List.setIfInBounds_toArray, List.set_cons_succ, List.set_cons_zero]
          go_wp2_with (at_builtin; refine wpList_append_any rfl _ _ _ rfl (p + 1) 56 i0 _ 4 56 und_nodes hi0 hz0 hz1 hz2 rfl (by decide) _ l'.length (l'.flatMap encN) rfl HOWN.out _ 1 ([y].flatMap encN) rfl HSRC.out hm1 hm2 hbz ?_)
          intro v9 w9 hapd
          obtain ⟨hk9, hb9, hp9⟩ := HK8.out.step HPL8.out HYN.out hapd
          have HK9 := Bx.mk hk9
          have HB9 := Bx.mk hb9
          have HP9 := Bx.mk hp9
          have HF9 := Bx.mk (show nds (l' ++ [y]) = keepK (nds l) m (k + 1) by rw [keepK_succ, ← HMK.out, if_pos rfl, ← HYE.out, ← hF.out]; simp [nds])
          clear hapd hk9 hb9 hp9 hm1 hm2 hbz
          go_wp2_with fail
          go_roundw
          case rel => exact ⟨k + 1, l' ++ [y], by omega, by go_num, by simp; omega, HK9, HF9, ⟨q + 1, by have := HQK.out; omega, HYO.out.block HP9.out⟩, ⟨HBW8.out.trans HB9.out⟩⟩
          case measure => simp [intOf]; omega
    · obtain rfl : k = N := by omega
      have HFIN := Bx.mk (show nds l' = keepP (nds l) m by rw [hF.out]; unfold keepP; rw [nds_len, HN.out])
      go_wp2_with fail
      go_ret
      exact ⟨_, l', rfl, HP.out ▸ hKO.out.to, HFIN.out, HP.out ▸ hBw.out⟩
end Go.Proofs.Ytmagjdocondmhaa.Tr
