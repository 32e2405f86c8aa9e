/-
  Backward at issued certificates, for a loop that writes to one block ahead of it; reason bits.
-/
/-
  publish.Select. (Written by wip/gen/gen_pbse.py.)
-/
/-
  publish.Select. (Written by wip/gen/gen_pbsl.py.)
-/
import Derived.Test.YtpagoinnkknkfaaPbCur
namespace Go.Proofs.Ytpagoinnkknkfaa.Pb
open Go Go.RowKit Go.Shelf Go.Proofs.Ytpagoinnkknkfaa.Slc
set_option linter.unusedVariables false
set_option linter.unusedSimpArgs false
attribute [local go_sem] Oper.semAt_some

set_option maxRecDepth 100000 in
set_option maxHeartbeats 2000000 in
theorem backI2_in (F : Fence) (n : Nat) (hF : F.fn 60) (hro : F.round = none) (hn : 1 ≤ n) (l Bs b off cap : Nat) (zs : List Iss) (hlen : zs.length ≤ 1000000) (Kp : World → World → Prop) (hrefl : ∀ W, Kp W W) (htr : ∀ {A B C : World}, Kp A B → Kp B C → Kp A C) (J Jx : List (Int × Iss) → World → Prop)
    (hY : ∀ pre x W, J pre W → pre.length < zs.length → x.2 ∈ zs → YieldAt F (n - 1) Try.prog l #[.int .i64 x.1, isV x.2] W fun e W' =>
      (e = .returned (.bool true) ∧ J (pre ++ [x]) W' ∧ Kp W W') ∨ (e = .returned (.bool false) ∧ Jx (pre ++ [x]) W'))
    (W : World) (hBs : ∀ W', Kp W W' → W'.cell? ⟨Bs, 0, none⟩ = some (.slice (some ⟨b, off, none⟩) zs.length cap)) (hc : ∀ W', Kp W W' → ∀ j (h : j < zs.length), W'.cell? ⟨b, off + j * 3, none⟩ = some (.int .i64 (zs[j]).s) ∧ W'.cell? ⟨b, off + j * 3 + 1, none⟩ = some (.bool (zs[j]).ca) ∧ W'.cell? ⟨b, off + j * 3 + 2, none⟩ = some (.string (zs[j]).raw)) (h0 : J [] W) :
    CallsIn F n Try.prog 60 #[.func (.yield l) #[] #[], .pointer (some ⟨Bs, 0, none⟩)] W fun e W' => (∃ v, e = .returned v) ∧
      ((∃ ys, ys = bw zs zs.length ∧ J ys W') ∨ (∃ pre, (∃ k, k ≤ zs.length ∧ pre = bw zs k) ∧ Jx pre W')) := by
  have HC := Lib.hid hc
  have HBSK := Lib.hid hBs
  clear hc hBs
  have hBs := HBSK.out W (hrefl W)
  refine callsIn_of_wp Try.func60 rfl hF ?_ hro
  simp only [Try.ntmps60, List.size_toArray, List.length_cons, List.length_nil, Nat.reduceAdd, Nat.reduceSub, Array.replicate_succ, Array.replicate_zero, List.push_toArray, List.append_toArray, List.nil_append, List.cons_append]
  gi_wp2
  gi_loopw [3] (fun i wr => ∃ m k : Nat, m + k = zs.length ∧ i = .int .i64 ((m : Int) - 1) ∧ J (bw zs k) wr ∧ Kp W wr)
    (fun i _ => (intOf i + 1).toNat)
  case atStart => exact ⟨zs.length, 0, by omega, rfl, h0, hrefl _⟩
  case round =>
    obtain ⟨m, k, hmk, rfl, hJs, hnx⟩ := hrel
    have HNX := Lib.hid hnx
    have HMK := Lib.hid hmk
    have hbs := HBSK.out wr hnx
    cases m with
    | zero =>
      obtain rfl : k = zs.length := by omega
      have e0 : (((0 : Nat) : Int) - 1) = -1 := rfl
      rw [e0]
      clear hmk hnx e0 hBs
      gi_wp2
      go_end0
      exact ⟨⟨_, rfl⟩, .inl ⟨_, rfl, hJs⟩⟩
    | succ m =>
      have e0 : (((m + 1 : Nat) : Int) - 1) = (m : Int) := by omega
      rw [e0]
      have hml : m < zs.length := by omega
      have hsucc := bw_succ zs k m (by omega)
      obtain ⟨x, hx⟩ : ∃ x, x = zs[m] := ⟨_, rfl⟩
      obtain ⟨c0, c1, c2⟩ := HC.out wr hnx m hml
      rw [← hx] at hsucc c0 c1 c2
      have HS := Lib.hid hsucc
      obtain ⟨fn, tmps, assign, body, hy, hR⟩ := hY _ ((m : Int), x) wr hJs (by unfold bw; rw [List.length_take, List.length_reverse, List.length_mapIdx]; omega) (by rw [hx]; exact List.getElem_mem hml)
      dsimp only [isV] at hy
      rw [← hsucc] at hR
      clear hmk hnx hsucc hx e0 hBs
      gi_wp2
      refine hR.mono ?_
      rintro e W3 (⟨rfl, hJ3, hk3⟩ | ⟨rfl, hJx3⟩)
      · gi_wp2
        go_roundw
        case rel => exact ⟨m, k + 1, by have := HMK.out; omega, by first | rfl | go_num, hJ3, htr HNX.out hk3⟩
        case measure => simp [intOf]
      · gi_wp2
        refine bodyPost_ret (results_none rfl _ _ _) rfl ?_
        exact ⟨⟨_, rfl⟩, .inr ⟨_, ⟨k + 1, by have := HMK.out; omega, rfl⟩, hJx3⟩⟩
/-- all blocks below n but p stay -/
structure KB (n p : Nat) (W W' : World) : Prop where
  os : W'.os = W.os
  tape : W'.tape = W.tape
  output : W'.output = W.output
  size : W.heap.size ≤ W'.heap.size
  block : ∀ k, k < n → k ≠ p → W'.heap[k]? = W.heap[k]?
theorem KB.refl (n p : Nat) (W : World) : KB n p W W := ⟨rfl, rfl, rfl, Nat.le_refl _, fun _ _ _ => rfl⟩
theorem KB.trans {n p : Nat} {A B C : World} (h : KB n p A B) (k : KB n p B C) : KB n p A C := ⟨k.os.trans h.os, k.tape.trans h.tape, k.output.trans h.output, Nat.le_trans h.size k.size, fun i h1 h2 => (k.block i h1 h2).trans (h.block i h1 h2)⟩
theorem KB.of_below {n p : Nat} {A B : World} (h : Below n A B) : KB n p A B := ⟨h.os, h.tape, h.output, h.size, fun k hk _ => h.block k hk⟩
theorem KB.grown {n p : Nat} {A B : World} (h : A.grownBy B (some p)) (hn : n ≤ A.heap.size) : KB n p A B := ⟨h.os, h.tape, h.output, h.size, fun k hk hne => h.block k (by omega) (fun e => hne (by simpa using e))⟩
def bitR (r : Int) : Int := if 1 ≤ r ∧ r ≤ 6 then 2 ^ r.toNat else if r = 9 then 128 else if r = 10 then 256 else 0
theorem pbit_any (w : World) (r : Int) : Calls Try.prog 45 #[.int .i64 r] w fun e w' => e = .returned (.int .i64 (bitR r)) ∧ w = w' := by
  by_cases h : 1 ≤ r ∧ r ≤ 6
  · have hc : r = 1 ∨ r = 2 ∨ r = 3 ∨ r = 4 ∨ r = 5 ∨ r = 6 := by omega
    rcases hc with rfl | rfl | rfl | rfl | rfl | rfl
    all_goals
      clear h
      go_enter Try.func45, Try.ntmps45
      go_wp2
      go_ret
      exact ⟨rfl, rfl⟩
  · by_cases h9 : r = 9
    · subst h9
      clear h
      go_enter Try.func45, Try.ntmps45
      go_wp2
      go_ret
      exact ⟨rfl, rfl⟩
    by_cases h10 : r = 10
    · subst h10
      clear h h9
      go_enter Try.func45, Try.ntmps45
      go_wp2
      go_ret
      exact ⟨rfl, rfl⟩
    have hr : bitR r = 0 := by unfold bitR; rw [if_neg h, if_neg h9, if_neg h10]
    rw [hr]
    have t9 : (r == 9) = false := by simpa using h9
    have t10 : (r == 10) = false := by simpa using h10
    clear hr h9 h10
    by_cases h1 : 1 ≤ r
    · have t1 : decide (r ≥ 1) = true := decide_eq_true (by omega)
      have t6 : decide (r ≤ 6) = false := decide_eq_false (by omega)
      clear h h1
      go_enter Try.func45, Try.ntmps45
      go_wp2
      go_ret
      exact ⟨rfl, rfl⟩
    · have t1 : decide (r ≥ 1) = false := decide_eq_false (by omega)
      clear h h1
      go_enter Try.func45, Try.ntmps45
      go_wp2
      go_ret
      exact ⟨rfl, rfl⟩
theorem rbit_any (w : World) (r : Int) : Calls Try.prog 47 #[.int .i64 r] w fun e w' => e = .returned (.int .i64 (bitR r)) ∧ w = w' := by
  by_cases h : 1 ≤ r ∧ r ≤ 6
  · have hc : r = 1 ∨ r = 2 ∨ r = 3 ∨ r = 4 ∨ r = 5 ∨ r = 6 := by omega
    rcases hc with rfl | rfl | rfl | rfl | rfl | rfl
    all_goals
      clear h
      go_enter Try.func47, Try.ntmps47
      go_wp2
      go_ret
      exact ⟨rfl, rfl⟩
  · by_cases h9 : r = 9
    · subst h9
      clear h
      go_enter Try.func47, Try.ntmps47
      go_wp2
      go_ret
      exact ⟨rfl, rfl⟩
    by_cases h10 : r = 10
    · subst h10
      clear h h9
      go_enter Try.func47, Try.ntmps47
      go_wp2
      go_ret
      exact ⟨rfl, rfl⟩
    have hr : bitR r = 0 := by unfold bitR; rw [if_neg h, if_neg h9, if_neg h10]
    rw [hr]
    have t9 : (r == 9) = false := by simpa using h9
    have t10 : (r == 10) = false := by simpa using h10
    clear hr h9 h10
    by_cases h1 : 1 ≤ r
    · have t1 : decide (r ≥ 1) = true := decide_eq_true (by omega)
      have t6 : decide (r ≤ 6) = false := decide_eq_false (by omega)
      clear h h1
      go_enter Try.func47, Try.ntmps47
      go_wp2
      go_ret
      exact ⟨rfl, rfl⟩
    · have t1 : decide (r ≥ 1) = false := decide_eq_false (by omega)
      clear h h1
      go_enter Try.func47, Try.ntmps47
      go_wp2
      go_ret
      exact ⟨rfl, rfl⟩
end Go.Proofs.Ytpagoinnkknkfaa.Pb

namespace Go.Proofs.Ytpagoinnkknkfaa.Pb
open Go Go.RowKit Go.Shelf Go.Maps Go.Proofs.Ytpagoinnkknkfaa.Slc
set_option linter.unusedVariables false
set_option linter.unusedSimpArgs false
attribute [local go_sem] Oper.semAt_some

/-- what the first certificate of a serial says -/
def firstI (cs : List Iss) (x : Int) : Option Bool := (cs.find? (fun c => c.s == x)).map (·.ca)
/-- what has been written when these have come -/
def putI (pre : List (Int × Iss)) (x : Int) : Option Bool := (pre.reverse.find? (fun c => c.2.s == x)).map (·.2.ca)
theorem putI_snoc (pre : List (Int × Iss)) (c : Int × Iss) : putI (pre ++ [c]) = fun j => if j = c.2.s then some c.2.ca else putI pre j := by
  funext j
  unfold putI
  rw [List.reverse_append, List.reverse_singleton, List.singleton_append, List.find?_cons]
  by_cases e : j = c.2.s
  · rw [if_pos e]; simp [e]
  · rw [if_neg e]
    have : (c.2.s == j) = false := by simp; exact fun q => e q.symm
    rw [this]
theorem putI_all (cs : List Iss) : putI (bw cs cs.length) = firstI cs := by
  funext j
  unfold putI firstI
  have h := bw_all cs
  have h2 : (bw cs cs.length).reverse.map (·.2) = cs := by rw [List.map_reverse, h, List.reverse_reverse]
  conv => rhs; rw [← h2]
  rw [List.find?_map, Option.map_map]
  rfl
abbrev edB (b : Bool) : DW := .lit (.bool b)
noncomputable abbrev rdB : Value → Option (DW × List MemPlace) := plainElem Try.prog 4
theorem u_bool : Try.prog.underlying 4 = some .bool := Try.underlying4
theorem u_mapB : Try.prog.underlying 79 = some (.map 3 4) := Try.underlying79
theorem rdB_mk (b : Bool) : rdB (.bool b) = some (edB b, []) := plainElem_bool u_bool b
theorem rdB_inv (v : Value) (b : Bool) (ps : List MemPlace) (h : rdB v = some (edB b, ps)) : v = .bool b := by
  unfold rdB plainElem at h
  rw [u_bool] at h
  cases v with
  | bool x => simp at h; rw [h.1]
  | _ => simp at h
/-- the map of the certificates so far -/
abbrev OwnB (w : World) (b n : Nat) (f : Int → Option Bool) : Prop := OwnI w Try.prog 3 rdB edB b n f
theorem rdI_cells {w : World} {ad : Option Addr} {n c : Nat} {l : List Iss} (h : Rd w encI (.slice ad n c) l) : n = l.length ∧ ∀ (W : World), (∀ k, k < w.heap.size → (∀ b o, ad = some ⟨b, o, none⟩ → k = b → W.heap[k]? = w.heap[k]?)) → ∀ k (hk : k < l.length), ∃ b o, ad = some ⟨b, o, none⟩ ∧ b < w.heap.size ∧ W.cell? ⟨b, o + k * 3, none⟩ = some (.int .i64 (l[k]).s) ∧ W.cell? ⟨b, o + k * 3 + 1, none⟩ = some (.bool (l[k]).ca) ∧ W.cell? ⟨b, o + k * 3 + 2, none⟩ = some (.string (l[k]).raw) := by
  obtain ⟨ad', c', hv, -⟩ := h.form
  simp only [Value.slice.injEq] at hv
  refine ⟨hv.2.1, fun W hW k hk => ?_⟩
  obtain ⟨b, o, c, hv', _, hlt, hc⟩ := h.cells encI_ok (by omega)
  simp only [Value.slice.injEq] at hv'
  have q := hc W (fun k' hk' => by
    have e : k' = b := by rw [hv'.1] at hk'; simp only [Value.ownBlock, Option.some.injEq] at hk'; exact hk'.symm
    exact hW k' (e ▸ hlt) b o hv'.1 e) k hk
  exact ⟨b, o, hv'.1, hlt, q 0 _ (by omega) rfl, q 1 _ (by omega) rfl, q 2 _ (by omega) rfl⟩
/-- a certificate whose serial is an int -/
abbrev IsB := { c : Iss // I64 c.s }
def unB (y : Int × IsB) : Int × Iss := (y.1, y.2.1)
theorem backI_stops (F : Fence) (n : Nat) (hF : F.fn 60) (hro : F.round = none) (hn : 1 ≤ n) (Bs n₀ p : Nat) (ad : Option Addr) (cap : Nat) (zs : List Iss) (hlen : zs.length ≤ 1000000) (hs : ∀ c ∈ zs, I64 c.s) (w : World) (hn₀ : n₀ ≤ w.heap.size) (hBs0 : Bs < n₀) (hBp : Bs ≠ p)
    (hc : w.cell? ⟨Bs, 0, none⟩ = some (.slice ad zs.length cap)) (hI : ∃ w0, Rd w0 encI (.slice ad zs.length cap) zs ∧ w0.heap.size ≤ n₀ ∧ w0.heap.size ≤ p ∧ Below w0.heap.size w0 w) :
    SeqStopsK F n Try.prog 60 #[.pointer (some ⟨Bs, 0, none⟩)] (fun x : Int × IsB => #[Value.int .i64 x.1, isV x.2.1]) (KB n₀ p) (fun ys => ys.map unB = bw zs zs.length)
      (fun pre => ∃ k, k ≤ zs.length ∧ pre.map unB = bw zs k) zs.length w := fun l J Jx W hWb _ _ hY h0 => by
  have hW : KB n₀ p w W := KB.of_below (hWb.mono hn₀)
  have hcell : ∀ W', KB n₀ p w W' → W'.cell? ⟨Bs, 0, none⟩ = some (.slice ad zs.length cap) := fun W' h => by
    unfold World.cell? at hc ⊢; rw [h.block Bs hBs0 hBp]; exact hc
  obtain ⟨w0, hrd, hw0, hwp, hbw⟩ := hI
  rcases Nat.eq_zero_or_pos zs.length with hz | hp
  · obtain rfl : zs = [] := List.eq_nil_of_length_eq_zero hz
    exact (backI1_nil_in F n hF hro l Bs cap ad (fun pre W => J [] W) W (hcell W hW) h0).mono fun e W' ⟨he, hj⟩ => ⟨he, .inl ⟨[], rfl, hj⟩⟩
  · obtain ⟨b, o, c, hv, _, hlt, -⟩ := hrd.cells encI_ok hp
    simp only [Value.slice.injEq, true_and] at hv
    obtain ⟨rfl, rfl⟩ := hv
    have main := backI2_in F n hF hro hn l Bs b o cap zs hlen (KB n₀ p) (KB.refl _ _) (fun h k => h.trans k) (fun pre W => ∃ pre' : List (Int × IsB), pre'.map unB = pre ∧ J pre' W) (fun pre W => ∃ pre' : List (Int × IsB), pre'.map unB = pre ∧ Jx pre' W) (fun pre x W hJ hlt hmem => by
      obtain ⟨pre', rfl, hJ⟩ := hJ
      obtain ⟨fn, tmps, assign, body, hy, hR⟩ := hY pre' (x.1, ⟨x.2, hs _ hmem⟩) W hJ (by simpa using hlt)
      refine ⟨fn, tmps, assign, body, hy, hR.mono ?_⟩
      rintro e W3 (⟨he, h1, h2⟩ | ⟨he, h1⟩)
      · exact .inl ⟨he, ⟨_, by simp [unB], h1⟩, h2⟩
      · exact .inr ⟨he, ⟨_, by simp [unB], h1⟩⟩) W (fun W' h => hcell W' (hW.trans h)) (fun W' h j hj => by
        have hk := hW.trans h
        obtain ⟨b', o', hb', -, q0, q1, q2⟩ := (rdI_cells hrd).2 W' (fun k hk1 b' o' _ _ => (hk.block k (by omega) (by omega)).trans (hbw.block k hk1)) j hj
        simp only [Option.some.injEq, Addr.mk.injEq] at hb'
        obtain ⟨rfl, rfl, -⟩ := hb'
        exact ⟨q0, q1, q2⟩) ⟨[], rfl, h0⟩
    refine main.mono ?_
    rintro e W' ⟨he, h | h⟩
    · obtain ⟨ys, hys, ys', rfl, hj⟩ := h
      exact ⟨he, .inl ⟨ys', hys, hj⟩⟩
    · obtain ⟨pre, ⟨k, hk, hpk⟩, pre', rfl, hj⟩ := h
      exact ⟨he, .inr ⟨pre', ⟨k, hk, hpk⟩, hj⟩⟩
theorem rd_kept {α : Type} {w w' : World} {enc : α → List Value} {v : Value} {l : List α} {row : Option Nat} (h : Rd w enc v l) (hg : w.grownBy w' row) (hr : ∀ r, row = some r → ∃ o : Obj, w.heap[r]? = some o ∧ o.isCells = false) : Rd w' enc v l := by
  rcases h with h | ⟨b, o, c, rfl, hlt, hc, hcell⟩
  · exact .inl h
  · exact .inr ⟨b, o, c, rfl, Nat.lt_of_lt_of_le hlt hg.size, hc, fun j u hj => cell_kept (hcell j u hj) hg hr⟩
theorem nameIn_kept {w w' : World} {S : Nat → Prop} {v : Value} {n : Nm} {row : Option Nat} (h : NameIn w S v n) (hg : w.grownBy w' row) (hr : ∀ r, row = some r → ∃ o : Obj, w.heap[r]? = some o ∧ o.isCells = false) : NameIn w' S v n := by
  obtain ⟨vs, h1, hl, h2⟩ := h
  exact ⟨vs, ⟨rd_kept h1.1 hg hr, h1.2⟩, hl, fun i hi => ⟨rd_kept (h2 i hi).1 hg hr, (h2 i hi).2⟩⟩
theorem eo_kept {w w' : World} {B : Nat} {v : Value} {l : List Et} {row : Option Nat} (h : EO w B v l) (hg : w.grownBy w' row) (hr : ∀ r, row = some r → ∃ o : Obj, w.heap[r]? = some o ∧ o.isCells = false) : EO w' B v l := by
  refine ⟨⟨h.own.1, ?_⟩, fun x hx => ⟨nameIn_kept (h.nm x hx).1 hg hr, (h.nm x hx).2⟩⟩
  rcases h.own.2 with q | ⟨g, cap, cur, hv, hb, hh, r⟩
  · exact .inl q
  · exact .inr ⟨g, cap, cur, hv, hb, blk_kept (B0 := 0) hh hg (fun r hr' => ⟨Nat.zero_le _, hr r hr'⟩), r⟩
end Go.Proofs.Ytpagoinnkknkfaa.Pb

namespace Go.Proofs.Ytpagoinnkknkfaa.Pb
open Go Go.RowKit Go.Shelf Go.Maps Go.Proofs.Ytpagoinnkknkfaa.Slc
set_option linter.unusedVariables false
set_option linter.unusedSimpArgs false
attribute [local go_sem] Oper.semAt_some

def selC (cs : List Iss) (parts part cls reasons : Int) (e : En) : Bool :=
  !(decide (part ≥ 0) && decide (parts > 0) && (e.s.tmod parts != part)) && !((cls == 1 && firstI cs e.s == some true) || (cls == 2 && firstI cs e.s == some false)) &&
    !(reasons != 0 && e.r != 0 && (bits BinOp.and IntKind.i64 reasons (bitR e.r) == 0))
set_option maxRecDepth 100000 in
set_option maxHeartbeats 8000000 in
theorem psel_any (w : World) (v cv : Value) (l : List Et) (cs : List Iss) (parts part cls reasons : Int) (hl : EL w v l) (hln : l.length ≤ 100000) (hcs : Rd w encI cv cs) (hcn : cs.length ≤ 100000) (hs : ∀ c ∈ cs, I64 c.s) (hs2 : ∀ x ∈ l, I64 x.e.s) :
    Calls Try.prog 26 #[v, cv, .int .i64 parts, .int .i64 part, .int .i64 cls, .int .i64 reasons] w fun e w' => ∃ (rv : Value) (out : List Et), e = .returned rv ∧ ens out = (ens l).filter (selC cs parts part cls reasons) ∧ EO w' w.heap.size rv out ∧ Below w.heap.size w w' := by
  obtain ⟨i0, hi0, hz0, hz1, hz2⟩ := info_parts info_entry
  obtain ⟨ad, cap, rfl, -⟩ := hl.rd.form
  obtain ⟨cd, ccap, rfl, -⟩ := hcs.form
  have HL := Bx.mk hl
  have HC := Bx.mk hl.cells.2
  have HCS := Bx.mk hcs
  have HS := Bx.mk hs
  have HS2 := Bx.mk hs2
  obtain ⟨p, hp⟩ : ∃ p, p = w.heap.size := ⟨_, rfl⟩
  have HP := Bx.mk hp
  rw [← hp]
  obtain ⟨W3, hW3⟩ : ∃ W3, W3 = ((w.alloc (.map #[] 0)).alloc (.cells #[.map (some p)] 79)).alloc (.cells #[.slice cd cs.length ccap] 46) := ⟨_, rfl⟩
  have HB0 := Bx.mk (show Below p w W3 by rw [hW3, hp]; exact (((Below.refl _ _).alloc (Nat.le_refl _) _).alloc (by simp) _).alloc (by simp; omega) _)
  have HR1 := Bx.mk (show W3.heap[p + 1]? = some (.cells #[.map (some p)] 79 (0, 0)) by rw [hW3]; exact alloc_keep (alloc_at (by rw [hp]; simp)))
  have HR2 := Bx.mk (show W3.heap[p + 1 + 1]? = some (.cells #[.slice cd cs.length ccap] 46 (0, 0)) by rw [hW3]; exact alloc_at (by rw [hp]; simp))
  have HZ := Bx.mk (show W3.heap.size = p + 3 by rw [hW3, hp]; simp)
  have HM0 := Bx.mk (show OwnB W3 p 0 (putI []) by
    have e : putI [] = fun _ => none := by funext j; simp [putI]
    rw [hW3, e]
    have h0 := OwnI.made w Try.prog 3 rdB edB
    rw [← hp] at h0
    exact (h0.below ((Below.refl _ _).alloc (Nat.le_refl _) _)).below ((Below.refl _ _).alloc (Nat.le_refl _) _))
  clear hl hcs hs hs2
  have hmm := @run_makeMap Try.prog
  have hbc := fun W => callsIn_wide.1 (backI_in Fence.wide 6 trivial rfl cd cs.length ccap W)
  refine (callsIn_wide (n := 6)).1 (callsIn_of_wp_marks Try.func26 rfl trivial (wpIn_wide.2 ?_) rfl)
  simp only [Try.ntmps26, List.size_toArray, List.length_cons, List.length_nil, Nat.reduceAdd, Nat.reduceSub, Array.replicate_succ, Array.replicate_zero, List.push_toArray, List.append_toArray, List.nil_append, List.cons_append]
  go_wp2_with (go_at_call 44; refine (hbc _).mono ?_; rintro e w' ⟨rfl, rfl⟩)
  rw [← hp]
  rw [← hW3]
  clear hp hW3 hmm hbc
  have hb1 := HR1.out
  have hb2 := HR2.out
  have c2 := cell_of_row _ _ 0 _ _ _ hb2
  simp only [List.getElem?_toArray, List.getElem?_cons_zero] at c2
  refine wpIn_wide.1 (rf_H (F := Fence.wide) (n := 6) rfl (by omega) (gf := 60) (lb := #[.pointer (some ⟨p + 1 + 1, 0, none⟩)]) rfl trivial (enters_of Try.func60 (by kernel_rfl) rfl)
    (backI_stops Fence.wide 5 trivial rfl (by omega) (p + 1 + 1) (p + 3) p cd ccap cs (by omega) HS.out W3 (by have := HZ.out; omega) (by omega) (by omega) c2 ⟨w, HCS.out, by have := HP.out; omega, by have := HP.out; omega, HP.out ▸ HB0.out⟩) (fun h k => h.trans k) (fun W l o o' h1 h2 h3 h4 => KB.of_below (belowK_b (w := W3) (by have := HZ.out; omega) W l o o' h1 h2 h3 h4)) (Below.refl _ _) (fun _ => rfl)
    (fun pre W => (OwnB W p pre.length (putI (pre.map unB)) ∧ W.heap[p + 1]? = some (.cells #[.map (some p)] 79 (0, 0)) ∧ W.heap[p + 1 + 1]? = some (.cells #[.slice cd cs.length ccap] 46 (0, 0))) ∧ Below p w W)
    (fun _ _ _ => False)
    (OwnFrom.and (fun s A B row h hg hr => ⟨h.1.kept hg (fun e => by have h1 := h.1.lt; obtain ⟨h2, -⟩ := hr p e.symm; have := HZ.out; omega), blk_kept h.2.1 hg hr, blk_kept h.2.2 hg hr⟩) (ownFrom_below (by have := HP.out; omega) (by have := HP.out; have := HZ.out; omega)))
    (fun c s A B row h hg hr => h)
    ⟨⟨HM0.out, hb1, hb2⟩, HB0.out⟩
    (fun a x a' W => ∃ bx : Nat, p + 3 ≤ bx ∧ W.heap[bx]? = some (.cells #[.int .i64 x.2.1.s, .bool x.2.1.ca, .string x.2.1.raw] 50 (0, 0)) ∧ a' = { tmps := ((a.tmps.setIfInBounds 24 (.int .i64 x.1)).setIfInBounds 25 (.agg #[.int .i64 x.2.1.s, .bool x.2.1.ca, .string x.2.1.raw])).setIfInBounds 15 (.pointer (some ⟨bx, 0, none⟩)), defers := [] })
    (fun x a' s A B row h hg hr => by obtain ⟨bx, q1, q2, q3⟩ := h; exact ⟨bx, q1, blk_kept q2 hg hr, q3⟩)
    ?assign ?body ?done ?stop)
  case assign =>
    rintro l' pre x W K' ⟨⟨i0', i1, i2⟩, hB⟩ hK
    have hsz := lt_of_block i2
    unfold isV
    gi_wp2
    exact hK _ _ ((KeepsOthers.alloc _ _).from _) (KB.of_below ((Below.refl _ W).alloc (by omega) _)) ⟨⟨i0'.below ((Below.refl _ W).alloc (Nat.le_refl _) _), alloc_keep i1, alloc_keep i2⟩, hB.alloc (by omega) _⟩ ⟨W.heap.size, by omega, heap_alloc_new _ _, rfl⟩
  case body =>
    rintro l' pre x a' W hl' hr ⟨⟨hm, i1, i2⟩, hB⟩ ⟨bx, hbx, hbk, rfl⟩ hlt
    obtain ⟨n0, ⟨⟨xs, xca, xraw⟩, hxs⟩⟩ := x
    simp only [List.setIfInBounds_toArray, List.set_cons_succ, List.set_cons_zero]
    have m0 := cell_of_row _ _ 0 _ _ _ i1
    have k0 := cell_of_row _ _ 0 _ _ _ hbk
    have k1 := cell_of_row _ _ 1 _ _ _ hbk
    simp only [List.getElem?_toArray, List.getElem?_cons_zero, List.getElem?_cons_succ] at m0 k0 k1
    have hsz := lt_of_block i2
    obtain ⟨w2, hrun, hop, hgr⟩ := hm.put u_int u_mapB (by unfold maxLen; omega) hxs xca (.bool xca) (rdB_mk _)
    gi_wp2
    refine ⟨KeepsFrom.of_grownBy hgr (fun j hj => by simp only [Option.some.injEq] at hj; have := HZ.out; omega), KB.grown hgr (by omega), ⟨?_, (hgr.block _ (by omega) (by simp)).trans i1, (hgr.block _ (by omega) (by simp; omega)).trans i2⟩, hB.grown hgr (by omega) (fun k hk => by simp only [Option.some.injEq] at hk; omega)⟩
    rw [List.length_append, List.map_append, List.map_singleton, putI_snoc]
    exact hop
  case done =>
    rintro D ys W hD hys ⟨⟨hm, i1, i2⟩, hB⟩ hK
    rw [hys, putI_all] at hm
    have HM := Bx.mk hm
    have HI1 := Bx.mk i1
    have HB := Bx.mk hB
    have HK := Bx.mk hK
    have hDlt := lt_of_some hK
    have hp1 := lt_of_block i1
    have m0 := cell_of_row _ _ 0 _ _ _ i1
    simp only [List.getElem?_toArray, List.getElem?_cons_zero] at m0
    clear hm i1 i2 hB hK hys hb1 hb2 c2
    go_wp2
    go_loopw [16, 33] (fun ov i wr => ∃ (k : Nat) (out : List Et), k ≤ l.length ∧ i = .int .i64 k ∧ out.length ≤ k ∧ GE W W.heap.size wr ov out ∧ Bx (ens out = (ens (l.take k)).filter (selC cs parts part cls reasons))) (fun _ i _ => l.length - (intOf i).toNat)
    case atStart => exact ⟨0, [], by omega, rfl, by simp, GE.nil _ _ (Nat.le_refl _), ⟨by simp [ens]⟩⟩
    case round =>
      obtain ⟨k, out, hk, rfl, hlen, hG, hF⟩ := hrel
      obtain ⟨av, cv, rfl, -⟩ := hG.form
      have HGE := Bx.mk hG
      have HLEN := Bx.mk hlen
      have hBw : Below W.heap.size W wr := hG.bel
      by_cases hlt : k < l.length
      · obtain ⟨b, o, rfl, hbl, c0, c1, c2, c3, c4⟩ := HC.out wr (HP.out ▸ (HB.out.trans (hBw.mono (by omega)))) k hlt
        obtain ⟨z, hz⟩ : ∃ z, z = l[k] := ⟨_, rfl⟩
        rw [← hz] at c0 c1 c2 c3 c4
        have hmem : z ∈ l := by rw [hz]; exact List.getElem_mem hlt
        have HTK := Bx.mk (show ens (l.take (k + 1)) = ens (l.take k) ++ [z.e] by rw [ens, List.take_succ_eq_append_getElem hlt, List.map_append, ← hz]; rfl)
        have HZW := Bx.mk ((HL.out.at_ z hmem).below (HP.out ▸ HB.out))
        have hw3 := HM.out.below hBw
        have hwm := hw3.below ((Below.refl _ wr).alloc (Nat.le_refl _) (encBox z))
        have hlook := (hwm.look u_int u_mapB Value.bool false (Try.zeroValue4 _) rdB_mk rdB_inv (HS2.out z hmem)).2
        have m1 := (hBw.cell (p := ⟨p + 1, 0, none⟩) hp1).trans m0
        have hpw : p + 1 < wr.heap.size := by have := hBw.size; omega
        obtain ⟨ua, un, uc, hu⟩ : ∃ a n c, z.u.val = .slice a n c := ⟨_, _, _, rfl⟩
        have HZC := Bx.mk (show encBox z = .cells #[.int .i64 z.e.s, .int .i64 z.e.t, .int .i64 z.e.r, .int .i64 z.e.v, .slice ua un uc] 44 by unfold encBox; rw [hu])
        rw [hu] at c4
        rw [HZC.out] at hlook
        have HZE := Bx.mk (show entV z = .agg #[.int .i64 z.e.s, .int .i64 z.e.t, .int .i64 z.e.r, .int .i64 z.e.v, .slice ua un uc] by unfold entV; rw [hu])
        have HCE := Bx.mk (show ∀ u, entV ⟨z.e, u⟩ = .agg #[.int .i64 z.e.s, .int .i64 z.e.t, .int .i64 z.e.r, .int .i64 z.e.v, u.val] from fun _ => rfl)
        have HCB := Bx.mk (show ∀ u, (encE ⟨z.e, u⟩).toArray = #[.int .i64 z.e.s, .int .i64 z.e.t, .int .i64 z.e.r, .int .i64 z.e.v, u.val] from fun _ => rfl)
        have HSL := Bx.mk (show ∀ q, selC cs parts part cls reasons z.e = q → (ens (l.take (k + 1))).filter (selC cs parts part cls reasons) = ens out ++ (if q then [z.e] else []) from fun q hq => by
          rw [HTK.out, List.filter_append, ← hF.out]; simp only [List.filter_cons, hq, List.filter_nil])
        clear hw3 hwm hmem hz hu hG hF hlen hbl HTK
        go_upto_region 11 with fail
        obtain ⟨W5, hW5⟩ : ∃ W5, W5 = wr.alloc (.cells #[.int .i64 z.e.s, .int .i64 z.e.t, .int .i64 z.e.r, .int .i64 z.e.v, .slice ua un uc] 44) := ⟨_, rfl⟩
        have hb5 : Below wr.heap.size wr W5 := by rw [hW5]; exact (Below.refl _ _).alloc (Nat.le_refl _) _
        have hq5 : W5.heap[wr.heap.size]? = some (.cells #[.int .i64 z.e.s, .int .i64 z.e.t, .int .i64 z.e.r, .int .i64 z.e.v, .slice ua un uc] 44 (0, 0)) := by rw [hW5]; exact heap_alloc_new _ _
        rw [← hW5]
        clear hW5 hlook m1 c0 c1 c2 c3 c4 hpw
        obtain ⟨q, hq⟩ : ∃ q, q = wr.heap.size := ⟨_, rfl⟩
        rw [← hq] at hq5 ⊢
        have HQ := Bx.mk hq
        clear hq
        have HGE5 := Bx.mk (HGE.out.below hb5)
        have HZ5 := Bx.mk ((HZW.out.below hBw).below hb5)
        have HZI := Bx.mk ((EtAt.other HGE.out HZW.out fun k hk => hk).below hb5)
        have HB5 := Bx.mk hb5
        clear hb5 hBw
        have m0 := cell_of_row _ _ 0 _ _ _ hq5
        have m1 := cell_of_row _ _ 1 _ _ _ hq5
        have m2 := cell_of_row _ _ 2 _ _ _ hq5
        have m3 := cell_of_row _ _ 3 _ _ _ hq5
        have m4 := cell_of_row _ _ 4 _ _ _ hq5
        simp only [List.getElem?_toArray, List.getElem?_cons_zero, List.getElem?_cons_succ] at m0 m1 m2 m3 m4
        have HSE := Bx.mk (show selC cs parts part cls reasons z.e = (!(decide (part ≥ 0) && decide (parts > 0) && (z.e.s.tmod parts != part)) && !((cls == 1 && firstI cs z.e.s == some true) || (cls == 2 && firstI cs z.e.s == some false)) &&
          !(reasons != 0 && z.e.r != 0 && (bits BinOp.and IntKind.i64 reasons (bitR z.e.r) == 0))) from rfl)
        generalize firstI cs z.e.s = fi at *
        generalize z.e.s = S1 at *
        generalize z.e.t = T1 at *
        generalize z.e.r = R1 at *
        generalize z.e.v = V1 at *
        obtain ⟨Q1, hQ1⟩ : ∃ Q1, Q1 = (decide (part ≥ 0) && decide (parts > 0) && (S1.tmod parts != part)) := ⟨_, rfl⟩
        rw [← hQ1] at HSE
        have HQ1 := Bx.mk hQ1
        clear hQ1
        go_cut [49] from 50 to 63 (fun s wc => wc = W5 ∧ s = .bool Q1)
        case first =>
          by_cases hA : part ≥ 0
          · have tA : decide (part ≥ 0) = true := decide_eq_true hA
            by_cases hBp : parts > 0
            · have tB : decide (parts > 0) = true := decide_eq_true hBp
              have hE := Bx.mk (show Q1 = (S1.tmod parts != part) by rw [HQ1.out, tA, tB]; rfl)
              have hp0 : parts ≠ 0 := by omega
              clear hA HQ1
              go_wp2_with fail
              go_meet
              exact ⟨rfl, by rw [hE.out]⟩
            · have tB : decide (parts > 0) = false := decide_eq_false hBp
              have hE := Bx.mk (show Q1 = false by rw [HQ1.out, tA, tB]; rfl)
              clear hA hBp HQ1
              go_wp2_with fail
              go_meet
              exact ⟨rfl, by rw [hE.out]⟩
          · have tA : decide (part ≥ 0) = false := decide_eq_false hA
            have hE := Bx.mk (show Q1 = false by rw [HQ1.out, tA]; rfl)
            clear hA HQ1
            go_wp2_with fail
            go_meet
            exact ⟨rfl, by rw [hE.out]⟩
        case rest =>
        obtain ⟨rfl, rfl⟩ := hcut
        cases Q1 with
        | true =>
          have HS2' := Bx.mk (HSL.out false (by rw [HSE.out]; simp))
          clear HSL HSE
          go_wp2_with fail
          go_roundw
          case rel => exact ⟨k + 1, out, by omega, by go_num, by have := HLEN.out; omega, HGE5.out, ⟨by rw [HS2'.out]; simp⟩⟩
          case measure => simp [intOf]; omega
        | false =>
        obtain ⟨W6, hW6⟩ : ∃ W6, W6 = wc := ⟨_, rfl⟩
        subst hW6
        obtain ⟨Q2, hQ2⟩ : ∃ Q2, Q2 = (cls == 1 && fi == some true) := ⟨_, rfl⟩
        rw [← hQ2] at HSE
        have HQ2 := Bx.mk hQ2
        clear hQ2
        go_upto_region 12 with fail
        go_cut [64] from 65 to 72 (fun s wc => wc = W6 ∧ s = .bool Q2)
        case first =>
          by_cases h1 : cls = 1
          · subst h1
            cases fi with
            | none =>
              have hE := Bx.mk (show Q2 = false by rw [HQ2.out]; rfl)
              go_wp2_with fail
              go_meet
              exact ⟨rfl, by rw [hE.out]⟩
            | some fb =>
              cases fb with
              | true =>
                have hE := Bx.mk (show Q2 = true by rw [HQ2.out]; rfl)
                go_wp2_with fail
                go_meet
                exact ⟨rfl, by rw [hE.out]⟩
              | false =>
                have hE := Bx.mk (show Q2 = false by rw [HQ2.out]; rfl)
                go_wp2_with fail
                go_meet
                exact ⟨rfl, by rw [hE.out]⟩
          · have t1 : (cls == 1) = false := by simpa using h1
            clear h1
            have hE := Bx.mk (show Q2 = false by rw [HQ2.out, t1]; rfl)
            go_wp2_with fail
            go_meet
            exact ⟨rfl, by rw [hE.out]⟩
        case rest =>
        obtain ⟨rfl, rfl⟩ := hcut
        cases Q2 with
        | true =>
          have HS2' := Bx.mk (HSL.out false (by rw [HSE.out]; simp))
          clear HSL HSE
          go_wp2_with fail
          go_roundw
          case rel => exact ⟨k + 1, out, by omega, by go_num, by have := HLEN.out; omega, HGE5.out, ⟨by rw [HS2'.out]; simp⟩⟩
          case measure => simp [intOf]; omega
        | false =>
        obtain ⟨W6, hW6⟩ : ∃ W6, W6 = wc := ⟨_, rfl⟩
        subst hW6
        obtain ⟨Q4, hQ4⟩ : ∃ Q4, Q4 = (cls == 2 && fi == some false) := ⟨_, rfl⟩
        rw [← hQ4] at HSE
        have HQ4 := Bx.mk hQ4
        clear hQ4
        go_upto_region 13 with fail
        go_cut [64] from 73 to 81 (fun s wc => wc = W6 ∧ s = .bool Q4)
        case first =>
          by_cases h1 : cls = 2
          · subst h1
            cases fi with
            | none =>
              have hE := Bx.mk (show Q4 = false by rw [HQ4.out]; rfl)
              go_wp2_with fail
              go_meet
              exact ⟨rfl, by rw [hE.out]⟩
            | some fb =>
              cases fb with
              | true =>
                have hE := Bx.mk (show Q4 = false by rw [HQ4.out]; rfl)
                go_wp2_with fail
                go_meet
                exact ⟨rfl, by rw [hE.out]⟩
              | false =>
                have hE := Bx.mk (show Q4 = true by rw [HQ4.out]; rfl)
                go_wp2_with fail
                go_meet
                exact ⟨rfl, by rw [hE.out]⟩
          · have t1 : (cls == 2) = false := by simpa using h1
            clear h1
            have hE := Bx.mk (show Q4 = false by rw [HQ4.out, t1]; rfl)
            go_wp2_with fail
            go_meet
            exact ⟨rfl, by rw [hE.out]⟩
        case rest =>
        obtain ⟨rfl, rfl⟩ := hcut
        cases Q4 with
        | true =>
          have HS2' := Bx.mk (HSL.out false (by rw [HSE.out]; simp))
          clear HSL HSE
          go_wp2_with fail
          go_roundw
          case rel => exact ⟨k + 1, out, by omega, by go_num, by have := HLEN.out; omega, HGE5.out, ⟨by rw [HS2'.out]; simp⟩⟩
          case measure => simp [intOf]; omega
        | false =>
        obtain ⟨W6, hW6⟩ : ∃ W6, W6 = wc := ⟨_, rfl⟩
        subst hW6
        obtain ⟨Q3, hQ3⟩ : ∃ Q3, Q3 = (reasons != 0 && R1 != 0 && (bits BinOp.and IntKind.i64 reasons (bitR R1) == 0)) := ⟨_, rfl⟩
        rw [← hQ3] at HSE
        have HQ3 := Bx.mk hQ3
        clear hQ3
        have hbit := fun w => pbit_any w R1
        go_upto_region 14 with fail
        go_cut [82] from 83 to 97 (fun s wc => wc = W6 ∧ s = .bool Q3)
        case first =>
          by_cases h3 : reasons = 0
          · subst h3
            have hE := Bx.mk (show Q3 = false by rw [HQ3.out]; rfl)
            go_wp2_with fail
            go_meet
            exact ⟨rfl, by rw [hE.out]⟩
          have t3 : (reasons != 0) = true := by simpa using h3
          by_cases h4 : R1 = 0
          · have t4 : (R1 != 0) = false := by simpa using h4
            clear h4 h3
            have hE := Bx.mk (show Q3 = false by rw [HQ3.out, t3, t4]; rfl)
            go_wp2_with fail
            go_meet
            exact ⟨rfl, by rw [hE.out]⟩
          have t4 : (R1 != 0) = true := by simpa using h4
          have hE := Bx.mk (show Q3 = (bits BinOp.and IntKind.i64 reasons (bitR R1) == 0) by rw [HQ3.out, t3, t4]; rfl)
          clear h3 h4
          generalize bitR R1 = BR at *
          go_wp2_with (go_at_call 45; refine (hbit _).mono ?_; rintro e w' ⟨rfl, rfl⟩)
          go_meet
          exact ⟨rfl, by rw [hE.out]⟩
        case rest =>
        obtain ⟨rfl, rfl⟩ := hcut
        cases Q3 with
        | true =>
          have HS2' := Bx.mk (HSL.out false (by rw [HSE.out]; simp))
          clear HSL HSE
          go_wp2_with fail
          go_roundw
          case rel => exact ⟨k + 1, out, by omega, by go_num, by have := HLEN.out; omega, HGE5.out, ⟨by rw [HS2'.out]; simp⟩⟩
          case measure => simp [intOf]; omega
        | false =>
          have HSN := Bx.mk (show (ens (l.take (k + 1))).filter (selC cs parts part cls reasons) = ens out ++ [z.e] by rw [HSL.out true (by rw [HSE.out]; rfl)]; rfl)
          clear HSL HSE hbit
          obtain ⟨W6, hW6⟩ : ∃ W6, W6 = wc := ⟨_, rfl⟩
          subst hW6
          have hcall := copyE_any W6 z HZ5.out
          rw [HZE.out] at hcall
          go_wp2_with fail
          go_at_call 46
          refine hcall.mono ?_
          rintro e w7 ⟨⟨xa, xn, xc⟩, rfl, hnm, hb7⟩
          rw [HCE.out]
          simp only [Sl.val] at hnm ⊢
          have HBA := Bx.mk ((Below.refl w7.heap.size w7).alloc (Nat.le_refl _) (.cells #[.int .i64 S1, .int .i64 T1, .int .i64 R1, .int .i64 V1, .slice xa xn xc] 44))
          have HG7 := Bx.mk ((HGE5.out.below hb7).below HBA.out)
          have hsrc : SrcV (w7.alloc (.cells #[.int .i64 S1, .int .i64 T1, .int .i64 R1, .int .i64 V1, .slice xa xn xc] 44)) 5 (.slice (some ⟨w7.heap.size, 0, none⟩) 1 1) 1 ([(⟨z.e, ⟨xa, xn, xc⟩⟩ : Et)].flatMap encE) := src_new encE_ok (by rw [heap_alloc_new, HCB.out]; rfl)
          have hbzz := HG7.out.sz
          have hm1 : out.length + 1 ≤ maxLen := by have := HLEN.out; unfold maxLen; omega
          have hm2 : (out.length + 1) * 56 ≤ 140737488355328 := by have := HLEN.out; omega
          have HOWN := Bx.mk HG7.out.eo.own
          have HEI := Bx.mk (show ∀ y ∈ [(⟨z.e, ⟨xa, xn, xc⟩⟩ : Et)], EtIn (w7.alloc (.cells #[.int .i64 S1, .int .i64 T1, .int .i64 R1, .int .i64 V1, .slice xa xn xc] 44)) (fun k => (Value.slice av out.length cv).ownBlock ≠ some k) y from fun y hy => by
            rw [List.mem_singleton] at hy; subst hy
            refine ⟨(hnm.below HBA.out).mono fun k _ hk e => ?_, HZ5.out.2⟩
            have := (HGE5.out.eo.own.lt k e).2
            omega)
          clear hnm hb7 hcall
          go_wp2_with (refine wpList_append_any rfl _ _ _ rfl W.heap.size 44 i0 _ 5 56 und_entries hi0 hz0 hz1 hz2 rfl (by decide) _ out.length (out.flatMap encE) rfl HOWN.out _ 1 ([(⟨z.e, ⟨xa, xn, xc⟩⟩ : Et)].flatMap encE) rfl hsrc hm1 hm2 hbzz ?_)
          intro v9 w9 hapd
          have HG2 := Bx.mk (HG7.out.apd (m := [(⟨z.e, ⟨xa, xn, xc⟩⟩ : Et)]) HEI.out rfl rfl rfl rfl hapd)
          have HFF := Bx.mk (show ens (out ++ [(⟨z.e, ⟨xa, xn, xc⟩⟩ : Et)]) = (ens (l.take (k + 1))).filter (selC cs parts part cls reasons) by rw [HSN.out]; simp [ens])
          clear hapd hsrc hbzz HOWN hm1 hm2
          go_wp2
          go_roundw
          case rel => exact ⟨k + 1, out ++ [(⟨z.e, ⟨xa, xn, xc⟩⟩ : Et)], by omega, by go_num, by have := HLEN.out; simp; omega, HG2.out, ⟨HFF.out⟩⟩
          case measure => simp [intOf]; omega
      · obtain rfl : k = l.length := by omega
        have HFIN := Bx.mk (show ens out = (ens l).filter (selC cs parts part cls reasons) by rw [hF.out, List.take_length])
        have HEO := Bx.mk (show EO wr p (.slice av out.length cv) out from HGE.out.eo.mono (by omega))
        have hKr := (hBw.block D hDlt).trans HK.out
        have HBF := Bx.mk (show Below p w wr from HB.out.trans (hBw.mono (by omega)))
        clear hF hG hBw
        go_wp2
        refine ⟨by simp, .inl ⟨_, _, rfl, run_takeDeferred hKr, ?_⟩⟩
        have hKb := belowK_b (w := w) (Nat.le_refl _) wr D (.deferred (some [])) (.deferred none) (by have := HP.out; have := HZ.out; omega) hKr rfl rfl
        rw [← HP.out] at hKb
        exact ⟨_, results_tmp rfl _ _ _, _, out, rfl, HFIN.out, eo_kept HEO.out (grownBy_putObj' _ D (.deferred none)) (fun r e => by cases e; exact ⟨_, hKr, rfl⟩), HBF.out.trans hKb⟩
  case stop =>
    rintro D c pre W hD hpre hF hK
    exact hF.elim
end Go.Proofs.Ytpagoinnkknkfaa.Pb
