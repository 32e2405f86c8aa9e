/-
  publish.Select. (Written by wip/gen/gen_pbse.py.)
-/
import Derived.Test.YtpagoinnkknkfaaPbBit
namespace Go.Proofs.Ytpagoinnkknkfaa.Pb
open Go Go.RowKit Go.Shelf Go.Maps Go.Proofs.Ytpagoinnkknkfaa.Slc
set_option linter.unusedVariables false
set_option linter.unusedSimpArgs false
attribute [local go_sem] Oper.semAt_some

/-- what the first certificate of a serial says -/
def firstI (cs : List Iss) (x : Int) : Option Bool := (cs.find? (fun c => c.s == x)).map (·.ca)
/-- what has been written when these have come -/
def putI (pre : List (Int × Iss)) (x : Int) : Option Bool := (pre.reverse.find? (fun c => c.2.s == x)).map (·.2.ca)
theorem putI_snoc (pre : List (Int × Iss)) (c : Int × Iss) : putI (pre ++ [c]) = fun j => if j = c.2.s then some c.2.ca else putI pre j := by
  funext j
  unfold putI
  rw [List.reverse_append, List.reverse_singleton, List.singleton_append, List.find?_cons]
  by_cases e : j = c.2.s
  · rw [if_pos e]; simp [e]
  · rw [if_neg e]
    have : (c.2.s == j) = false := by simp; exact fun q => e q.symm
    rw [this]
theorem putI_all (cs : List Iss) : putI (bw cs cs.length) = firstI cs := by
  funext j
  unfold putI firstI
  have h := bw_all cs
  have h2 : (bw cs cs.length).reverse.map (·.2) = cs := by rw [List.map_reverse, h, List.reverse_reverse]
  conv => rhs; rw [← h2]
  rw [List.find?_map, Option.map_map]
  rfl
abbrev edB (b : Bool) : DW := .lit (.bool b)
noncomputable abbrev rdB : Value → Option (DW × List MemPlace) := plainElem Try.prog 4
theorem u_bool : Try.prog.underlying 4 = some .bool := Try.underlying4
theorem u_mapB : Try.prog.underlying 79 = some (.map 3 4) := Try.underlying79
theorem rdB_mk (b : Bool) : rdB (.bool b) = some (edB b, []) := plainElem_bool u_bool b
theorem rdB_inv (v : Value) (b : Bool) (ps : List MemPlace) (h : rdB v = some (edB b, ps)) : v = .bool b := by
  unfold rdB plainElem at h
  rw [u_bool] at h
  cases v with
  | bool x => simp at h; rw [h.1]
  | _ => simp at h
/-- the map of the certificates so far -/
abbrev OwnB (w : World) (b n : Nat) (f : Int → Option Bool) : Prop := OwnI w Try.prog 3 rdB edB b n f
theorem rdI_cells {w : World} {ad : Option Addr} {n c : Nat} {l : List Iss} (h : Rd w encI (.slice ad n c) l) : n = l.length ∧ ∀ (W : World), (∀ k, k < w.heap.size → (∀ b o, ad = some ⟨b, o, none⟩ → k = b → W.heap[k]? = w.heap[k]?)) → ∀ k (hk : k < l.length), ∃ b o, ad = some ⟨b, o, none⟩ ∧ b < w.heap.size ∧ W.cell? ⟨b, o + k * 3, none⟩ = some (.int .i64 (l[k]).s) ∧ W.cell? ⟨b, o + k * 3 + 1, none⟩ = some (.bool (l[k]).ca) ∧ W.cell? ⟨b, o + k * 3 + 2, none⟩ = some (.string (l[k]).raw) := by
  obtain ⟨ad', c', hv, -⟩ := h.form
  simp only [Value.slice.injEq] at hv
  refine ⟨hv.2.1, fun W hW k hk => ?_⟩
  obtain ⟨b, o, c, hv', _, hlt, hc⟩ := h.cells encI_ok (by omega)
  simp only [Value.slice.injEq] at hv'
  have q := hc W (fun k' hk' => by
    have e : k' = b := by rw [hv'.1] at hk'; simp only [Value.ownBlock, Option.some.injEq] at hk'; exact hk'.symm
    exact hW k' (e ▸ hlt) b o hv'.1 e) k hk
  exact ⟨b, o, hv'.1, hlt, q 0 _ (by omega) rfl, q 1 _ (by omega) rfl, q 2 _ (by omega) rfl⟩
/-- a certificate whose serial is an int -/
abbrev IsB := { c : Iss // I64 c.s }
def unB (y : Int × IsB) : Int × Iss := (y.1, y.2.1)
theorem backI_stops (F : Fence) (n : Nat) (hF : F.fn 60) (hro : F.round = none) (hn : 1 ≤ n) (Bs n₀ p : Nat) (ad : Option Addr) (cap : Nat) (zs : List Iss) (hlen : zs.length ≤ 1000000) (hs : ∀ c ∈ zs, I64 c.s) (w : World) (hn₀ : n₀ ≤ w.heap.size) (hBs0 : Bs < n₀) (hBp : Bs ≠ p)
    (hc : w.cell? ⟨Bs, 0, none⟩ = some (.slice ad zs.length cap)) (hI : ∃ w0, Rd w0 encI (.slice ad zs.length cap) zs ∧ w0.heap.size ≤ n₀ ∧ w0.heap.size ≤ p ∧ Below w0.heap.size w0 w) :
    SeqStopsK F n Try.prog 60 #[.pointer (some ⟨Bs, 0, none⟩)] (fun x : Int × IsB => #[Value.int .i64 x.1, isV x.2.1]) (KB n₀ p) (fun ys => ys.map unB = bw zs zs.length)
      (fun pre => ∃ k, k ≤ zs.length ∧ pre.map unB = bw zs k) zs.length w := fun l J Jx W hWb _ _ hY h0 => by
  have hW : KB n₀ p w W := KB.of_below (hWb.mono hn₀)
  have hcell : ∀ W', KB n₀ p w W' → W'.cell? ⟨Bs, 0, none⟩ = some (.slice ad zs.length cap) := fun W' h => by
    unfold World.cell? at hc ⊢; rw [h.block Bs hBs0 hBp]; exact hc
  obtain ⟨w0, hrd, hw0, hwp, hbw⟩ := hI
  rcases Nat.eq_zero_or_pos zs.length with hz | hp
  · obtain rfl : zs = [] := List.eq_nil_of_length_eq_zero hz
    exact (backI1_nil_in F n hF hro l Bs cap ad (fun pre W => J [] W) W (hcell W hW) h0).mono fun e W' ⟨he, hj⟩ => ⟨he, .inl ⟨[], rfl, hj⟩⟩
  · obtain ⟨b, o, c, hv, _, hlt, -⟩ := hrd.cells encI_ok hp
    simp only [Value.slice.injEq, true_and] at hv
    obtain ⟨rfl, rfl⟩ := hv
    have main := backI2_in F n hF hro hn l Bs b o cap zs hlen (KB n₀ p) (KB.refl _ _) (fun h k => h.trans k) (fun pre W => ∃ pre' : List (Int × IsB), pre'.map unB = pre ∧ J pre' W) (fun pre W => ∃ pre' : List (Int × IsB), pre'.map unB = pre ∧ Jx pre' W) (fun pre x W hJ hlt hmem => by
      obtain ⟨pre', rfl, hJ⟩ := hJ
      obtain ⟨fn, tmps, assign, body, hy, hR⟩ := hY pre' (x.1, ⟨x.2, hs _ hmem⟩) W hJ (by simpa using hlt)
      refine ⟨fn, tmps, assign, body, hy, hR.mono ?_⟩
      rintro e W3 (⟨he, h1, h2⟩ | ⟨he, h1⟩)
      · exact .inl ⟨he, ⟨_, by simp [unB], h1⟩, h2⟩
      · exact .inr ⟨he, ⟨_, by simp [unB], h1⟩⟩) W (fun W' h => hcell W' (hW.trans h)) (fun W' h j hj => by
        have hk := hW.trans h
        obtain ⟨b', o', hb', -, q0, q1, q2⟩ := (rdI_cells hrd).2 W' (fun k hk1 b' o' _ _ => (hk.block k (by omega) (by omega)).trans (hbw.block k hk1)) j hj
        simp only [Option.some.injEq, Addr.mk.injEq] at hb'
        obtain ⟨rfl, rfl, -⟩ := hb'
        exact ⟨q0, q1, q2⟩) ⟨[], rfl, h0⟩
    refine main.mono ?_
    rintro e W' ⟨he, h | h⟩
    · obtain ⟨ys, hys, ys', rfl, hj⟩ := h
      exact ⟨he, .inl ⟨ys', hys, hj⟩⟩
    · obtain ⟨pre, ⟨k, hk, hpk⟩, pre', rfl, hj⟩ := h
      exact ⟨he, .inr ⟨pre', ⟨k, hk, hpk⟩, hj⟩⟩
theorem rd_kept {α : Type} {w w' : World} {enc : α → List Value} {v : Value} {l : List α} {row : Option Nat} (h : Rd w enc v l) (hg : w.grownBy w' row) (hr : ∀ r, row = some r → ∃ o : Obj, w.heap[r]? = some o ∧ o.isCells = false) : Rd w' enc v l := by
  rcases h with h | ⟨b, o, c, rfl, hlt, hc, hcell⟩
  · exact .inl h
  · exact .inr ⟨b, o, c, rfl, Nat.lt_of_lt_of_le hlt hg.size, hc, fun j u hj => cell_kept (hcell j u hj) hg hr⟩
theorem nameIn_kept {w w' : World} {S : Nat → Prop} {v : Value} {n : Nm} {row : Option Nat} (h : NameIn w S v n) (hg : w.grownBy w' row) (hr : ∀ r, row = some r → ∃ o : Obj, w.heap[r]? = some o ∧ o.isCells = false) : NameIn w' S v n := by
  obtain ⟨vs, h1, hl, h2⟩ := h
  exact ⟨vs, ⟨rd_kept h1.1 hg hr, h1.2⟩, hl, fun i hi => ⟨rd_kept (h2 i hi).1 hg hr, (h2 i hi).2⟩⟩
theorem eo_kept {w w' : World} {B : Nat} {v : Value} {l : List Et} {row : Option Nat} (h : EO w B v l) (hg : w.grownBy w' row) (hr : ∀ r, row = some r → ∃ o : Obj, w.heap[r]? = some o ∧ o.isCells = false) : EO w' B v l := by
  refine ⟨⟨h.own.1, ?_⟩, fun x hx => ⟨nameIn_kept (h.nm x hx).1 hg hr, (h.nm x hx).2⟩⟩
  rcases h.own.2 with q | ⟨g, cap, cur, hv, hb, hh, r⟩
  · exact .inl q
  · exact .inr ⟨g, cap, cur, hv, hb, blk_kept (B0 := 0) hh hg (fun r hr' => ⟨Nat.zero_le _, hr r hr'⟩), r⟩
end Go.Proofs.Ytpagoinnkknkfaa.Pb
