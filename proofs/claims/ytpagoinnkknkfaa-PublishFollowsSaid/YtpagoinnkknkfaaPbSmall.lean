/-
  The sort of entries by their serial numbers: slices.SortStableFunc; sorted. (Fewer than 20 entries.)
-/
/-
  slices.SortStableFunc at fewer than 20 entries; sorted.
-/
import Derived.Test.YtpagoinnkknkfaaPbConcat
import Derived.Test.YtpagoinnkknkfaaStOwn
import Derived.Test.YtpagoinnkknkfaaShelf
namespace Go.Proofs.Ytpagoinnkknkfaa.Pb
open Go Go.RowKit Go.Sort Go.Proofs.Ytpagoinnkknkfaa.Slc Go.Proofs.Ytpagoinnkknkfaa.St
set_option linter.unusedVariables false
set_option linter.unusedSimpArgs false

def ltN (a b : En) : Bool := decide (a.s < b.s)
theorem ltN_ord : Ord ltN := ⟨fun x => by simp [ltN], fun x y z h1 h2 => by simp [ltN] at *; omega, fun x y z h1 h2 => by simp [ltN] at *; omega⟩
/-- the reference's sort is sorted and keeps the classes -/
theorem insR_ok (out : List En) (e : En) (hs : Srt ltN out) : Srt ltN (insR out e) ∧ Stab ltN (out ++ [e]) (insR out e) := by
  obtain ⟨A, hA⟩ : ∃ A, A = (out.reverse.dropWhile (fun x => decide (e.s < x.s))).reverse := ⟨_, rfl⟩
  obtain ⟨B, hB⟩ : ∃ B, B = (out.reverse.takeWhile (fun x => decide (e.s < x.s))).reverse := ⟨_, rfl⟩
  have hout : out = A ++ B := by
    rw [hA, hB, ← List.reverse_append, List.takeWhile_append_dropWhile, List.reverse_reverse]
  have hins : insR out e = A ++ e :: B := by rw [insR, hA, hB]
  have hBlt : ∀ y ∈ B, e.s < y.s := by
    intro y hy
    rw [hB, List.mem_reverse] at hy
    have := List.all_eq_true.1 (List.all_takeWhile (p := fun x : En => decide (e.s < x.s)) (l := out.reverse)) y hy
    simpa using this
  have hs' := Srt.append.1 (hout ▸ hs)
  have hAle : ∀ y ∈ A, y.s ≤ e.s := by
    rcases List.eq_nil_or_concat A with h0 | ⟨A', a, h0⟩
    · intro y hy; rw [h0] at hy; cases hy
    · have h0' : A = A' ++ [a] := by simpa using h0
      have hla : ¬ e.s < a.s := by
        have h1 : (out.reverse.dropWhile (fun x => decide (e.s < x.s))) = a :: A'.reverse := by
          have := congrArg List.reverse hA
          rw [List.reverse_reverse] at this
          rw [← this, h0']; simp
        have := List.head?_dropWhile_not (fun x : En => decide (e.s < x.s)) out.reverse
        rw [h1] at this
        simpa using this
      have hs2 := Srt.append.1 (h0' ▸ hs'.1)
      intro y hy
      rw [h0', List.mem_append, List.mem_singleton] at hy
      rcases hy with hy | rfl
      · have := hs2.2.2 y hy a (by simp)
        simp [ltN] at this; omega
      · omega
  rw [hins, hout]
  constructor
  · refine Srt.append.2 ⟨hs'.1, List.pairwise_cons.2 ⟨fun y hy => by simp [ltN]; have := hBlt y hy; omega, hs'.2.1⟩, fun y hy z hz => ?_⟩
    rcases List.mem_cons.1 hz with rfl | hz
    · simp [ltN]; exact hAle y hy
    · exact hs'.2.2 y hy z hz
  · have e1 : (A ++ B) ++ [e] = A ++ (B ++ [e]) ++ [] := by simp
    have e2 : A ++ e :: B = A ++ ([e] ++ B) ++ [] := by simp
    rw [e1, e2]
    exact Stab.mid (Stab.swap ltN_ord fun u hu v hv => by rw [List.mem_singleton] at hv; subst hv; simp [ltN]; exact hBlt u hu) _ _
theorem sortE_ok (l : List En) : Srt ltN (sortE l) ∧ Stab ltN l (sortE l) := by
  have key : ∀ (l out : List En), Srt ltN out → Srt ltN (l.foldl insR out) ∧ Stab ltN (out ++ l) (l.foldl insR out) := by
    intro l
    induction l with
    | nil => intro out h; exact ⟨h, by rw [List.append_nil]; exact Stab.refl _⟩
    | cons e l ih =>
      intro out h
      obtain ⟨h1, h2⟩ := insR_ok out e h
      obtain ⟨h3, h4⟩ := ih _ h1
      refine ⟨h3, ?_⟩
      have e1 : out ++ e :: l = (out ++ [e]) ++ l := by simp
      rw [e1]
      exact (h2.append (Stab.refl l)).trans h4
  have := key l [] Srt.nil
  rwa [List.nil_append] at this
instance : Inhabited Et := ⟨⟨⟨0, 0, 0, 0, []⟩, ⟨none, 0, 0⟩⟩⟩
def cmpI (a b : Int) : Int := if a < b then -1 else if b < a then 1 else 0
def cfE (x y : Et) : Int := cmpI x.e.s y.e.s
abbrev ltE : Et → Et → Bool := ltOf cfE
theorem ltE_eq (x y : Et) : ltE x y = ltN x.e y.e := by
  unfold ltE ltOf cfE cmpI ltN
  by_cases h : x.e.s < y.e.s
  · simp [h]
  · by_cases h2 : y.e.s < x.e.s
    · simp [h, h2]
    · simp [h, h2]
theorem ltE_ord : Ord ltE := ⟨fun x => by rw [ltE_eq]; exact ltN_ord.irr _, fun x y z h1 h2 => by rw [ltE_eq] at *; exact ltN_ord.tr _ _ _ h1 h2, fun x y z h1 h2 => by rw [ltE_eq] at *; exact ltN_ord.co _ _ _ h1 h2⟩
theorem sorted_ens {L S : List Et} (h1 : Srt ltE S) (h2 : Stab ltE L S) : ens S = sortE (ens L) := by
  refine srt_unique ltN_ord _ _ ?_ (sortE_ok _).1 ?_
  · unfold Srt ens
    rw [List.pairwise_map]
    exact h1.imp fun h => by rwa [ltE_eq] at h
  · refine Stab.trans ?_ (sortE_ok _).2
    intro x
    have := h2 ⟨x, ⟨none, 0, 0⟩⟩
    unfold ens
    rw [List.filter_map, List.filter_map]
    have e : (eqv ltN x ∘ fun y : Et => y.e) = eqv ltE ⟨x, ⟨none, 0, 0⟩⟩ := by
      funext y; simp only [Function.comp, eqv, ltE_eq]
    rw [e, this]

theorem cmp_any (w : World) (a b : Int) :
    Calls Try.prog 66 #[.int .i64 a, .int .i64 b] w fun e w' => e = .returned (.int .i64 (cmpI a b)) ∧ w = w' := by
  have hnan : ∀ (x : Int) (W : World), Calls Try.prog 75 #[.int .i64 x] W fun e w' => e = .returned (.bool false) ∧ W = w' := by
    intro x W
    have t0 : (x != x) = false := by simp
    go_enter Try.func75, Try.ntmps75
    go_wp2
    go_ret
    exact ⟨rfl, rfl⟩
  have HN := Bx.mk hnan
  clear hnan
  by_cases h : a < b
  · have hr : cmpI a b = -1 := by unfold cmpI; rw [if_pos h]
    rw [hr]
    have t0 : decide (a < b) = true := by simpa using h
    clear hr h
    go_enter Try.func66, Try.ntmps66
    go_wp2_with (go_at_call 75; refine (HN.out _ _).mono ?_; rintro e w' ⟨rfl, rfl⟩)
    go_ret
    exact ⟨rfl, rfl⟩
  · have t0 : decide (a < b) = false := by simpa using h
    by_cases h2 : b < a
    · have hr : cmpI a b = 1 := by unfold cmpI; rw [if_neg h, if_pos h2]
      rw [hr]
      have t1 : decide (a > b) = true := by simpa using h2
      clear hr h h2
      go_enter Try.func66, Try.ntmps66
      go_wp2_with (go_at_call 75; refine (HN.out _ _).mono ?_; rintro e w' ⟨rfl, rfl⟩)
      go_ret
      exact ⟨rfl, rfl⟩
    · have hr : cmpI a b = 0 := by unfold cmpI; rw [if_neg h, if_neg h2]
      rw [hr]
      have t1 : decide (a > b) = false := by simpa using h2
      clear hr h h2
      go_enter Try.func66, Try.ntmps66
      go_wp2_with (go_at_call 75; refine (HN.out _ _).mono ?_; rintro e w' ⟨rfl, rfl⟩)
      go_ret
      exact ⟨rfl, rfl⟩
theorem closure_any (x y : Et) (W : World) : Calls Try.prog 65 #[entV x, entV y] W fun e w' => e = .returned (.int .i64 (cfE x y)) ∧ ∃ q os', w' = grow (W.drewN q) os' := by
  have hcon := fun W' => cmp_any W' x.e.s y.e.s
  unfold cfE entV
  generalize cmpI x.e.s y.e.s = r at hcon ⊢
  generalize x.u.val = U1 at *
  generalize y.u.val = U2 at *
  generalize x.e.s = S1 at *
  generalize y.e.s = S2 at *
  go_enter Try.func65, Try.ntmps65
  go_wp2_with (go_at_call 66; refine (hcon _).mono ?_; rintro e w' ⟨rfl, rfl⟩)
  go_ret
  exact ⟨rfl, 0, _, by rw [alloc_eq_grow, alloc_eq_grow, grow_grow]; rfl⟩
theorem lays_any (blk off size : Nat) (w : World) : CmpLays Try.prog 65 #[] encE 5 cfE blk off size w := fun _ _ _ _ x y => closure_any x y _
theorem enters_cmp : ∀ args w, (callFunc 65 args).run Try.prog w = .ok (.enter 65 args) w := enters_of Try.func65 (by kernel_rfl) rfl

/-- the insertion sort of a stretch, from a world of the sort's to a world of the sort's -/
theorem ins_any {w0 : World} {blk cap : Nat} {d0 : Array Et} (R : RowK encE 5 w0 blk 0 d0) (dk : Array Et) (W : World) (hs : dk.size = d0.size) (S : SWK encE 5 w0 blk 0 dk W) (P L Q : List Et) (hd : dk.toList = P ++ (L ++ Q)) (hsz : dk.size < 4611686018427387904) {n a b : Nat} (hn : n = dk.size) (ha : a = P.length) (hb : b = P.length + L.length) :
    Calls Try.prog 90 #[.slice (some ⟨blk, 0, none⟩) n cap, .int .i64 (a : Nat), .int .i64 (b : Nat), .func (.func 65) #[] #[]] W fun e w' =>
      e = .returned (.tuple #[]) ∧ ∃ (dk' : Array Et) (S' : List Et), dk'.toList = P ++ (S' ++ Q) ∧ Srt ltE S' ∧ Stab ltE L S' ∧ SWK encE 5 w0 blk 0 dk' w' := by
  subst hn ha hb
  have hlen : dk.size = P.length + L.length + Q.length := by rw [← Array.length_toList, hd]; simp; omega
  have hH := S.holds R.hblk R.hH hs
  have hblk : blk < W.heap.size := S.lt R.hblk
  have hc := AnyQ.insertionSortCmpFunc Try.insK 5 Try.isAgg44 Try.sizeOf44 encE R.hk R.h1 cfE 65 #[] blk 0 cap P.length (P.length + L.length) dk W enters_cmp (lays_any _ _ _ _) hH hblk (by omega) (by omega) hsz
  change Calls Try.prog 90 _ _ _ at hc
  refine hc.mono ?_
  rintro e w' ⟨rfl, m, os, rfl⟩
  obtain ⟨S', h1, h2, h3⟩ := insSort_list ltE_ord P L Q dk hd
  refine ⟨rfl, _, S', h1, h2, h3, ?_⟩
  refine S.on R.hblk m _ os ?_
  have h4 := h3.length ltE_ord
  rw [← Array.length_toList, h1]
  simp only [List.length_append]
  omega
end Go.Proofs.Ytpagoinnkknkfaa.Pb

namespace Go.Proofs.Ytpagoinnkknkfaa.Pb
open Go Go.RowKit Go.Sort Go.Proofs.Ytpagoinnkknkfaa.Slc Go.Proofs.Ytpagoinnkknkfaa.St
set_option linter.unusedVariables false
set_option linter.unusedSimpArgs false

theorem enc_one5 : ∀ x, ∀ v ∈ encE x, v.oneCell' = true := encE_ok.one
/-- behind the sort -/
theorem EO.sorted {w W : World} {B g n cap : Nat} {l : List Et} {dk : Array Et} (h : EO w B (.slice (some ⟨g, 0, none⟩) n cap) l) (hs : dk.size = l.length) (hS : SWK encE 5 w g 0 dk W) (h1 : Srt ltE dk.toList) (h2 : Stab ltE l dk.toList) :
    EO W B (.slice (some ⟨g, 0, none⟩) n cap) dk.toList ∧ ens dk.toList = sortE (ens l) ∧ w.grownBy W (some g) := by
  obtain ⟨ho, hg⟩ := own_sorted encE_ok h.own hs hS
  refine ⟨⟨ho, fun x hx => ?_⟩, sorted_ens h1 h2, hg⟩
  exact (h.nm x (h2.symm.mem ltE_ord hx)).keep hg.size fun k hk hlt => hg.block k hlt fun e => hk e.symm
theorem ins_none (p : Option Addr) (cap : Nat) (fv : Value) (w : World) :
    Calls Try.prog 90 #[.slice p 0 cap, .int .i64 0, .int .i64 0, fv] w fun e w' => e = .returned (.tuple #[]) ∧ w = w' := by
  go_enter Try.func90, Try.ntmps90
  go_wp2
  go_loopw [8] (fun i wr => i = .int .i64 1 ∧ w = wr) (fun i _ => 1 - (intOf i).toNat)
  case atStart => exact ⟨rfl, rfl⟩
  case round =>
    obtain ⟨rfl, rfl⟩ := hrel
    go_wp2
    go_end0
    exact ⟨rfl, rfl⟩
set_option maxRecDepth 10000 in
set_option maxHeartbeats 2000000 in
theorem stable_small (w : World) (B : Nat) (v : Value) (l : List Et) (h : EO w B v l) (hn : l.length < 20) :
    Calls Try.prog 74 #[v, .int .i64 (l.length : Nat), .func (.func 65) #[] #[]] w fun e w' => e = .returned (.tuple #[]) ∧ ∃ l', EO w' B v l' ∧ ens l' = sortE (ens l) ∧ w.grownBy w' v.ownBlock := by
  obtain ⟨ad, c, rfl, -⟩ := h.own.rd.form
  have H := Bx.mk h
  have t0 : decide ((20 : Int) ≤ (l.length : Nat)) = false := by simp; omega
  have t1 : decide ((20 : Int) < (l.length : Nat)) = false := by simp; omega
  rcases Nat.eq_zero_or_pos l.length with h0 | hp
  · obtain rfl : l = [] := List.eq_nil_of_length_eq_zero h0
    have hc := fun W => ins_none ad c (.func (.func 65) #[] #[]) W
    have hz : ((([] : List Et).length : Nat) : Int) = 0 := rfl
    have hz2 : ([] : List Et).length = 0 := rfl
    rw [hz, hz2]
    rw [hz2] at H
    clear t0 t1 hz hz2 h h0 hn
    go_enter Try.func74, Try.ntmps74
    go_wp2
    go_loopw [7, 8] (fun a b wr => a = .int .i64 0 ∧ b = .int .i64 20 ∧ w = wr) (fun _ b _ => 40 - (intOf b).toNat)
    case atStart => exact ⟨rfl, rfl, rfl⟩
    case round =>
      obtain ⟨rfl, rfl, rfl⟩ := hrel
      go_wp2_with (go_at_call 90; refine (hc _).mono ?_; rintro e w' ⟨rfl, rfl⟩)
      go_loopw [6] (fun a wr => a = .int .i64 20 ∧ w = wr) (fun b _ => 40 - (intOf b).toNat)
      case atStart => exact ⟨rfl, rfl⟩
      case round =>
        obtain ⟨rfl, rfl⟩ := hrel
        go_wp2
        go_end0
        exact ⟨rfl, [], H.out, rfl, ⟨rfl, rfl, rfl, Nat.le_refl _, fun _ _ _ => rfl⟩⟩
  · rcases h.own.2 with ⟨_, hn0⟩ | ⟨g, cap, cur, hv, hB, hb, hc, hm, hcs, ht⟩
    · omega
    simp only [Value.slice.injEq] at hv
    obtain ⟨rfl, -, rfl⟩ := hv
    have R : RowK encE 5 w g 0 l.toArray := ⟨encE_ok.len, enc_one5, holds_own encE_ok h.own, lt_of_block hb⟩
    have hcall := ins_any (cap := c) R l.toArray w rfl (SWK.start R.hH) [] l [] (by simp) (by simp; omega) (n := l.length) (a := 0) (b := l.length) (by simp) rfl (by simp)
    have hz : ((0 : Nat) : Int) = 0 := rfl
    rw [hz] at hcall
    clear hz h R hb ht
    go_enter Try.func74, Try.ntmps74
    go_wp2
    go_loopw [7, 8] (fun a b wr => a = .int .i64 0 ∧ b = .int .i64 20 ∧ w = wr) (fun _ b _ => 40 - (intOf b).toNat)
    case atStart => exact ⟨rfl, rfl, rfl⟩
    case round =>
      obtain ⟨rfl, rfl, rfl⟩ := hrel
      go_wp2_with fail
      go_at_call 90
      refine hcall.mono ?_
      rintro e w1 ⟨rfl, dk, S, h1, h2, h3, h4⟩
      have HR := Bx.mk (show EO w1 B (.slice (some ⟨g, 0, none⟩) l.length c) dk.toList ∧ ens dk.toList = sortE (ens l) ∧ w.grownBy w1 (some g) from by
        have e1 : dk.toList = S := by rw [h1]; simp
        refine H.out.sorted ?_ h4 (by rw [e1]; exact h2) (by rw [e1]; exact h3)
        rw [← Array.length_toList, e1, ← h3.length ltE_ord])
      clear h1 h2 h3 h4 hcall
      go_wp2
      go_loopw [6] (fun a wr => a = .int .i64 20 ∧ w1 = wr) (fun b _ => 40 - (intOf b).toNat)
      case atStart => exact ⟨rfl, rfl⟩
      case round =>
        obtain ⟨rfl, rfl⟩ := hrel
        go_wp2
        go_end0
        exact ⟨rfl, _, HR.out⟩

/-- sorted: copies of the entries of some lists, one list after the other, sorted -/
theorem sortstable_any (w : World) (B : Nat) (v : Value) (l : List Et) (h : EO w B v l) (hn : l.length < 20) :
    Calls Try.prog 64 #[v, .func (.func 65) #[] #[]] w fun e w' => e = .returned (.tuple #[]) ∧ ∃ l', EO w' B v l' ∧ ens l' = sortE (ens l) ∧ w.grownBy w' v.ownBlock := by
  have hc := stable_small w B v l h hn
  obtain ⟨ad, c, rfl, -⟩ := h.own.rd.form
  clear h
  go_enter Try.func64, Try.ntmps64
  go_wp2_with (go_at_call 74; refine hc.mono ?_; rintro e w' ⟨rfl, hr⟩)
  have HR := Bx.mk hr
  clear hr hc
  go_end0
  exact ⟨rfl, HR.out⟩
theorem sorted_any (w : World) (v : Value) (ls : List (List Et)) (hv : LL w v ls) (hn : ls.length ≤ 1000) (ht : lens ls < 20) :
    Calls Try.prog 50 #[v] w fun e w' => ∃ v' l', e = .returned v' ∧ EO w' w.heap.size v' l' ∧ ens l' = sortE (ens ls.flatten) ∧ Below w.heap.size w w' := by
  have hc := concat_any w v ls hv hn (by omega)
  go_enter Try.func50, Try.ntmps50
  go_wp2_with fail
  go_at_call 63
  refine hc.mono ?_
  rintro e w1 ⟨v1, rfl, heo1, hb1⟩
  have hc2 := entries_any w1 v1 ls.flatten heo1.el (by unfold lens at ht; omega)
  have HB1 := Bx.mk hb1
  clear hb1 hc heo1
  go_wp2_with fail
  go_at_call 62
  refine hc2.mono ?_
  rintro e w2 ⟨v2, l2, rfl, heo2, hen2, hb2⟩
  have hlen : l2.length = ls.flatten.length := by have := congrArg List.length hen2; simp only [ens, List.length_map] at this; exact this
  have hc3 := sortstable_any w2 w1.heap.size v2 l2 heo2 (by unfold lens at ht; omega)
  have HB2 := Bx.mk (HB1.out.trans (hb2.mono HB1.out.size))
  have HV2 := Bx.mk (show ∀ k, v2.ownBlock = some k → w1.heap.size ≤ k from fun k hk => (heo2.own.lt k hk).1)
  have HE2 := Bx.mk hen2
  clear hb2 hc2 heo2 hen2 hlen
  go_wp2_with fail
  go_at_call 64
  refine hc3.mono ?_
  rintro e w3 ⟨rfl, l3, heo3, hen3, hg3⟩
  have HF := Bx.mk (show EO w3 w.heap.size v2 l3 ∧ ens l3 = sortE (ens ls.flatten) ∧ Below w.heap.size w w3 from
    ⟨heo3.mono HB1.out.size, by rw [hen3, HE2.out], HB2.out.grown hg3 HB2.out.size fun k hk => Nat.le_trans HB1.out.size (HV2.out k hk)⟩)
  clear heo3 hen3 hg3 hc3
  go_wp2
  go_ret
  exact ⟨_, l3, rfl, HF.out.1, HF.out.2.1, HF.out.2.2⟩
end Go.Proofs.Ytpagoinnkknkfaa.Pb
