/-
  The sort of entries by their serial numbers: slices.SortStableFunc; sorted. (Fewer than 20 entries.)
-/
import Derived.Test.YtpagoinnkknkfaaPbConcat
import Derived.Test.YtpagoinnkknkfaaStOwn
import Derived.Test.YtpagoinnkknkfaaShelf
namespace Go.Proofs.Ytpagoinnkknkfaa.Pb
open Go Go.RowKit Go.Sort Go.Proofs.Ytpagoinnkknkfaa.Slc Go.Proofs.Ytpagoinnkknkfaa.St
set_option linter.unusedVariables false
set_option linter.unusedSimpArgs false

def ltN (a b : En) : Bool := decide (a.s < b.s)
theorem ltN_ord : Ord ltN := ⟨fun x => by simp [ltN], fun x y z h1 h2 => by simp [ltN] at *; omega, fun x y z h1 h2 => by simp [ltN] at *; omega⟩
/-- the reference's sort is sorted and keeps the classes -/
theorem insR_ok (out : List En) (e : En) (hs : Srt ltN out) : Srt ltN (insR out e) ∧ Stab ltN (out ++ [e]) (insR out e) := by
  obtain ⟨A, hA⟩ : ∃ A, A = (out.reverse.dropWhile (fun x => decide (e.s < x.s))).reverse := ⟨_, rfl⟩
  obtain ⟨B, hB⟩ : ∃ B, B = (out.reverse.takeWhile (fun x => decide (e.s < x.s))).reverse := ⟨_, rfl⟩
  have hout : out = A ++ B := by
    rw [hA, hB, ← List.reverse_append, List.takeWhile_append_dropWhile, List.reverse_reverse]
  have hins : insR out e = A ++ e :: B := by rw [insR, hA, hB]
  have hBlt : ∀ y ∈ B, e.s < y.s := by
    intro y hy
    rw [hB, List.mem_reverse] at hy
    have := List.all_eq_true.1 (List.all_takeWhile (p := fun x : En => decide (e.s < x.s)) (l := out.reverse)) y hy
    simpa using this
  have hs' := Srt.append.1 (hout ▸ hs)
  have hAle : ∀ y ∈ A, y.s ≤ e.s := by
    rcases List.eq_nil_or_concat A with h0 | ⟨A', a, h0⟩
    · intro y hy; rw [h0] at hy; cases hy
    · have h0' : A = A' ++ [a] := by simpa using h0
      have hla : ¬ e.s < a.s := by
        have h1 : (out.reverse.dropWhile (fun x => decide (e.s < x.s))) = a :: A'.reverse := by
          have := congrArg List.reverse hA
          rw [List.reverse_reverse] at this
          rw [← this, h0']; simp
        have := List.head?_dropWhile_not (fun x : En => decide (e.s < x.s)) out.reverse
        rw [h1] at this
        simpa using this
      have hs2 := Srt.append.1 (h0' ▸ hs'.1)
      intro y hy
      rw [h0', List.mem_append, List.mem_singleton] at hy
      rcases hy with hy | rfl
      · have := hs2.2.2 y hy a (by simp)
        simp [ltN] at this; omega
      · omega
  rw [hins, hout]
  constructor
  · refine Srt.append.2 ⟨hs'.1, List.pairwise_cons.2 ⟨fun y hy => by simp [ltN]; have := hBlt y hy; omega, hs'.2.1⟩, fun y hy z hz => ?_⟩
    rcases List.mem_cons.1 hz with rfl | hz
    · simp [ltN]; exact hAle y hy
    · exact hs'.2.2 y hy z hz
  · have e1 : (A ++ B) ++ [e] = A ++ (B ++ [e]) ++ [] := by simp
    have e2 : A ++ e :: B = A ++ ([e] ++ B) ++ [] := by simp
    rw [e1, e2]
    exact Stab.mid (Stab.swap ltN_ord fun u hu v hv => by rw [List.mem_singleton] at hv; subst hv; simp [ltN]; exact hBlt u hu) _ _
theorem sortE_ok (l : List En) : Srt ltN (sortE l) ∧ Stab ltN l (sortE l) := by
  have key : ∀ (l out : List En), Srt ltN out → Srt ltN (l.foldl insR out) ∧ Stab ltN (out ++ l) (l.foldl insR out) := by
    intro l
    induction l with
    | nil => intro out h; exact ⟨h, by rw [List.append_nil]; exact Stab.refl _⟩
    | cons e l ih =>
      intro out h
      obtain ⟨h1, h2⟩ := insR_ok out e h
      obtain ⟨h3, h4⟩ := ih _ h1
      refine ⟨h3, ?_⟩
      have e1 : out ++ e :: l = (out ++ [e]) ++ l := by simp
      rw [e1]
      exact (h2.append (Stab.refl l)).trans h4
  have := key l [] Srt.nil
  rwa [List.nil_append] at this
instance : Inhabited Et := ⟨⟨⟨0, 0, 0, 0, []⟩, ⟨none, 0, 0⟩⟩⟩
def cmpI (a b : Int) : Int := if a < b then -1 else if b < a then 1 else 0
def cfE (x y : Et) : Int := cmpI x.e.s y.e.s
abbrev ltE : Et → Et → Bool := ltOf cfE
theorem ltE_eq (x y : Et) : ltE x y = ltN x.e y.e := by
  unfold ltE ltOf cfE cmpI ltN
  by_cases h : x.e.s < y.e.s
  · simp [h]
  · by_cases h2 : y.e.s < x.e.s
    · simp [h, h2]
    · simp [h, h2]
theorem ltE_ord : Ord ltE := ⟨fun x => by rw [ltE_eq]; exact ltN_ord.irr _, fun x y z h1 h2 => by rw [ltE_eq] at *; exact ltN_ord.tr _ _ _ h1 h2, fun x y z h1 h2 => by rw [ltE_eq] at *; exact ltN_ord.co _ _ _ h1 h2⟩
theorem sorted_ens {L S : List Et} (h1 : Srt ltE S) (h2 : Stab ltE L S) : ens S = sortE (ens L) := by
  refine srt_unique ltN_ord _ _ ?_ (sortE_ok _).1 ?_
  · unfold Srt ens
    rw [List.pairwise_map]
    exact h1.imp fun h => by rwa [ltE_eq] at h
  · refine Stab.trans ?_ (sortE_ok _).2
    intro x
    have := h2 ⟨x, ⟨none, 0, 0⟩⟩
    unfold ens
    rw [List.filter_map, List.filter_map]
    have e : (eqv ltN x ∘ fun y : Et => y.e) = eqv ltE ⟨x, ⟨none, 0, 0⟩⟩ := by
      funext y; simp only [Function.comp, eqv, ltE_eq]
    rw [e, this]

theorem cmp_any (w : World) (a b : Int) :
    Calls Try.prog 66 #[.int .i64 a, .int .i64 b] w fun e w' => e = .returned (.int .i64 (cmpI a b)) ∧ w = w' := by
  have hnan : ∀ (x : Int) (W : World), Calls Try.prog 75 #[.int .i64 x] W fun e w' => e = .returned (.bool false) ∧ W = w' := by
    intro x W
    have t0 : (x != x) = false := by simp
    go_enter Try.func75, Try.ntmps75
    go_wp2
    go_ret
    exact ⟨rfl, rfl⟩
  have HN := Bx.mk hnan
  clear hnan
  by_cases h : a < b
  · have hr : cmpI a b = -1 := by unfold cmpI; rw [if_pos h]
    rw [hr]
    have t0 : decide (a < b) = true := by simpa using h
    clear hr h
    go_enter Try.func66, Try.ntmps66
    go_wp2_with (go_at_call 75; refine (HN.out _ _).mono ?_; rintro e w' ⟨rfl, rfl⟩)
    go_ret
    exact ⟨rfl, rfl⟩
  · have t0 : decide (a < b) = false := by simpa using h
    by_cases h2 : b < a
    · have hr : cmpI a b = 1 := by unfold cmpI; rw [if_neg h, if_pos h2]
      rw [hr]
      have t1 : decide (a > b) = true := by simpa using h2
      clear hr h h2
      go_enter Try.func66, Try.ntmps66
      go_wp2_with (go_at_call 75; refine (HN.out _ _).mono ?_; rintro e w' ⟨rfl, rfl⟩)
      go_ret
      exact ⟨rfl, rfl⟩
    · have hr : cmpI a b = 0 := by unfold cmpI; rw [if_neg h, if_neg h2]
      rw [hr]
      have t1 : decide (a > b) = false := by simpa using h2
      clear hr h h2
      go_enter Try.func66, Try.ntmps66
      go_wp2_with (go_at_call 75; refine (HN.out _ _).mono ?_; rintro e w' ⟨rfl, rfl⟩)
      go_ret
      exact ⟨rfl, rfl⟩
theorem closure_any (x y : Et) (W : World) : Calls Try.prog 65 #[entV x, entV y] W fun e w' => e = .returned (.int .i64 (cfE x y)) ∧ ∃ q os', w' = grow (W.drewN q) os' := by
  have hcon := fun W' => cmp_any W' x.e.s y.e.s
  unfold cfE entV
  generalize cmpI x.e.s y.e.s = r at hcon ⊢
  generalize x.u.val = U1 at *
  generalize y.u.val = U2 at *
  generalize x.e.s = S1 at *
  generalize y.e.s = S2 at *
  go_enter Try.func65, Try.ntmps65
  go_wp2_with (go_at_call 66; refine (hcon _).mono ?_; rintro e w' ⟨rfl, rfl⟩)
  go_ret
  exact ⟨rfl, 0, _, by rw [alloc_eq_grow, alloc_eq_grow, grow_grow]; rfl⟩
theorem lays_any (blk off size : Nat) (w : World) : CmpLays Try.prog 65 #[] encE 5 cfE blk off size w := fun _ _ _ _ x y => closure_any x y _
theorem enters_cmp : ∀ args w, (callFunc 65 args).run Try.prog w = .ok (.enter 65 args) w := enters_of Try.func65 (by kernel_rfl) rfl

/-- the insertion sort of a stretch, from a world of the sort's to a world of the sort's -/
theorem ins_any {w0 : World} {blk cap : Nat} {d0 : Array Et} (R : RowK encE 5 w0 blk 0 d0) (dk : Array Et) (W : World) (hs : dk.size = d0.size) (S : SWK encE 5 w0 blk 0 dk W) (P L Q : List Et) (hd : dk.toList = P ++ (L ++ Q)) (hsz : dk.size < 4611686018427387904) {n a b : Nat} (hn : n = dk.size) (ha : a = P.length) (hb : b = P.length + L.length) :
    Calls Try.prog 90 #[.slice (some ⟨blk, 0, none⟩) n cap, .int .i64 (a : Nat), .int .i64 (b : Nat), .func (.func 65) #[] #[]] W fun e w' =>
      e = .returned (.tuple #[]) ∧ ∃ (dk' : Array Et) (S' : List Et), dk'.toList = P ++ (S' ++ Q) ∧ Srt ltE S' ∧ Stab ltE L S' ∧ SWK encE 5 w0 blk 0 dk' w' := by
  subst hn ha hb
  have hlen : dk.size = P.length + L.length + Q.length := by rw [← Array.length_toList, hd]; simp; omega
  have hH := S.holds R.hblk R.hH hs
  have hblk : blk < W.heap.size := S.lt R.hblk
  have hc := AnyQ.insertionSortCmpFunc Try.insK 5 Try.isAgg44 Try.sizeOf44 encE R.hk R.h1 cfE 65 #[] blk 0 cap P.length (P.length + L.length) dk W enters_cmp (lays_any _ _ _ _) hH hblk (by omega) (by omega) hsz
  change Calls Try.prog 90 _ _ _ at hc
  refine hc.mono ?_
  rintro e w' ⟨rfl, m, os, rfl⟩
  obtain ⟨S', h1, h2, h3⟩ := insSort_list ltE_ord P L Q dk hd
  refine ⟨rfl, _, S', h1, h2, h3, ?_⟩
  refine S.on R.hblk m _ os ?_
  have h4 := h3.length ltE_ord
  rw [← Array.length_toList, h1]
  simp only [List.length_append]
  omega
end Go.Proofs.Ytpagoinnkknkfaa.Pb
