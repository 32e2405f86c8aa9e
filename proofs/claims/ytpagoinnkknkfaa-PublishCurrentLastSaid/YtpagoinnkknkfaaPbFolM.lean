/-
  Follow of the program: the look into the history.
-/
import Derived.Test.YtpagoinnkknkfaaPbFolP
import Derived.Deep.DeepCutAuto
namespace Go.Proofs.Ytpagoinnkknkfaa.Pb
open Go Go.RowKit Go.Shelf Go.Proofs.Ytpagoinnkknkfaa.Slc
set_option linter.unusedVariables false
set_option linter.unusedSimpArgs false
attribute [local go_sem] Oper.semAt_some

theorem blk_from {β : Type} (B p : Nat) (f : β → Array Value) (t : TypeId) : OwnFrom B (fun (s : β) W => W.heap[p]? = some (.cells (f s) t (0, 0))) := by
  intro s A B' row h hg hr
  have h' : A.heap[p]? = some (.cells (f s) t (0, 0)) := h
  refine (hg.block p (lt_of_block h') fun e => ?_).trans h'
  obtain ⟨-, o, ho, hc⟩ := hr p e.symm
  rw [h'] at ho
  obtain rfl := Option.some.inj ho
  simp [Obj.isCells] at hc
theorem blk_kept {A B : World} {B0 p : Nat} {c : Array Value} {t : TypeId} {row : Option Nat} (h : A.heap[p]? = some (.cells c t (0, 0))) (hg : A.grownBy B row) (hr : ∀ r, row = some r → B0 ≤ r ∧ ∃ o : Obj, A.heap[r]? = some o ∧ o.isCells = false) : B.heap[p]? = some (.cells c t (0, 0)) := by
  refine (hg.block p (lt_of_block h) fun e => ?_).trans h
  obtain ⟨-, o, ho, hc⟩ := hr p e.symm
  rw [h] at ho
  obtain rfl := Option.some.inj ho
  simp [Obj.isCells] at hc
theorem alloc_keep {w : World} {p : Nat} {ob o : Obj} (h : w.heap[p]? = some ob) : (w.alloc o).heap[p]? = some ob := by
  have : p < w.heap.size := by
    rcases Nat.lt_or_ge p w.heap.size with q | q
    · exact q
    · rw [Array.getElem?_eq_none q] at h; cases h
  show (w.heap.push o)[p]? = _
  rw [Array.getElem?_push_lt this, ← h, Array.getElem?_eq_getElem this]
theorem row_set {W : World} {p i : Nat} {c : Array Value} {t : TypeId} {fr : Nat × Nat} (h : W.heap[p]? = some (.cells c t fr)) (v : Value) : (W.setCell ⟨p, i, none⟩ v).heap[p]? = some (.cells (c.setIfInBounds i v) t fr) := by
  simp only [World.setCell, Array.getElem?_modify, if_true, h, Option.map_some]
  simp
theorem row_other {W : World} {p q i : Nat} {ob : Obj} (h : W.heap[p]? = some ob) (hne : p ≠ q) (v : Value) : (W.setCell ⟨q, i, none⟩ v).heap[p]? = some ob := by
  simp only [World.setCell, Array.getElem?_modify]
  rw [if_neg (by omega)]; exact h
theorem frozen_row {W : World} {p i : Nat} {c : Array Value} {t : TypeId} (h : W.heap[p]? = some (.cells c t (0, 0))) : W.frozen? ⟨p, i, none⟩ = false := by
  simp [World.frozen?, h]
theorem last_none (l : List Ch) (S : Int) (h : ∀ y ∈ bw l l.length, y.2.s ≠ S) : lastOf l S = none := by
  unfold lastOf
  rw [List.find?_eq_none]
  intro x hx
  rw [← bw_all l, List.mem_map] at hx
  obtain ⟨y, hy, rfl⟩ := hx
  simpa using h y hy
theorem last_some (l : List Ch) (S : Int) (k : Nat) (ini : List (Int × Ch)) (last : Int × Ch) (hp : bw l k = ini ++ [last]) (h : ∀ y ∈ ini, y.2.s ≠ S) (hl : last.2.s = S) : lastOf l S = some last.2 := by
  have e := bw_pre l k
  rw [hp, List.map_append] at e
  have e2 : l.reverse = (ini.map (·.2)) ++ last.2 :: l.reverse.drop k := by
    conv => lhs; rw [← List.take_append_drop k l.reverse, ← e]
    simp
  unfold lastOf
  rw [e2, List.find?_append]
  have : (ini.map (·.2)).find? (fun c => c.s == S) = none := by
    rw [List.find?_eq_none]
    intro x hx
    rw [List.mem_map] at hx
    obtain ⟨y, hy, rfl⟩ := hx
    simpa using h y hy
  rw [this]
  simp [hl]
theorem own_pure {β : Type} (B : Nat) (φ : β → Prop) : OwnFrom B (fun s (_ : World) => φ s) := Own.from (fun s A B row h hg hr => h) _
theorem backC_stops (F : Fence) (n : Nat) (hF : F.fn 53) (hro : F.round = none) (hn : 1 ≤ n) (Bs n₀ : Nat) (sv : Value) (zs : List Ch) (hlen : zs.length ≤ 1000000) (w : World) (hBs0 : Bs < n₀) (hn₀ : n₀ ≤ w.heap.size)
    (hc : w.cell? ⟨Bs, 0, none⟩ = some sv) (hI : ∃ w0, Rd w0 encC sv zs ∧ w0.heap.size ≤ n₀ ∧ Below w0.heap.size w0 w) :
    SeqStopsK F n Try.prog 53 #[.pointer (some ⟨Bs, 0, none⟩)] (fun x : Int × Ch => #[Value.int .i64 x.1, chV x.2]) (Below n₀) (fun ys => ys = bw zs zs.length)
      (fun pre => ∃ k, k ≤ zs.length ∧ pre = bw zs k) zs.length w := fun l J Jx W hW _ _ hY h0 => by
  have hc' := (hW.cell (p := ⟨Bs, 0, none⟩) (Nat.lt_of_lt_of_le hBs0 hn₀)).trans hc
  obtain ⟨w0, hrd, hw0, hbw⟩ := hI
  rcases Nat.eq_zero_or_pos zs.length with hz | hp
  · obtain rfl : zs = [] := List.eq_nil_of_length_eq_zero hz
    obtain ⟨a, c, rfl, -⟩ := hrd.form
    exact (backC1_nil_in F n hF hro l Bs c a J W hc' h0).mono fun e W' ⟨he, hj⟩ => ⟨he, .inl ⟨_, rfl, hj⟩⟩
  · obtain ⟨b, o, c, hv, _, hlt, hcell⟩ := hrd.cells encC_ok hp
    subst hv
    refine backC1_in F n hF hro hn l Bs n₀ b o c zs hlen (by omega) J Jx hY hBs0 W hc' (fun W' hW' j hj => ?_) h0
    have hb2 : Below w0.heap.size w0 W' := hbw.trans ((hW.mono hbw.size).trans (hW'.mono hw0))
    have q := hcell W' (fun k hk => by cases hk; exact hb2.block b hlt) j hj
    exact ⟨q 0 _ (by omega) rfl, q 1 _ (by omega) rfl, q 2 _ (by omega) rfl, q 3 _ (by omega) rfl⟩
/-- the law with the frame named by the law itself -/
theorem rf_H {F : Fence} {n : Nat} {P : Program} {α : Type} {g : Operand} {ps : Array Tmp} {assign body : Code} {Q : Exit → Act → World → Prop} {a : Act} {w : World}
    (hro : F.round = none) (h1 : 1 ≤ n) {gf : Nat} {lb : Array Value} (hg : a.eval g = .func (.func gf) #[] lb) (hFg : F.fn gf) (eg : ∀ args w, (callFunc gf args).run P w = .ok (.enter gf args) w)
    {encs : α → Array Value} {Kp : World → World → Prop} {S Sp : List α → Prop} {N : Nat} {w0 : World} (hseq : SeqStopsK F (n - 1) P gf lb encs Kp S Sp N w0)
    (hKt : ∀ {A B C : World}, Kp A B → Kp B C → Kp A C) (hKb : ∀ (W : World) (l : Nat) (o o' : Obj), w.heap.size ≤ l → W.heap[l]? = some o → o.isCells = false → o.isWalk = false → Kp W (W.putObj l o')) (hb0 : Below w0.heap.size w0 w) (hps : ∀ x, (encs x).size = ps.size)
    (I : List α → World → Prop) (Ix : Code → List α → World → Prop) (hI : OwnFrom w.heap.size I) (hIx : ∀ c, OwnFrom w.heap.size (Ix c)) (h0 : I [] w) (Ax : Act → α → Act → World → Prop) (hAx : ∀ x a', OwnFrom w.heap.size (fun (_ : Unit) W => Ax a x a' W))
    (hassign : ∀ (l : Nat) (pre : List α) (x : α) (W : World) (K : Act → World → Prop), I pre W → (∀ a' W', KeepsFrom w.heap.size W W' → Kp W W' → I pre W' → Ax a x a' W' → K a' W') →
      assign.wpIn (F.inRound l) (n - 1 - 1) P (Exit.then K (fun _ _ _ => False)) { tmps := (ps.zip (encs x)).foldl (fun t (p, v) => t.setIfInBounds p v) a.tmps, defers := [] } W)
    (hbody : ∀ (l : Nat) (pre : List α) (x : α) (a' : Act) (W : World), w.heap.size ≤ l → (∃ r, W.heap[l]? = some (.loop r)) → I pre W → Ax a x a' W → pre.length < N → body.wpIn (F.inRound l) (n - 1 - 1) P (ownPostG w.heap.size Kp I Ix (pre ++ [x]) W) a' W)
    (hdone : ∀ (D : Nat) (xs : List α) (W : World), w.heap.size ≤ D → S xs → I xs W → W.heap[D]? = some (.deferred (some [])) → Q .normal { a with defers := { target := .collected D, args := #[] } :: a.defers } W)
    (hstop : ∀ (D : Nat) (c : Code) (pre : List α) (W : World), w.heap.size ≤ D → Sp pre → Ix c pre W → W.heap[D]? = some (.deferred (some [])) → c.wpIn F n P Q { a with defers := { target := .collected D, args := #[] } :: a.defers } W) :
    (Code.rangeFunc g ps assign body).wpIn F n P Q a w :=
  wpIn_rangeFunc_ownH hro h1 hg hFg eg hseq hKt hKb hb0 hps I Ix hI hIx h0 (Ax a) hAx hassign hbody hdone hstop

set_option maxRecDepth 100000 in
set_option maxHeartbeats 8000000 in
theorem pfol_main (w : World) (v : Value) (l : List Ch) (c : Ch) (hA : Rd w encC v l) (hl : l.length ≤ 1000000) (h1 : ¬ (c.s < 1 ∨ 4611686018427387904 < c.s)) (h2 : ¬ (c.r < 0 ∨ c.r = 7 ∨ 10 < c.r)) (h3 : ¬ timeR l c) :
    Calls Try.prog 17 #[v, chV c] w fun e w' => e = .returned (.int .i64 (if stateP l c then 0 else 24)) ∧ Below w.heap.size w w' := by
  obtain ⟨ad, cap, rfl, -⟩ := hA.form
  have HC := Bx.mk (rdC_cells hA).2
  have HA := Bx.mk hA
  have HLT := Bx.mk (lastT_eq l)
  unfold timeR at h3
  obtain ⟨R, hR⟩ : ∃ R, R = (if stateP l c then (0 : Int) else 24) := ⟨_, rfl⟩
  rw [← hR]
  have HR := Bx.mk hR
  clear hA hR
  obtain ⟨S, T, K, V⟩ := c
  simp only [not_or, not_and, Int.not_lt] at h1 h2 h3
  obtain ⟨g1, g2, g3, g4, g5, g6⟩ := h3
  have t0 : decide (S < 1) = false := by simp; omega
  have t1 : decide (S > 4611686018427387904) = false := by simp; omega
  have t2 : decide (K < 0) = false := by simp; omega
  have t3 : (K == 7) = false := by simp; omega
  have t4 : decide (K > 10) = false := by simp; omega
  have t5 : decide (T < 0) = false := by simp; omega
  have t6 : decide (T > 254033452799) = false := by simp; omega
  have t7 : decide (V < -1) = false := by simp; omega
  have t8 : decide (V > T) = false := by simp; omega
  have HB := Bx.mk ((Below.refl w.heap.size w).alloc (Nat.le_refl _) (.cells #[.int .i64 S, .int .i64 T, .int .i64 K, .int .i64 V] 24))
  have HBK := Bx.mk (show (w.alloc (.cells #[.int .i64 S, .int .i64 T, .int .i64 K, .int .i64 V] 24)).heap[w.heap.size]? = some (.cells #[.int .i64 S, .int .i64 T, .int .i64 K, .int .i64 V] 24 (0, 0)) from heap_alloc_new _ _)
  have G3 := Bx.mk g3
  have G6 := Bx.mk g6
  clear h1 h2 g1 g2 g3 g4 g5 g6
  unfold chV
  refine (callsIn_wide (n := 6)).1 (callsIn_of_wp_marks Try.func17 rfl trivial (wpIn_wide.2 ?_) rfl)
  simp only [Try.ntmps17, List.size_toArray, List.length_cons, List.length_nil, Nat.reduceAdd, Nat.reduceSub, Array.replicate_succ, Array.replicate_zero, List.push_toArray, List.append_toArray, List.nil_append, List.cons_append]
  go_upto_region 9 with fail
  go_cut [33] from 34 to 58 (fun s33 wc => s33 = .bool false ∧ wc.heap[w.heap.size]? = some (.cells #[.int .i64 S, .int .i64 T, .int .i64 K, .int .i64 V] 24 (0, 0)) ∧ Below w.heap.size w wc ∧ wc.heap.size = w.heap.size + 1)
  case first =>
    have HEND := Bx.mk (show ∀ nq, ((w.alloc (.cells #[.int .i64 S, .int .i64 T, .int .i64 K, .int .i64 V] 24)).drewN nq).heap[w.heap.size]? = some (.cells #[.int .i64 S, .int .i64 T, .int .i64 K, .int .i64 V] 24 (0, 0)) ∧ Below w.heap.size w ((w.alloc (.cells #[.int .i64 S, .int .i64 T, .int .i64 K, .int .i64 V] 24)).drewN nq) ∧ ((w.alloc (.cells #[.int .i64 S, .int .i64 T, .int .i64 K, .int .i64 V] 24)).drewN nq).heap.size = w.heap.size + 1 from fun nq => ⟨HBK.out, drewN_below' HB.out nq, by show (w.alloc _).heap.size = _; simp⟩)
    clear G6
    rcases Nat.eq_zero_or_pos l.length with hz | hp
    · have tz : decide ((l.length : Int) > 0) = false := decide_eq_false (by omega)
      have tz2 : decide (0 < l.length) = false := decide_eq_false (by omega)
      clear hz G3 HLT HC HBK HB
      go_quiet (fail)
      go_wp2
      go_meet
      exact ⟨rfl, HEND.out _⟩
    · obtain ⟨b, o, rfl, hbl, c0, c1, c2, c3⟩ := HC.out _ HB.out (l.length - 1) (by omega)
      have hll := HLT.out hp
      rw [← hll] at c1
      have tl : decide (T < lastT l) = false := decide_eq_false (by have := G3.out; omega)
      have tz : decide ((l.length : Int) > 0) = true := by simpa using hp
      have tz2 : decide (0 < l.length) = true := by simpa using hp
      obtain ⟨n1, hn1⟩ : ∃ n1, n1 = l.length - 1 := ⟨_, rfl⟩
      rw [← hn1] at c1
      have hn1l : n1 < l.length := by omega
      have hn1i : (n1 : Int) < l.length := by omega
      have hsub : ((l.length : Int) - 1) = (n1 : Int) := by omega
      have hwr : IntKind.i64.wrap ((l.length : Int) - 1) = (n1 : Int) := by rw [hsub]; exact IntWalk.i64_in _ (by omega)
      have hnn : ((n1 : Int)).toNat = n1 := by omega
      have hw2 : IntKind.i64.wrap (n1 : Int) = (n1 : Int) := IntWalk.i64_in _ (by omega)
      clear hn1 hll HLT HC c0 c2 c3 hbl hp hsub G3 HBK HB
      generalize lastT l = LT at *
      go_quiet (fail)
      clear hwr hw2 hnn
      go_wp2
      go_meet
      exact ⟨rfl, HEND.out _⟩
  case rest =>
    obtain ⟨rfl, hbk0, hbw0, hsz0⟩ := hcut
    have HREL := Bx.mk (And.intro hbk0 (And.intro hbw0 hsz0))
    have m0 := cell_of_row _ _ 0 _ _ _ hbk0
    have m1 := cell_of_row _ _ 1 _ _ _ hbk0
    have m2 := cell_of_row _ _ 2 _ _ _ hbk0
    have m3 := cell_of_row _ _ 3 _ _ _ hbk0
    simp only [List.getElem?_toArray, List.getElem?_cons_zero, List.getElem?_cons_succ] at m0 m1 m2 m3
    clear hbk0 hbw0 hsz0 G3 HBK HB HLT HC
    obtain ⟨wq, hwq⟩ : ∃ wq, wq = wc := ⟨_, rfl⟩
    subst hwq
    go_upto_region 7 with fail
    go_cut [59] from 60 to 79 (fun s59 wc => s59 = .bool false ∧ wc = wq)
    case first =>
      by_cases hk8 : K = 8
      · have hv1 : V = -1 := by
          by_cases q : V = -1
          · exact q
          · exact absurd q (G6.out hk8)
        have t9 : (K == 8) = true := by simp [hk8]
        have t10 : (V != -1) = false := by simp [hv1]
        clear G6 hk8 hv1
        go_wp2
        go_meet
        exact ⟨rfl, rfl⟩
      · have tk8 : (K == 8) = false := by simpa using hk8
        clear G6 hk8
        go_wp2
        go_meet
        exact ⟨rfl, rfl⟩
    case rest =>
      obtain ⟨rfl, rfl⟩ := hcut
      obtain ⟨hbk, hbw, hsz⟩ := HREL.out
      have HBW := Bx.mk hbw
      obtain ⟨p, hp⟩ : ∃ p, p = w.heap.size := ⟨_, rfl⟩
      have HP := Bx.mk hp
      rw [← hp] at hbk hsz ⊢
      have HSZ := Bx.mk hsz
      have HBK2 := Bx.mk hbk
      clear hp hbk hbw G6 m0 m1 m2 m3 HREL t0 t1 t2 t3 t4 t5 t6 t7 t8
      obtain ⟨W3, hW3⟩ : ∃ W3, W3 = ((wc.alloc (.cells #[.int .i64 0, .int .i64 0, .int .i64 0, .int .i64 0] 24)).alloc (.cells #[.bool false] 4)).alloc (.cells #[.slice ad l.length cap] 27) := ⟨_, rfl⟩
      have hbc := fun W => callsIn_wide.1 (backC_in Fence.wide 6 trivial rfl ad l.length cap W)
      go_wp2_with (go_at_call 35; refine (hbc _).mono ?_; rintro e w' ⟨rfl, rfl⟩)
      rw [← hW3]
      have e1 : wc.heap.size = p + 1 := HSZ.out
      have b0 : W3.heap[p]? = some (.cells #[.int .i64 S, .int .i64 T, .int .i64 K, .int .i64 V] 24 (0, 0)) := by
        rw [hW3]; exact alloc_keep (alloc_keep (alloc_keep HBK2.out))
      have b1 : W3.heap[p + 1]? = some (.cells #[.int .i64 0, .int .i64 0, .int .i64 0, .int .i64 0] 24 (0, 0)) := by
        rw [hW3, ← e1]; exact alloc_keep (alloc_keep (heap_alloc_new _ _))
      have b2 : W3.heap[p + 1 + 1]? = some (.cells #[.bool false] 4 (0, 0)) := by
        rw [hW3, ← e1]
        have := heap_alloc_new (wc.alloc (.cells #[.int .i64 0, .int .i64 0, .int .i64 0, .int .i64 0] 24)) (.cells #[.bool false] 4)
        rw [World.size_alloc] at this
        exact alloc_keep this
      have b3 : W3.heap[p + 1 + 1 + 1]? = some (.cells #[.slice ad l.length cap] 27 (0, 0)) := by
        rw [hW3, ← e1]
        have := heap_alloc_new ((wc.alloc (.cells #[.int .i64 0, .int .i64 0, .int .i64 0, .int .i64 0] 24)).alloc (.cells #[.bool false] 4)) (.cells #[.slice ad l.length cap] 27)
        rwa [World.size_alloc, World.size_alloc] at this
      have b3c := cell_of_row _ _ 0 _ _ _ b3
      simp only [List.getElem?_toArray, List.getElem?_cons_zero] at b3c
      have hz3 : W3.heap.size = p + 4 := by rw [hW3]; simp; omega
      have hbW3 : Below w.heap.size w W3 := by
        rw [hW3]
        have hsw := HBW.out.size
        exact ((HBW.out.alloc hsw _).alloc (by simp; omega) _).alloc (by simp; omega) _
      clear hW3
      refine wpIn_wide.1 (rf_H (F := Fence.wide) (n := 6) rfl (by omega) (gf := 53) (lb := #[.pointer (some ⟨p + 1 + 1 + 1, 0, none⟩)]) rfl trivial (enters_of Try.func53 (by kernel_rfl) rfl)
        (backC_stops Fence.wide 5 trivial rfl (by omega) (p + 1 + 1 + 1) (p + 4) (.slice ad l.length cap) l hl W3 (by omega) (by omega) b3c ⟨w, HA.out, by have := HP.out; omega, hbW3⟩) belowK_t (belowK_b (by omega)) (Below.refl _ _) (fun _ => rfl)
        (fun pre W => (W.heap[p]? = some (.cells #[.int .i64 S, .int .i64 T, .int .i64 K, .int .i64 V] 24 (0, 0)) ∧ W.heap[p + 1]? = some (.cells #[.int .i64 0, .int .i64 0, .int .i64 0, .int .i64 0] 24 (0, 0)) ∧ W.heap[p + 1 + 1]? = some (.cells #[.bool false] 4 (0, 0)) ∧ W.heap[p + 1 + 1 + 1]? = some (.cells #[.slice ad l.length cap] 27 (0, 0)) ∧ Bx (∀ y ∈ pre, y.2.s ≠ S)) ∧ Below w.heap.size w W)
        (fun c pre W => (∃ ini last, c = .exit 1 ∧ pre = ini ++ [last] ∧ (∀ y ∈ ini, y.2.s ≠ S) ∧ last.2.s = S ∧ W.heap[p]? = some (.cells #[.int .i64 S, .int .i64 T, .int .i64 K, .int .i64 V] 24 (0, 0)) ∧ W.heap[p + 1]? = some (.cells #[.int .i64 last.2.s, .int .i64 last.2.t, .int .i64 last.2.r, .int .i64 last.2.v] 24 (0, 0)) ∧ W.heap[p + 1 + 1]? = some (.cells #[.bool true] 4 (0, 0))) ∧ Below w.heap.size w W)
        (OwnFrom.and (fun s A B row h hg hr => ⟨blk_kept h.1 hg hr, blk_kept h.2.1 hg hr, blk_kept h.2.2.1 hg hr, blk_kept h.2.2.2.1 hg hr, h.2.2.2.2⟩) (ownFrom_below (Nat.le_refl _) (by have := HP.out; omega)))
        (fun c => OwnFrom.and (fun s A B row h hg hr => by
          obtain ⟨ini, last, q1, q2, q3, q4, q5, q6, q7⟩ := h
          exact ⟨ini, last, q1, q2, q3, q4, blk_kept q5 hg hr, blk_kept q6 hg hr, blk_kept q7 hg hr⟩) (ownFrom_below (Nat.le_refl _) (by have := HP.out; omega)))
        ⟨⟨b0, b1, b2, b3, ⟨fun y hy => by cases hy⟩⟩, hbW3⟩
        (fun a x a' W => ∃ bx : Nat, p + 4 ≤ bx ∧ W.heap[bx]? = some (.cells #[.int .i64 x.2.s, .int .i64 x.2.t, .int .i64 x.2.r, .int .i64 x.2.v] 24 (0, 0)) ∧ a' = { tmps := ((a.tmps.setIfInBounds 83 (.int .i64 x.1)).setIfInBounds 84 (.agg #[.int .i64 x.2.s, .int .i64 x.2.t, .int .i64 x.2.r, .int .i64 x.2.v])).setIfInBounds 8 (.pointer (some ⟨bx, 0, none⟩)), defers := [] })
        (fun x a' s A B row h hg hr => by obtain ⟨bx, q1, q2, q3⟩ := h; exact ⟨bx, q1, blk_kept q2 hg hr, q3⟩)
        ?assign ?body ?done ?stop)
      case assign =>
        rintro l' pre x W K' ⟨⟨i0, i1, i2, i3, hp⟩, hB⟩ hK
        have hsz := lt_of_block i3
        unfold chV
        gi_wp2
        exact hK _ _ ((KeepsOthers.alloc _ _).from _) ((Below.refl _ W).alloc (by omega) _) ⟨⟨alloc_keep i0, alloc_keep i1, alloc_keep i2, alloc_keep i3, hp⟩, hB.alloc (by have := HP.out; omega) _⟩ ⟨W.heap.size, by omega, heap_alloc_new _ _, rfl⟩
      case body =>
        rintro l' pre x a' W hl' hr ⟨⟨i0, i1, i2, i3, ⟨hp⟩⟩, hB⟩ ⟨bx, hbx, hbk, rfl⟩ hlt
        obtain ⟨n0, xs, xt, xr, xv⟩ := x
        simp only [List.setIfInBounds_toArray, List.set_cons_succ, List.set_cons_zero]
        have m0 := cell_of_row _ _ 0 _ _ _ i0
        have k0 := cell_of_row _ _ 0 _ _ _ hbk
        have k1 := cell_of_row _ _ 1 _ _ _ hbk
        have k2 := cell_of_row _ _ 2 _ _ _ hbk
        have k3 := cell_of_row _ _ 3 _ _ _ hbk
        have j0 := cell_of_row _ _ 0 _ _ _ i1
        have j1 := cell_of_row _ _ 1 _ _ _ i1
        have j2 := cell_of_row _ _ 2 _ _ _ i1
        have j3 := cell_of_row _ _ 3 _ _ _ i1
        have f0 := cell_of_row _ _ 0 _ _ _ i2
        have z0 := frozen_row (i := 0) i1
        have z1 := frozen_row (i := 1) i1
        have z2 := frozen_row (i := 2) i1
        have z3 := frozen_row (i := 3) i1
        have z4 := frozen_row (i := 0) i2
        simp only [List.getElem?_toArray, List.getElem?_cons_zero, List.getElem?_cons_succ] at m0 k0 k1 k2 k3 j0 j1 j2 j3 f0
        by_cases hs : xs = S
        · have tq : (xs == S) = true := by simp [hs]
          gi_wp2
          have hn := lt_of_block i3
          refine ⟨((((KeepsOthers.setCell _ _ _).from _).trans ((KeepsOthers.setCell _ _ _).from _)).trans (((KeepsOthers.setCell _ _ _).from _).trans ((KeepsOthers.setCell _ _ _).from _))).trans ((KeepsOthers.setCell _ _ _).from _), ⟨rfl, pre, n0, _, rfl, fun a b h => hp (a, b) h, rfl, ?_, ?_, ?_⟩, ?_⟩
          · exact row_other (row_other (row_other (row_other (row_other i0 (by omega) _) (by omega) _) (by omega) _) (by omega) _) (by omega) _
          · exact row_other (row_set (row_set (row_set (row_set i1 _) _) _) _) (by omega) _
          · exact row_set (row_other (row_other (row_other (row_other i2 (by omega) _) (by omega) _) (by omega) _) (by omega) _) _
          · have hwp := HP.out
            exact (((((hB.setCell (by show w.heap.size ≤ p + 1; omega) _).setCell (by show w.heap.size ≤ p + 1; omega) _).setCell (by show w.heap.size ≤ p + 1; omega) _).setCell (by show w.heap.size ≤ p + 1; omega) _).setCell (by show w.heap.size ≤ p + 1 + 1; omega) _)
        · have tq : (xs == S) = false := by simp [hs]
          gi_wp2
          exact ⟨KeepsFrom.refl _ _, Below.refl _ _, ⟨i0, i1, i2, i3, ⟨fun y z hy => (List.mem_append.1 hy).elim (hp (y, z)) (fun e => by simp at e; rw [e.2]; exact hs)⟩⟩, hB⟩
      case done =>
        rintro D ys W hD rfl ⟨⟨i0, i1, i2, i3, ⟨hp⟩⟩, hB⟩ hK
        have m2 := cell_of_row _ _ 2 _ _ _ i0
        have k2 := cell_of_row _ _ 2 _ _ _ i1
        have f0 := cell_of_row _ _ 0 _ _ _ i2
        simp only [List.getElem?_toArray, List.getElem?_cons_zero, List.getElem?_cons_succ] at m2 k2 f0
        have hR : R = if K = 8 then 24 else 0 := by
          rw [HR.out]; unfold stateP; rw [last_none l S hp]
          by_cases q : K = 8 <;> simp [q]
        by_cases q : K = 8
        · have tq : (K == 8) = true := by simp [q]
          rw [if_pos q] at hR
          subst hR
          go_wp2
          refine ⟨by simp, .inl ⟨_, _, rfl, run_takeDeferred hK, ?_⟩⟩
          exact ⟨_, results_tmp rfl _ _ _, rfl, hB.trans (belowK_b (w := w) (Nat.le_refl _) W D _ _ (by have := HP.out; omega) hK rfl rfl)⟩
        · have tq : (K == 8) = false := by simp [q]
          rw [if_neg q] at hR
          subst hR
          go_wp2
          refine ⟨by simp, .inl ⟨_, _, rfl, run_takeDeferred hK, ?_⟩⟩
          exact ⟨_, results_tmp rfl _ _ _, rfl, hB.trans (belowK_b (w := w) (Nat.le_refl _) W D _ _ (by have := HP.out; omega) hK rfl rfl)⟩
      case stop =>
        rintro D c pre W hD hpre ⟨⟨ini, last, rfl, e1, e2, e3, i0, i1, i2⟩, hB⟩ hK
        obtain ⟨k, hk, hpk⟩ := hpre
        have hlast := last_some l S k ini last (hpk ▸ e1) e2 e3
        have hR : R = if permitted last.2.r K then 0 else 24 := by
          rw [HR.out]; unfold stateP; rw [hlast]
        obtain ⟨n0, ls, lt, lr, lv⟩ := last
        have m2 := cell_of_row _ _ 2 _ _ _ i0
        have k2 := cell_of_row _ _ 2 _ _ _ i1
        have f0 := cell_of_row _ _ 0 _ _ _ i2
        simp only [List.getElem?_toArray, List.getElem?_cons_zero, List.getElem?_cons_succ] at m2 k2 f0
        have hper := fun W => permitted_any W lr K
        have hKb := belowK_b (w := w) (Nat.le_refl _) W D (.deferred (some [])) (.deferred none) (by have := HP.out; omega) hK rfl rfl
        by_cases q : permitted lr K = true
        · rw [if_pos q] at hR
          subst hR
          rw [q] at hper
          refine wpIn_wide.2 ?_
          go_wp2_with (go_at_call 36; refine (hper _).mono ?_; rintro e w' ⟨rfl, rfl⟩)
          refine ⟨by simp, .inl ⟨_, _, rfl, run_takeDeferred hK, ?_⟩⟩
          exact ⟨_, results_tmp rfl _ _ _, rfl, hB.trans hKb⟩
        · have q : permitted lr K = false := by simpa using q
          rw [if_neg (by simp [q])] at hR
          subst hR
          rw [q] at hper
          refine wpIn_wide.2 ?_
          go_wp2_with (go_at_call 36; refine (hper _).mono ?_; rintro e w' ⟨rfl, rfl⟩)
          refine ⟨by simp, .inl ⟨_, _, rfl, run_takeDeferred hK, ?_⟩⟩
          exact ⟨_, results_tmp rfl _ _ _, rfl, hB.trans hKb⟩
/-- THE PROGRAM's Follow. -/
theorem pfollow_any (w : World) (v : Value) (l : List Ch) (c : Ch) (hA : Rd w encC v l) (hl : l.length ≤ 1000000) :
    Calls Try.prog 17 #[v, chV c] w fun e w' => e = .returned (.int .i64 (followR l c)) ∧ Below w.heap.size w w' := by
  by_cases h1 : c.s < 1 ∨ 4611686018427387904 < c.s
  · exact pfol_early w v l c hA hl (.inl h1)
  by_cases h2 : c.r < 0 ∨ c.r = 7 ∨ 10 < c.r
  · exact pfol_early w v l c hA hl (.inr (.inl h2))
  by_cases h3 : timeR l c
  · exact pfol_early w v l c hA hl (.inr (.inr h3))
  · refine (pfol_main w v l c hA hl h1 h2 h3).mono ?_
    rintro e w' ⟨rfl, hB⟩
    exact ⟨by unfold followR; rw [if_neg h1, if_neg h2, if_neg h3], hB⟩
end Go.Proofs.Ytpagoinnkknkfaa.Pb
