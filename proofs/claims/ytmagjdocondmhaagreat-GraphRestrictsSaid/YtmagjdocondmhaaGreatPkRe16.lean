/- packed -/
import Derived.Test.YtmagjdocondmhaaGreatPkRe15
set_option linter.unusedVariables false
set_option linter.unusedSimpArgs false
set_option maxRecDepth 100000
set_option maxHeartbeats 64000000
namespace Go.Proofs.YtmagjdocondmhaaGreat.Tr.Gr
open Go Go.RowKit Slc St Mp Tr Rg
attribute [local go_sem] Oper.semAt_some
def expK (l : List Vx) (p : B) (k : Nat) : List Int := ((List.range k).filter fun i => decide (p ∈ (l[i]!).ex)).map fun (i : Nat) => (i : Int)
def expL (l : List Vx) (p : B) : List Int := expK l p l.length
theorem expK_succ (l : List Vx) (p : B) (k : Nat) : expK l p (k + 1) = expK l p k ++ (if p ∈ (l[k]!).ex then [(k : Int)] else []) := by
 unfold expK;rw [List.range_succ, List.filter_append, List.map_append];congr 1
 by_cases h : p ∈ (l[k]!).ex
 ·rw [if_pos h, show List.filter (fun i => decide (p ∈ (l[i]!).ex)) [k] = [k] from by unfold List.filter; rw [zT h]; rfl]; rfl
 ·rw [if_neg h, show List.filter (fun i => decide (p ∈ (l[i]!).ex)) [k] = [] from by unfold List.filter; rw [zF h]; rfl]; rfl
theorem expK_len (l : List Vx) (p : B) (k : Nat) : (expK l p k).length <= k := by
 unfold expK;rw [List.length_map];exact Nat.le_trans (List.length_filter_le _ _) (by simp)
theorem src_int' (w : World) (y : Int) : SrcV (w.alloc (.cells #[.int .i64 y] 3)) 1 (.slice (some ⟨w.heap.size, 0, none⟩) 1 1) 1 ([y].flatMap encI) := src_new encI_ok (heap_alloc_new _ _)
theorem rexp_any (w : World) (v : Value) (l : List Vt) (h : VQ w v l) (hn : l.length <= 100000) (p : B) :
  Calls Tryz.prog 55 #[v, .string (bstr p)] w fun e w' => ∃ v', e = .returned v' /\ Slc.Own w' w.heap.size 3 1 encI v' (expL (vxs l) p) /\ Below w.heap.size w w' := by
 obtain ⟨i0, hi0, hz0, hz1, hz2⟩ := info_parts info_int;obtain ⟨ad, c, rfl, -⟩ := h.rd.form;have HC := Bx.mk h.at3;have HAT := Bx.mk h.at_;obtain ⟨N, hN⟩ : ∃ N, N = l.length := ⟨_, rfl⟩
 have HN := Bx.mk hN;rw [<- hN] at hn |-;clear h hN;go_enter Tryz.func55, Tryz.ntmps55;go_wp2_with fail
 go_loopw [5, 6] (fun ov i wr => ∃ (k : Nat) (out : List Int), k <= N /\ i = .int .i64 k /\ out.length <= k /\ Bx (out = expK (vxs l) p k) /\ Bx (Slc.Own wr w.heap.size 3 1 encI ov out) /\ Bx (Below w.heap.size w wr)) (fun _ i _ => N - (intOf i).toNat)
 case atStart => exact ⟨0, [], by omega, rfl, by simp, ⟨rfl⟩, ⟨Slc.Own.nil _ _⟩, ⟨Below.refl _ _⟩⟩
 case round =>
  obtain ⟨k, out, hk, rfl, hol, hF, hO, hBw⟩ := hrel;obtain ⟨oa, oc, rfl, -⟩ := hO.out.rd.form;by_cases hlt : k < N
  ·have hkl : k < l.length := by rw [<- HN.out]; exact hlt
   obtain ⟨b, o, rfl, hbl, -, c1, -⟩ := HC.out wr hBw.out k hkl;have HX := Bx.mk (show (vxs l)[k]! = (l[k]).n from vxs_at l k hkl);have hat := HAT.out _ (zM hkl);obtain ⟨x, hx⟩ : ∃ x, x = l[k] := ⟨_, rfl⟩
   rw [<- hx] at c1 HX hat;obtain ⟨ua, uc, hup, -⟩ := hat.1.form;have hin := in_q wr x.u.val x.n.ex p (hat.1.below hBw.out) (by have := hat.2.2.1.1; omega);rw [hup] at c1 hin;obtain ⟨UN, hUN⟩ : ∃ UN, UN = x.n.ex.length := ⟨_, rfl⟩
   rw [<- hUN] at c1 hin;obtain ⟨r, hr⟩ : ∃ r, r = decide (p ∈ x.n.ex) := ⟨_, rfl⟩
   rw [<- hr] at hin;have HR := Bx.mk hr;have HS := Bx.mk (expK_succ (vxs l) p k);rw [HX.out] at HS;obtain ⟨ON, hON⟩ : ∃ n, n = out.length := ⟨_, rfl⟩
   have HON := Bx.mk hON;rw [<- hON] at hol |-;clear hx hbl hat hup hr hUN hON hkl;go_wp2_with fail
   go_at_call 47;refine hin.mono ?_;rintro e w2 ⟨rfl, rfl⟩;clear hin c1
   cases r with
   | true =>
    have hp : p ∈ x.n.ex := (by have := HR.out; simpa using this.symm);have HF2 := Bx.mk (show out ++ [(k : Int)] = expK (vxs l) p (k + 1) by rw [HS.out, if_pos hp, <- hF.out]);have hw2 : Below wr.heap.size wr (wr.alloc (.cells #[.int .i64 (k : Int)] 3)) := (Below.refl _ _).alloc (zR _) _;have HO2 := Bx.mk (hO.out.below hw2);have HB2 := Bx.mk (hBw.out.trans (hw2.mono hBw.out.size));have HSRC := Bx.mk (src_int' wr (k : Int));have hm1 : ON + 1 <= maxLen := (by unfold maxLen; omega);have hm2 : (ON + 1) * 8 <= 140737488355328 := (by omega);have hbz : w.heap.size <= (wr.alloc (.cells #[.int .i64 (k : Int)] 3)).heap.size := HB2.out.size
    have HOA := Bx.mk (show World.ownsRow (wr.alloc (.cells #[.int .i64 (k : Int)] 3)) w.heap.size 3 1 (.slice oa ON oc) ON (out.flatMap encI) by
     have := HO2.out;unfold Slc.Own at this
     rw [<- HON.out] at this; exact this)
    clear hp hw2;go_wp2_with (at_builtin; refine wpList_append_any rfl _ _ _ rfl w.heap.size 3 i0 _ 1 8 und_ints hi0 hz0 hz1 hz2 rfl (by decide) _ ON (out.flatMap encI) rfl HOA.out _ 1 ([(k : Int)].flatMap encI) rfl HSRC.out hm1 hm2 hbz ?_)
    intro v9 w9 hapd
    have HO9 := Bx.mk (show Slc.Own w9 w.heap.size 3 1 encI v9 (out ++ [(k : Int)]) from by
     have h2 := HO2.out;rw [<- HON.out] at h2
     exact h2.apd (m := [(k : Int)]) rfl rfl HON.out rfl hapd)
    have HB9 := Bx.mk (HB2.out.grown hapd.grown HB2.out.size fun j hj => (HO2.out.lt j (by rw [<- HON.out]; exact hj)).1);have HL9 := Bx.mk (show (out ++ [(k : Int)]).length <= k + 1 by rw [List.length_append, <- HON.out]; simp; omega);clear hapd hm1 hm2 hbz;go_wp2_with fail
    go_roundw
    case rel => exact ⟨k + 1, _, by omega, by go_num, HL9.out, HF2, HO9, HB9⟩
    case measure => simp [intOf]; omega
   | false =>
    have hp : ¬ p ∈ x.n.ex := (by have := HR.out; simpa using this.symm);have HF2 := Bx.mk (show out = expK (vxs l) p (k + 1) by rw [HS.out, if_neg hp, <- hF.out, List.append_nil]);have HO2 := Bx.mk (show Slc.Own wr w.heap.size 3 1 encI (.slice oa ON oc) out by rw [HON.out]; exact hO.out);have HL2 := Bx.mk (show out.length <= k + 1 by rw [<- HON.out]; omega);clear hp;go_wp2_with fail
    go_roundw
    case rel => exact ⟨k + 1, out, by omega, by go_num, HL2.out, HF2, HO2, hBw⟩
    case measure => simp [intOf]; omega
  ·obtain rfl : N = k := by omega
   go_wp2_with fail
   go_ret
   exact ⟨_, rfl, by
    have := hO.out;have e : expL (vxs l) p = out := by unfold expL; rw [vxs_len, <- HN.out, hF.out]
    rw [e]; exact this, hBw.out⟩
end Go.Proofs.YtmagjdocondmhaaGreat.Tr.Gr
namespace Go.Proofs.YtmagjdocondmhaaGreat.Tr.Gr
open Go Go.RowKit Slc St Mp Tr Rg
theorem expK_exJ {l : List Vx} (h : LQ l) (p : B) : ∀ k, k <= l.length -> expK l p k = exJ l k p
 | 0, _ => by rw [exJ_zero]; simp [expK]
 | k + 1, hk => by rw [expK_succ, exJ_one h (by omega), expK_exJ h p k (by omega)]
theorem expL_exI {l : List Vx} (h : LQ l) (p : B) : expL l p = exI l p := expK_exJ h p l.length (zR _)
theorem ord_same {a b : List Vx} (ha : OrdP a) (hb : OrdP b) (h : ∀ v, v ∈ a ↔ v ∈ b) : a = b := by
 have irr : ∀ v : Vx, ¬ v.pol < v.pol := fun v => List.lt_irrefl _
 have asy : ∀ u v : Vx, u.pol < v.pol -> v.pol < u.pol -> False := fun u v h1 h2 => List.lt_irrefl _ (List.lt_trans h1 h2)
 induction a generalizing b with
 | nil =>
  cases b with
  | nil => rfl
  | cons y b => exact absurd ((h y).2 List.mem_cons_self) (by simp)
 | cons x a ih =>
  cases b with
  | nil => exact absurd ((h x).1 List.mem_cons_self) (by simp)
  | cons y b =>
   have hx := List.pairwise_cons.1 ha;have hy := List.pairwise_cons.1 hb
   have e : x = y := by
    rcases List.mem_cons.1 ((h x).1 List.mem_cons_self) with q | q
    ·exact q
    ·rcases List.mem_cons.1 ((h y).2 List.mem_cons_self) with r | r
     ·exact r.symm
     ·exact (asy _ _ (hx.1 y r) (hy.1 x q)).elim
   subst e;congr 1
   refine ih hx.2 hy.2 fun v => ⟨fun hv => ?_, fun hv => ?_⟩
   ·rcases List.mem_cons.1 ((h v).1 (List.mem_cons_of_mem _ hv)) with q | q
    ·subst q; exact absurd (hx.1 v hv) (irr v)
    ·exact q
   ·rcases List.mem_cons.1 ((h v).2 (List.mem_cons_of_mem _ hv)) with q | q
    ·subst q; exact absurd (hy.1 v hv) (irr v)
    ·exact q
theorem insV_iff {l : List Vx} {x v : Vx} : v ∈ insV l x ↔ v ∈ l \/ v = x := by
 refine ⟨insV_mem, fun h => ?_⟩;unfold insV;rw [List.mem_append, List.mem_cons];rcases h with h | h
 ·rw [<- List.take_append_drop (plc l x.pol) l, List.mem_append] at h;rcases h with q | q
  ·exact .inl q
  ·exact .inr (.inr q)
 ·exact .inr (.inl h)
def upF (l : List Vx) (p : B) : List Int := if expL l p = [] /\ 0 <= fndP l anyP then [fndP l anyP] else expL l p
def enS (l a : List Vx) (p : B) : List Vx := if p = anyP then a else if upF l p = [] then a else insV a ⟨p, [p], upF l p⟩
def enA (l : List Vx) (ps : List B) : List Vx := ps.foldl (enS l) []
theorem enA_snoc (l : List Vx) (ps : List B) (p : B) : enA l (ps ++ [p]) = enS l (enA l ps) p := by unfold enA; rw [List.foldl_append]; rfl
def enU (l a : List Vx) (p : B) : List Vx := if fndP a p < 0 then insV a ⟨p, [p], expL l p⟩ else a
def enB (l a : List Vx) (ps : List B) : List Vx := ps.foldl (enU l) a
theorem enB_snoc (l a : List Vx) (ps : List B) (p : B) : enB l a (ps ++ [p]) = enU l (enB l a ps) p := by unfold enB; rw [List.foldl_append]; rfl
def renL (l : List Vx) (ps : List B) (cnt : Bool) : List Vx := if cnt && decide (anyP ∈ setB ps) then enB l (enA l (setB ps)) (allJ l l.length) else enA l (setB ps)
theorem asc_snoc {ps : List B} {p : B} (h : Asc (ps ++ [p])) : Asc ps /\ ∀ q ∈ ps, q < p :=
 ⟨(List.pairwise_append.1 h).1, fun q hq => (List.pairwise_append.1 h).2.2 q hq p (by simp)⟩
theorem enA_good (l : List Vx) : ∀ (n : Nat) (ps : List B), ps.length = n -> Asc ps -> OrdP (enA l ps) /\ ∀ v, v ∈ enA l ps ↔ v.pol ∈ ps /\ v.pol ≠ anyP /\ upF l v.pol ≠ [] /\ v = ⟨v.pol, [v.pol], upF l v.pol⟩ := by
 intro n
 induction n with
 | zero =>
  intro ps hn _;rw [List.length_eq_zero_iff.1 hn];refine ⟨List.Pairwise.nil, fun v => ?_⟩
  simp [enA]
 | succ n ih =>
  intro ps hn ha;obtain ⟨qs, p, rfl⟩ : ∃ qs p, ps = qs ++ [p] := ⟨ps.dropLast, ps.getLast (by intro e; rw [e] at hn; simp at hn), (List.dropLast_concat_getLast _).symm⟩
  rw [List.length_append, List.length_singleton] at hn;obtain ⟨ha1, ha2⟩ := asc_snoc ha;obtain ⟨ho, hm⟩ := ih qs (by omega) ha1;rw [enA_snoc];unfold enS;by_cases e : p = anyP
  ·rw [if_pos e];refine ⟨ho, fun v => (hm v).trans ⟨fun h => ⟨List.mem_append_left _ h.1, h.2⟩, fun h => ⟨?_, h.2⟩⟩⟩;rcases List.mem_append.1 h.1 with q | q
   ·exact q
   ·rw [zS] at q; exact absurd (q.trans e) h.2.1
  ·rw [if_neg e];by_cases u : upF l p = []
   ·rw [if_pos u];refine ⟨ho, fun v => (hm v).trans ⟨fun h => ⟨List.mem_append_left _ h.1, h.2⟩, fun h => ⟨?_, h.2⟩⟩⟩;rcases List.mem_append.1 h.1 with q | q
    ·exact q
    ·rw [zS] at q; exact absurd (q ▸ u) h.2.2.1
   ·rw [if_neg u];refine ⟨insV_ord ho fun v hv => ?_, fun v => ?_⟩
    ·intro q;have h1 := ha2 v.pol ((hm v).1 hv).1;rw [q] at h1;exact List.lt_irrefl _ h1
    ·rw [insV_iff, hm v, List.mem_append, zS];constructor
     ·rintro (h | rfl)
      ·exact ⟨.inl h.1, h.2⟩
      ·exact ⟨.inr rfl, e, u, rfl⟩
     ·rintro ⟨h1 | h1, h2, h3, h4⟩
      ·exact .inl ⟨h1, h2, h3, h4⟩
      ·right; rw [h4, h1]
theorem fndP_neg {a : List Vx} {p : B} (h : fndP a p < 0) : ∀ v ∈ a, v.pol ≠ p := fun v hv e => by
 have := fndP_has hv e; omega
theorem enU_ord {l a : List Vx} (h : OrdP a) (p : B) : OrdP (enU l a p) := by
 unfold enU;split
 ·rename_i hf; exact insV_ord h fun v hv => fndP_neg hf v hv
 ·exact h
theorem enB_good (l : List Vx) : ∀ (n : Nat) (ps : List B) (a : List Vx), ps.length = n -> OrdP a -> OrdP (enB l a ps) /\ ∀ v, v ∈ enB l a ps ↔ v ∈ a \/ ((∀ u ∈ a, u.pol ≠ v.pol) /\ v.pol ∈ ps /\ v = ⟨v.pol, [v.pol], expL l v.pol⟩) := by
 intro n
 induction n with
 | zero =>
  intro ps a hn ho;rw [List.length_eq_zero_iff.1 hn]
  exact ⟨ho, fun v => by simp [enB]⟩
 | succ n ih =>
  intro ps a hn ho;obtain ⟨qs, p, rfl⟩ : ∃ qs p, ps = qs ++ [p] := ⟨ps.dropLast, ps.getLast (by intro e; rw [e] at hn; simp at hn), (List.dropLast_concat_getLast _).symm⟩
  rw [List.length_append, List.length_singleton] at hn;obtain ⟨ho1, hm⟩ := ih qs a (by omega) ho;rw [enB_snoc];refine ⟨enU_ord ho1 p, fun v => ?_⟩;unfold enU;by_cases hf : fndP (enB l a qs) p < 0
  ·rw [if_pos hf, insV_iff, hm v, List.mem_append, zS];constructor
   ·rintro ((h | ⟨h1, h2, h3⟩) | rfl)
    ·exact .inl h
    ·exact .inr ⟨h1, .inl h2, h3⟩
    ·exact .inr ⟨fun u hu => fndP_neg hf u ((hm u).2 (.inl hu)), .inr rfl, rfl⟩
   ·rintro (h | ⟨h1, h2 | h2, h3⟩)
    ·exact .inl (.inl h)
    ·exact .inl (.inr ⟨h1, h2, h3⟩)
    ·right; rw [h3, h2]
  ·rw [if_neg hf, hm v, List.mem_append, zS];constructor
   ·rintro (h | ⟨h1, h2, h3⟩)
    ·exact .inl h
    ·exact .inr ⟨h1, .inl h2, h3⟩
   ·rintro (h | ⟨h1, h2 | h2, h3⟩)
    ·exact .inl h
    ·exact .inr ⟨h1, h2, h3⟩
    ·obtain ⟨k, hk, -, hp, -⟩ := fndP_some (show 0 <= fndP (enB l a qs) p by omega);have hu : (enB l a qs)[k]! ∈ enB l a qs := (by rw [getElem!_pos _ k hk]; exact zM hk);rcases (hm _).1 hu with q | ⟨q1, q2, q3⟩
     ·exact absurd (hp.trans h2.symm) (h1 _ q)
     ·right
      refine ⟨h1, ?_, h3⟩;rw [hp] at q2; rw [h2]; exact q2
theorem renL_eq {l : List Vx} (h : LQ l) (ps : List B) (cnt : Bool) : renL l ps cnt = levP l ps cnt := by
 have hA := enA_good l _ (setB ps) rfl (setB_asc ps)
 have hlev : ∀ v, v ∈ levP l ps cnt ↔ parF l ps cnt v.pol ≠ [] /\ v = ⟨v.pol, [v.pol], parF l ps cnt v.pol⟩ := by
  intro v;unfold levP;rw [List.mem_map];constructor
  ·rintro ⟨p, hp, rfl⟩;exact ⟨(keyL_mem _ _ _ _).1 hp, rfl⟩
  ·rintro ⟨h1, h2⟩;exact ⟨v.pol, (keyL_mem _ _ _ _).2 h1, h2.symm⟩
 have hup : ∀ p, upF l p = if exI l p ≠ [] then exI l p else if 0 <= fndP l anyP then [fndP l anyP] else [] := by
  intro p;unfold upF;rw [expL_exI h];by_cases e : exI l p = []
  ·simp [e]
  ·simp [e]
 unfold renL;by_cases hc : (cnt && decide (anyP ∈ setB ps)) = true
 ·rw [if_pos hc];have hc' : (cnt && decide (anyP ∈ ps)) = true := by rw [<- hc]; congr 1; exact decide_eq_decide.2 setB_mem.symm
  have hB := enB_good l _ (allJ l l.length) _ rfl hA.1
  have hpF : ∀ p, parF l ps cnt p = if exI l p ≠ [] then exI l p else if p ∈ ps /\ p ≠ anyP then upF l p else [] := by
   intro p;unfold parF;rw [hc', hup p];by_cases e : exI l p = []
   ·simp [e]
   ·simp [e]
  refine ord_same hB.1 (levP_ord l ps cnt) fun v => ?_
  rw [hB.2, hlev, hA.2, hpF];constructor
  ·rintro (⟨h1, h2, h3, h4⟩ | ⟨h1, h2, h3⟩)
   ·by_cases e : exI l v.pol = []
    ·rw [if_neg (by simpa using e), if_pos ⟨setB_mem.1 h1, h2⟩]; exact ⟨h3, h4⟩
    ·rw [if_pos e];refine ⟨e, ?_⟩;have := hup v.pol;rw [if_pos e] at this;rw [<- this]; exact h4
   ·have e := (exJ_mem l l.length v.pol).2 h2;rw [if_pos (show exI l v.pol ≠ [] from e)];refine ⟨e, ?_⟩;rw [<- expL_exI h]; exact h3
  ·intro hv;by_cases e : exI l v.pol = []
   ·rw [if_neg (by simpa using e)] at hv;by_cases q : v.pol ∈ ps /\ v.pol ≠ anyP
    ·rw [if_pos q] at hv;exact .inl ⟨setB_mem.2 q.1, q.2, hv.1, hv.2⟩
    ·rw [if_neg q] at hv; exact absurd rfl hv.1
   ·rw [if_pos e] at hv;by_cases q : v.pol ∈ ps /\ v.pol ≠ anyP
    ·left
     have h1 := hup v.pol;rw [if_pos e] at h1;refine ⟨setB_mem.2 q.1, q.2, by rw [h1]; exact e, by rw [h1]; exact hv.2⟩
    ·right
     refine ⟨fun u hu hp => ?_, (exJ_mem l l.length v.pol).1 e, by rw [expL_exI h]; exact hv.2⟩;have h1 := (hA.2 u).1 hu;rw [hp] at h1;exact q ⟨setB_mem.1 h1.1, h1.2.1⟩
 ·rw [if_neg hc]
  have hc' : (cnt && decide (anyP ∈ ps)) = false := by
   rw [Bool.eq_false_iff];intro h1;apply hc
   rw [<- h1]; congr 1; exact decide_eq_decide.2 setB_mem
  have hpF : ∀ p, parF l ps cnt p = if p ∈ ps /\ p ≠ anyP then upF l p else [] := by
   intro p;unfold parF;rw [hc', hup p];simp
  refine ord_same hA.1 (levP_ord l ps cnt) fun v => ?_
  rw [hlev, hA.2, hpF];constructor
  ·rintro ⟨h1, h2, h3, h4⟩;rw [if_pos ⟨setB_mem.1 h1, h2⟩]; exact ⟨h3, h4⟩
  ·intro hv;by_cases q : v.pol ∈ ps /\ v.pol ≠ anyP
   ·rw [if_pos q] at hv;exact ⟨setB_mem.2 q.1, q.2, hv.1, hv.2⟩
   ·rw [if_neg q] at hv; exact absurd rfl hv.1
theorem fndP_iff {l : List Vx} {p : B} : 0 <= fndP l p ↔ ∃ v ∈ l, v.pol = p := by
 constructor
 ·intro h;obtain ⟨k, hk, -, hp, -⟩ := fndP_some h;exact ⟨l[k]!, by rw [getElem!_pos l k hk]; exact zM hk, hp⟩
 ·rintro ⟨v, hv, hp⟩;exact fndP_has hv hp
theorem fndP_at {l : List Vx} (ho : OrdP l) {k : Nat} (hk : k < l.length) : fndP l (l[k]!).pol = (k : Int) := by
 have h : 0 <= fndP l (l[k]!).pol := fndP_has (show l[k]! ∈ l by rw [getElem!_pos l k hk]; exact zM hk) rfl;obtain ⟨j, hj, he, hp, -⟩ := fndP_some h;rw [he, ord_one ho hj hk hp]
theorem delL_iff {l : List Vx} (ho : OrdP l) {k : Nat} (hk : k < l.length) {v : Vx} : v ∈ delL l k ↔ v ∈ l /\ v.pol ≠ (l[k]!).pol := by
 unfold delL;rw [List.mem_append];constructor
 ·rintro (h | h)
  ·obtain ⟨j, hj, rfl⟩ := List.getElem_of_mem h;rw [List.length_take] at hj;have hjl : j < l.length := by omega
   rw [List.getElem_take];refine ⟨zM _, fun e => ?_⟩;have := ord_one ho hjl hk (by rw [getElem!_pos l j hjl]; exact e);omega
  ·obtain ⟨j, hj, rfl⟩ := List.getElem_of_mem h;rw [List.length_drop] at hj;rw [List.getElem_drop];refine ⟨zM _, fun e => ?_⟩;have hjl : k + 1 + j < l.length := by omega
   have := ord_one ho hjl hk (by rw [getElem!_pos l _ hjl]; exact e);omega
 ·rintro ⟨h, hne⟩;obtain ⟨j, hj, rfl⟩ := List.getElem_of_mem h;have hjk : j ≠ k := fun e => by subst e; rw [getElem!_pos l j hj] at hne; exact hne rfl
  rcases Nat.lt_or_ge j k with q | q
  ·left; exact List.mem_take_iff_getElem.2 ⟨j, by omega, rfl⟩
  ·right
   refine List.mem_drop_iff_getElem.2 ⟨j - (k + 1), by omega, ?_⟩;congr 1; omega
theorem delL_ord {l : List Vx} (ho : OrdP l) (k : Nat) : OrdP (delL l k) := by
 unfold delL;refine ho.sublist ?_
 conv => rhs; rw [<- List.take_append_drop k l]
 exact List.Sublist.append (List.Sublist.refl _) (by rw [<- List.drop_drop]; exact List.drop_sublist _ _)
theorem delL_filt {l : List Vx} (ho : OrdP l) {p : B} (h : 0 <= fndP l p) : delL l (fndP l p).toNat = l.filter fun v => !decide (v.pol = p) := by
 obtain ⟨k, hk, he, hp, -⟩ := fndP_some h;rw [he, Int.toNat_natCast];refine ord_same (delL_ord ho k) (ho.filter _) fun v => ?_
 rw [delL_iff ho hk, List.mem_filter, hp];simp
theorem filt_no {l : List Vx} {p : B} (h : fndP l p < 0) : (l.filter fun v => !decide (v.pol = p)) = l := by
 rw [List.filter_eq_self];intro v hv;simp [fndP_neg h v hv]
def rmS (ms : List (B × B)) (ok : Bool) (above : Int) (l : List Vx) (p : B) : List Vx :=
 if 0 <= fndP l p then (if ok then l.set (fndP l p).toNat ⟨(l[(fndP l p).toNat]!).pol, subL ms p, (l[(fndP l p).toNat]!).par⟩ else delL l (fndP l p).toNat)
 else if ok && decide (0 <= fndP l anyP) then insV l ⟨p, subL ms p, [above]⟩ else l
def rmL (ms : List (B × B)) (ok : Bool) (above : Int) (l : List Vx) (ks : List B) : List Vx := ks.foldl (rmS ms ok above) l
theorem rmL_snoc (ms : List (B × B)) (ok : Bool) (above : Int) (l : List Vx) (ks : List B) (p : B) : rmL ms ok above l (ks ++ [p]) = rmS ms ok above (rmL ms ok above l ks) p := by
 unfold rmL; rw [List.foldl_append]; rfl
theorem rmS_ord {ms : List (B × B)} {ok : Bool} {above : Int} {l : List Vx} (h : OrdP l) (p : B) : OrdP (rmS ms ok above l p) := by
 unfold rmS;split
 ·split
  ·exact h.set _ fun _ => rfl
  ·exact delL_ord h _
 ·rename_i h0
  split
  ·exact insV_ord h fun v hv => fndP_neg (show fndP l p < 0 by omega) v hv
  ·exact h
theorem rmL_ord {ms : List (B × B)} {ok : Bool} {above : Int} : ∀ (ks : List B) {l : List Vx}, OrdP l -> OrdP (rmL ms ok above l ks)
 | [], _, h => h
 | p :: ks, _, h => rmL_ord ks (rmS_ord h p)
theorem set_pols {l : List Vx} {k : Nat} (hk : k < l.length) {x : Vx} (hx : x.pol = (l[k]!).pol) : (l.set k x).map (·.pol) = l.map (·.pol) := by
 apply List.ext_getElem
 ·simp
 ·intro j h1 h2;simp only [List.getElem_map, List.getElem_set]
  split
  ·rename_i e; subst e; rw [hx, getElem!_pos l k hk]
  ·rfl
theorem fndP_pols {a b : List Vx} (h : a.map (·.pol) = b.map (·.pol)) (p : B) : fndP a p = fndP b p := by
 have hl : a.length = b.length := by have := congrArg List.length h; simpa using this
 have hat : ∀ j, j < a.length -> (a[j]!).pol = (b[j]!).pol := fun j hj => by
  have h1 : (a.map (·.pol))[j]'(by simpa using hj) = (b.map (·.pol))[j]'(by rw [<- h]; simpa using hj) := by congr 1
  rw [getElem!_pos a j hj, getElem!_pos b j (by omega)];simpa using h1
 rcases Int.lt_or_le (fndP a p) 0 with q | q
 ·have h1 := fndP_none q;have e1 : fndP a p = -1 := idxG_no fun j hj => zF (h1 j hj)
  have e2 : fndP b p = -1 := idxG_no fun j hj => zF (by rw [<- hat j (by omega)]; exact h1 j (by omega))
  rw [e1, e2]
 ·obtain ⟨k, hk, he, hp, hn⟩ := fndP_some q;rw [he];exact (idxG_eq (t := b) (f := fun n => decide (n.pol = p)) (k := k) (by omega) (zT (by rw [<- hat k hk]; exact hp)) fun j hj => zF (by rw [<- hat j (by omega)]; exact hn j hj)).symm
theorem mapS_any {ms : List (B × B)} {star above : Int} {l : List Vx} {p : B} (hp : p ≠ anyP) : 0 <= fndP (mapS ms star above l p) anyP ↔ 0 <= fndP l anyP := by
 unfold mapS;split
 ·rename_i h0
  obtain ⟨k, hk, he, -, -⟩ := fndP_some h0;rw [he, Int.toNat_natCast];rw [fndP_pols (set_pols hk (x := ⟨(l[k]!).pol, subL ms p, (l[k]!).par⟩) rfl) anyP]
 ·split
  ·rw [fndP_iff, fndP_iff];constructor
   ·rintro ⟨v, hv, hq⟩;rcases insV_mem hv with q | rfl
    ·exact ⟨v, q, hq⟩
    ·exact absurd hq hp
   ·rintro ⟨v, hv, hq⟩;exact ⟨v, insV_iff.2 (.inl hv), hq⟩
  ·exact Iff.rfl
theorem rmL_map {ms : List (B × B)} {star above : Int} : ∀ (ks : List B) {l : List Vx}, anyP ∉ ks -> (0 <= star ↔ 0 <= fndP l anyP) -> rmL ms true above l ks = mapL ms star above l ks
 | [], l, _, _ => rfl
 | p :: ks, l, hk, hs => by
  have e : rmS ms true above l p = mapS ms star above l p := by
   unfold rmS mapS;by_cases h0 : 0 <= fndP l p
   ·rw [if_pos h0, if_pos h0]; rfl
   ·rw [if_neg h0, if_neg h0, Bool.true_and];by_cases h1 : 0 <= star
    ·rw [if_pos h1, if_pos (zT (hs.1 h1))]
    ·rw [if_neg h1, if_neg (by rw [decide_eq_true_eq]; exact fun q => h1 (hs.2 q))]
  have hp : p ≠ anyP := fun e => hk (e ▸ List.mem_cons_self)
  show rmL ms true above (rmS ms true above l p) ks = mapL ms star above (mapS ms star above l p) ks
  rw [e];exact rmL_map ks (fun h => hk (List.mem_cons_of_mem _ h)) (hs.trans (mapS_any hp).symm)
theorem rmL_del {ms : List (B × B)} {above : Int} : ∀ (ks : List B) {l : List Vx}, OrdP l -> rmL ms false above l ks = l.filter fun v => !decide (v.pol ∈ ks)
 | [], l, _ => by
  show l = _
  rw [eq_comm, List.filter_eq_self]
  intro v hv; simp
 | p :: ks, l, ho => by
  have e : rmS ms false above l p = l.filter fun v => !decide (v.pol = p) := by
   unfold rmS;by_cases h0 : 0 <= fndP l p
   ·rw [if_pos h0]; exact delL_filt ho h0
   ·rw [if_neg h0, filt_no (by omega)]; rfl
  show rmL ms false above (rmS ms false above l p) ks = _
  rw [e, rmL_del ks (ho.filter _), List.filter_filter];congr 1
  funext v
  by_cases h1 : v.pol = p <;> by_cases h2 : v.pol ∈ ks <;> simp [h1, h2]
theorem rmL_eq {g : List (List Vx)} (h : gvalidB g = true) (hg : 2 <= g.length) (ms : List (B × B)) (ok : Bool) : rmL ms ok (fndP g[g.length - 2]! anyP) g[g.length - 1]! (srcL ms) = gmapL g ms ok := by
 unfold gmapL
 cases ok with
 | true => rw [if_pos rfl]; exact rmL_map _ (srcL_any ms) Iff.rfl
 | false =>
  rw [if_neg (by simp)];exact rmL_del _ ((valid_pv h).ord _)
theorem rmL_take {ms : List (B × B)} {ok : Bool} {above : Int} {l : List Vx} {ks : List B} {i : Nat} (hi : i < ks.length) : rmL ms ok above l (ks.take (i + 1)) = rmS ms ok above (rmL ms ok above l (ks.take i)) ks[i] := by
 rw [zA hi, rmL_snoc]
theorem enA_take {l : List Vx} {ks : List B} {i : Nat} (hi : i < ks.length) : enA l (ks.take (i + 1)) = enS l (enA l (ks.take i)) ks[i] := by
 rw [zA hi, enA_snoc]
theorem rmS_len (ms : List (B × B)) (ok : Bool) (above : Int) (l : List Vx) (p : B) : (rmS ms ok above l p).length <= l.length + 1 := by
 unfold rmS;split
 ·split
  ·rw [zL]; omega
  ·exact Nat.le_trans (delL_len _ _) (by omega)
 ·split
  ·rw [insV_len]; omega
  ·omega
theorem rmL_len (ms : List (B × B)) (ok : Bool) (above : Int) : ∀ (ks : List B) (l : List Vx), (rmL ms ok above l ks).length <= l.length + ks.length
 | [], l => by simp [rmL]
 | p :: ks, l => by
  have h1 := rmL_len ms ok above ks (rmS ms ok above l p);have h2 := rmS_len ms ok above l p
  show (rmL ms ok above (rmS ms ok above l p) ks).length <= _
  rw [List.length_cons]; omega
attribute [local go_sem] Oper.semAt_some
structure LO (w : World) (Bk : Nat) (v : Value) (l : List Vt) : Prop where
 own : Slc.Own w Bk 65 3 encV v l
 ov : ∀ x ∈ l, OV w Bk x /\ Vx.Ok x.n
theorem LO.nil (w : World) (Bk : Nat) : LO w Bk (.slice none 0 0) [] := ⟨Slc.Own.nil _ _, fun x hx => by cases hx⟩
theorem LO.below {w w' : World} {Bk : Nat} {v : Value} {l : List Vt} (h : LO w Bk v l) (hb : Below w.heap.size w w') : LO w' Bk v l := ⟨h.own.below hb, fun x hx => ⟨(h.ov x hx).1.below hb, (h.ov x hx).2⟩⟩
theorem LO.vl {w : World} {Bk : Nat} {v : Value} {l : List Vt} (h : LO w Bk v l) : VL w v l := ⟨h.own.rd, fun x hx => (h.ov x hx).1.vt (S := fun k => k < w.heap.size) (h.ov x hx).2 (fun k hk => ((h.ov x hx).1.1.lt k hk).2) (fun k hk => ((h.ov x hx).1.2.lt k hk).2)⟩
theorem lput_any (w : World) (Bk : Nat) (v : Value) (l : List Vt) (n : Vx) (u q : Sl) (h : LO w Bk v l) (hB : Bk <= w.heap.size) (hu : Slc.Own w Bk 9 1 encS u.val n.ex) (hq : Slc.Own w Bk 3 1 encI q.val n.par) (hok : Vx.Ok n) (hn : l.length <= 100000) (hs : OrdP (vxs l)) (hno : ∀ y ∈ vxs l, y.pol ≠ n.pol) :
  Calls Tryz.prog 57 #[v, .agg #[.string (bstr n.pol), .slice u.ad u.n u.c, .slice q.ad q.n q.c]] w fun e w' => ∃ v' l', e = .returned v' /\ LO w' Bk v' l' /\ vxs l' = insV (vxs l) n /\ Below w.heap.size w w' := by
 have hov : OV w Bk ⟨n, u, q⟩ := ⟨hu, hq⟩;have hx : VtAt w ⟨n, u, q⟩ := hov.vt (S := fun k => k < w.heap.size) hok (fun k hk => (hu.lt k hk).2) (fun k hk => (hq.lt k hk).2);refine (rput_any w v l ⟨n, u, q⟩ h.vl hx hn hs hno).mono ?_;rintro e w' ⟨v', rfl, ho, hb⟩;refine ⟨v', _, rfl, ⟨ho.mono hB, fun y hy => ?_⟩, insT_vxs _ _, hb⟩;rcases insT_mem hy with q | rfl
 ·exact ⟨(h.ov y q).1.below hb, (h.ov y q).2⟩
 ·exact ⟨hov.below hb, hok⟩
theorem enA_len (l : List Vx) (ps : List B) (h : Asc ps) : (enA l ps).length <= ps.length := by
 have hg := enA_good l _ ps rfl h
 have h1 : ((enA l ps).map (·.pol)).length <= ps.length := nodup_le _ _ (by
  rw [List.nodup_iff_pairwise_ne, List.pairwise_map];refine hg.1.imp ?_;intro a b hab e;rw [e] at hab
  exact List.lt_irrefl _ hab) fun x hx => by
   obtain ⟨v, hv, rfl⟩ := List.mem_map.1 hx;exact ((hg.2 v).1 hv).1
 rwa [List.length_map] at h1
theorem enB_len (l : List Vx) : ∀ (ps : List B) (a : List Vx), (enB l a ps).length <= a.length + ps.length
 | [], a => by simp [enB]
 | p :: ps, a => by
  have h1 := enB_len l ps (enU l a p)
  have h2 : (enU l a p).length <= a.length + 1 := by
   unfold enU;split
   ·rw [insV_len]; omega
   ·omega
  show (enB l (enU l a p) ps).length <= _
  rw [List.length_cons]; omega
theorem enB_ord (l : List Vx) : ∀ (ps : List B) {a : List Vx}, OrdP a -> OrdP (enB l a ps)
 | [], _, h => h
 | p :: ps, _, h => enB_ord l ps (enU_ord h p)
theorem upF_ok {l : List Vx} {p : B} (hl : l.length <= 100000) (hp : p.length <= 1000000) (ps : List Int) (h : ps = upF l p \/ ps = expL l p) : Vx.Ok ⟨p, [p], ps⟩ := by
 have hx : (expL l p).length <= 100000 := Nat.le_trans (expK_len l p l.length) hl
 have hm : ∀ i ∈ expL l p, 0 <= i /\ i < (l.length : Int) := fun i hi => by
  unfold expL expK at hi;obtain ⟨j, hj, rfl⟩ := List.mem_map.1 hi;have := List.mem_range.1 (List.mem_filter.1 hj).1;omega
 have hu : (upF l p).length <= 100000 /\ ∀ i ∈ upF l p, 0 <= i /\ i < (l.length : Int) := by
  unfold upF;split
  ·rename_i h
   refine ⟨by simp, fun i hi => ?_⟩;rw [zS] at hi;subst hi;exact ⟨h.2, fndP_lt h.2⟩
  ·exact ⟨hx, hm⟩
 refine ⟨⟨by simp, fun b hb => ?_⟩, hp, ?_, fun i hi => ?_⟩
 ·simp only [zS] at hb; subst hb; exact hp
 ·rcases h with rfl | rfl
  ·exact hu.1
  ·exact hx
 ·rcases h with rfl | rfl
  ·have := hu.2 i hi; omega
  ·have := hm i hi; omega
def GrN (w : World) (R : List (List Vx) × Int) (e : Ending) (w' : World) : Prop := ∃ v' g', e = .returned (.tuple #[v', .int .i64 R.2]) /\ GO w' w.heap.size v' g' /\ gxs g' = R.1 /\ Below w.heap.size w w' /\ NQ w.heap.size g'
theorem rgenter_any (w : World) (v pv : Value) (g : List Lv) (ps : List B) (h : GQ w v g) (hp : Rd w encS pv ps) (hn : g.length <= 90000) (hln : ∀ L ∈ g, L.vs.length <= 100000) (hex : ∀ L ∈ g, (allJ (vxs L.vs) L.vs.length).length + ps.length <= 100000) (hpl : ps.length <= 100000) (hpx : ∀ p ∈ ps, p.length <= 1000000) (cnt : Bool) :
  Calls Tryz.prog 24 #[v, pv, .bool cnt] w fun e w' => GrN w (genterP (gxs g) ps cnt) e w' := by
 obtain ⟨ib, hib, hib0, hib1, hib2⟩ := info_parts info_int;obtain ⟨il, hil, hil0, hil1, hil2⟩ := info_parts info_lev;have hval := rgvalid_q w v g h (by omega) hln;obtain ⟨R, hR⟩ : ∃ R, R = genterP (gxs g) ps cnt := ⟨_, rfl⟩
 rw [<- hR];unfold genterP at hR;obtain ⟨ad, c, rfl, -⟩ := h.rd.form;obtain ⟨pa, pc, rfl, -⟩ := hp.form;have HQ := Bx.mk h;have HP := Bx.mk hp;have HLN := Bx.mk hln;have HEX := Bx.mk hex;have HPX := Bx.mk hpx;have HPL := Bx.mk hpl;obtain ⟨N, hN⟩ : ∃ N, N = g.length := ⟨_, rfl⟩
 have HN := Bx.mk hN;obtain ⟨PN, hPN⟩ : ∃ N, N = ps.length := ⟨_, rfl⟩
 have HPN := Bx.mk hPN;obtain ⟨V, hV⟩ : ∃ V, V = gvalidB (gxs g) := ⟨_, rfl⟩
 rw [<- hV] at hval hR;have HV := Bx.mk hV;rw [gxs_len, <- hN] at hR;have HRR := Bx.mk hR;rw [<- hN] at hn hval |-;rw [<- hPN] at hpl |-;clear h hp hln hex hpx hN hPN hV hR;unfold GrN;go_enter Tryz.func24, Tryz.ntmps24;go_wp2_with fail
 go_at_call 16;refine hval.mono ?_;rintro e w1 ⟨rfl, hb1⟩;clear hval
 cases V with
 | false =>
  have HF := Bx.mk (show R = ([], 7) by rw [HRR.out]; rfl);go_wp2_with fail
  go_ret2
  exact ⟨_, [], by rw [HF.out]; rfl, GO.nil _ _, by rw [HF.out]; rfl, hb1, NQ.nil _⟩
 | true =>
 have HGL := Bx.mk (HQ.out.gl HV.out.symm HLN.out);rcases Nat.eq_zero_or_pos N with e | hN1
 ·have HF := Bx.mk (show R = ([], 0) by rw [HRR.out, if_pos rfl, if_pos e]);have t5 : ((N : Int) == 0) = true := by simp; omega
  have e' : (N : Int) = 0 := by omega
  go_wp2_with fail
  go_ret2;exact ⟨_, [], by rw [HF.out]; rfl, GO.nil _ _, by rw [HF.out]; rfl, hb1, NQ.nil _⟩
 ·have t5 : ((N : Int) == 0) = false := by simp; omega
  have HB1 := Bx.mk hb1;have hN1l : N - 1 < g.length := by rw [<- HN.out]; omega
  obtain ⟨b, o, rfl, hbl, hcl⟩ := ls_cells HGL.out.rd |>.2 w1 (fun k hk _ => hb1.block k hk) (N - 1) hN1l;have HPR := Bx.mk (show gvalidB (gxs g) = true from HV.out.symm);have hlq := valid_lq HPR.out (k := N - 1) (by rw [gxs_len]; exact hN1l);rw [gxs_at g (N - 1) hN1l] at hlq
  have HRF := Bx.mk (show R = (pruneG (gxs g ++ [renL (vxs (g[N - 1]).vs) ps cnt]), 0) by
   rw [HRR.out, if_pos rfl, if_neg (by omega), gxs_at g (N - 1) hN1l, renL_eq hlq])
  have HRN := Bx.mk (renL_eq hlq ps cnt);have HVL := Bx.mk (HGL.out.lv _ (zM hN1l));have HLL := Bx.mk (HLN.out _ (zM hN1l));have HEL := Bx.mk (HEX.out _ (zM hN1l));have HLG0 := Bx.mk (show g[N - 1] ∈ g /\ (gxs g)[N - 1]! = vxs (g[N - 1]).vs from ⟨zM hN1l, gxs_at g (N - 1) hN1l⟩);obtain ⟨L, hL⟩ : ∃ L, L = g[N - 1]'hN1l := ⟨_, rfl⟩
  have HLG : Bx (L ∈ g /\ (gxs g)[N - 1]! = vxs L.vs) := ⟨by rw [hL]; exact HLG0.out⟩;clear HLG0 hlq;rw [<- hL] at hcl HRF HVL HLL HEL HRN;have hidx : ((N : Int) - 1).toNat = N - 1 := by omega
  have hcl' : w1.cell? ⟨b, o + ((N : Int) - 1).toNat, none⟩ = some L.s.val := by rw [hidx]; exact hcl
  obtain ⟨la, lc, hls, -⟩ := HVL.out.rd.form;obtain ⟨M, hM⟩ : ∃ M, M = L.vs.length := ⟨_, rfl⟩
  have HM := Bx.mk hM;rw [hls, <- hM] at hcl hcl';rw [hls, <- hM] at HVL;rw [<- hM] at HLL;have hMM := HLL.out;obtain ⟨vx, hvx⟩ : ∃ vx, vx = vxs L.vs := ⟨_, rfl⟩
  have HVX := Bx.mk hvx;rw [<- hvx] at HRF HRN;have HVN := Bx.mk (show vx.length = M by rw [hvx, vxs_len, hM]);have HSA := Bx.mk (show Asc (setB ps) from setB_asc ps);have HSL := Bx.mk (show (setB ps).length <= PN by rw [HPN.out]; exact setB_length ps);have HSM := Bx.mk (show ∀ p ∈ setB ps, p.length <= 1000000 from fun p hp => HPX.out p (setB_mem.1 hp));have HAL := Bx.mk (show (allJ vx M).length + PN <= 100000 by rw [hvx, hM, HPN.out]; exact HEL.out);obtain ⟨S, hS⟩ : ∃ S, S = setB ps := ⟨_, rfl⟩
  have HS := Bx.mk hS;rw [<- hS] at HSA HSL HSM;have hset := rset_any w1 (.slice pa PN pc) ps (by rw [HPN.out]; exact HP.out.below hb1) HPL.out;rw [<- hS] at hset;clear hN1l hL hM hls hb1 hvx hS;go_wp2_with fail
  go_at_call 54;refine hset.mono ?_;rintro e w2 ⟨sv, rfl, hso, hb2⟩;obtain ⟨sa, sc, rfl, -⟩ := hso.rd.form;have HSC := Bx.mk (strs_cells hso.rd).2;have HSO := Bx.mk hso;obtain ⟨SN, hSN⟩ : ∃ SN, SN = S.length := ⟨_, rfl⟩
  have HSN := Bx.mk hSN;rw [<- hSN];have hSNb : SN <= 100000 := by rw [hSN]; have := HSL.out; omega
  have HB2 := Bx.mk (HB1.out.trans (hb2.mono HB1.out.size));have HB20 := Bx.mk (Below.refl w2.heap.size w2);clear hset hso hb2 hSN hcl hcl' hidx t5;go_wp2_with fail
  go_loopw [10, 11] (fun lv iv wr => ∃ (k : Nat) (vs' : List Vt), k <= SN /\ iv = .int .i64 k /\ Bx (LO wr w.heap.size lv vs') /\ Bx (vxs vs' = enA vx (S.take k)) /\ Bx (Below w2.heap.size w2 wr)) (fun _ iv _ => SN - (intOf iv).toNat)
  case atStart => exact ⟨0, [], by omega, rfl, ⟨LO.nil _ _⟩, ⟨by simp [enA]⟩, HB20⟩
  case round =>
   clear HB20;obtain ⟨k, vs', hk, rfl, hO, hX, hB⟩ := hrel;obtain ⟨va, vc, hva, -⟩ := hO.out.own.rd.form;obtain ⟨VN, hVN⟩ : ∃ VN, VN = vs'.length := ⟨_, rfl⟩
   have HVN' := Bx.mk hVN;rw [<- hVN] at hva;subst hva;clear hVN;have HBW := Bx.mk (show Below w.heap.size w wr from HB2.out.trans (hB.out.mono HB2.out.size))
   have HVB := Bx.mk (show vs'.length <= 100000 by
    have h1 := enA_len vx (S.take k) (HSA.out.sublist (List.take_sublist _ _));rw [<- hX.out, vxs_len, List.length_take] at h1;have := HSL.out;have := HAL.out
    omega)
   have hVNb : VN <= 100000 := by rw [HVN'.out]; exact HVB.out
   by_cases hlt : k < SN
   ·have hkl : k < S.length := by rw [<- HSN.out]; exact hlt
    obtain ⟨bs, os, rfl, -, c0⟩ := HSC.out wr hB.out k hkl;have HTK := Bx.mk (enA_take (l := vx) hkl);have HPM := Bx.mk (show S[k].length <= 1000000 from HSM.out _ (zM hkl))
    have HPA := Bx.mk (show OrdP (enA vx (S.take k)) /\ ∀ u, u ∈ enA vx (S.take k) -> u.pol ≠ S[k] from by
     have h1 := enA_good vx _ (S.take k) rfl (HSA.out.sublist (List.take_sublist _ _));refine ⟨h1.1, fun u hu e => ?_⟩;have h2 := ((h1.2 u).1 hu).1;have h3 : Asc (S.take k ++ [S[k]]) := (by rw [<- zA hkl]; exact HSA.out.sublist (List.take_sublist _ _));have h4 := (asc_snoc h3).2 _ h2;rw [e] at h4
     exact List.lt_irrefl _ h4)
    obtain ⟨p, hp⟩ : ∃ p, p = S[k] := ⟨_, rfl⟩
    rw [<- hp] at c0 HTK HPM HPA;have hs := same_any p;clear hp hkl;by_cases hany : p = anyP
    ·rw [zT hany] at hs;have HX' := Bx.mk (show vxs vs' = enA vx (S.take (k + 1)) by rw [HTK.out, hX.out]; unfold enS; rw [if_pos hany]);generalize bstr p = PB at *;clear hany;go_wp2_with fail
     go_roundw
     case rel => exact ⟨k + 1, vs', by omega, by go_num, hO, HX', hB⟩
     case measure => simp [intOf]; omega
    ·rw [zF hany] at hs;have HANY := Bx.mk hany;have hex := rexp_any wr (.slice la M lc) L.vs (HVL.out.q.below HBW.out) (by rw [<- HM.out]; exact hMM) p;rw [<- HVX.out] at hex;obtain ⟨PB, hPB⟩ : ∃ PB, PB = bstr p := ⟨_, rfl⟩
     have HPB := Bx.mk hPB;rw [<- hPB] at c0 hs hex;clear hany hPB;go_wp2_with fail
     go_at_call 55;refine hex.mono ?_;rintro e w3 ⟨uv, rfl, huo, hb3⟩;obtain ⟨ua, uc, rfl, -⟩ := huo.rd.form;have hvt := rvert_any w3 (.slice la M lc) L.vs ((HVL.out.q.below HBW.out).below hb3) (by rw [<- HM.out]; exact hMM) anyP;rw [<- HVX.out, anyP_str] at hvt;obtain ⟨EN, hEN⟩ : ∃ EN, EN = (expL vx p).length := ⟨_, rfl⟩
     have HEN := Bx.mk hEN;rw [<- hEN];have hENb : EN <= 100000 := (by rw [hEN]; have := expK_len vx p vx.length; have := HVN.out; unfold expL; omega);have HUO := Bx.mk huo;have HB3 := Bx.mk hb3;clear hex huo hb3 hEN;go_wp2_with fail
     go_at_call 56;refine hvt.mono ?_;rintro e w4 ⟨rfl, hb4⟩;have HB34 := Bx.mk (HB3.out.trans (hb4.mono HB3.out.size));have HUO4 := Bx.mk (HUO.out.below hb4);obtain ⟨z, hz⟩ : ∃ z, z = fndP vx anyP := ⟨_, rfl⟩
     have HZ := Bx.mk hz;rw [<- hz];clear hvt hb4 hz;by_cases hE : EN = 0
     ·subst hE;have t1 : (((0 : Nat) : Int) == 0) = true := rfl;have hEN0 : expL vx p = [] := List.length_eq_zero_iff.1 HEN.out.symm;by_cases hz0 : 0 <= z
      ·have t2 : decide (z >= 0) = true := zT hz0;have HUP := Bx.mk (show upF vx p = [z] by unfold upF; rw [if_pos ⟨hEN0, by rw [<- HZ.out]; exact hz0⟩, <- HZ.out]);obtain ⟨W5, hW5⟩ : ∃ W5, W5 = w4.alloc (.cells #[.int .i64 z] 3) := ⟨_, rfl⟩
       obtain ⟨q5, hq5⟩ : ∃ q, q = w4.heap.size := ⟨_, rfl⟩
       have hb5 : Below w4.heap.size w4 W5 := (by rw [hW5]; exact (Below.refl _ _).alloc (zR _) _);have hsz : w.heap.size <= w4.heap.size := Nat.le_trans HBW.out.size HB34.out.size;have HQO := Bx.mk (show Slc.Own W5 w.heap.size 3 1 encI (Sl.val ⟨some ⟨q5, 0, none⟩, 1, 1⟩) (upF vx p) by rw [HUP.out, hW5, hq5]; exact own_alloc encI_ok w4 [z] _ rfl hsz (by unfold maxLen; simp));have HNE := Bx.mk (show upF vx p ≠ [] by rw [HUP.out]; simp);have HBB := Bx.mk (show Below wr.heap.size wr W5 from HB34.out.trans (hb5.mono HB34.out.size));clear hb5 hsz hEN0 hz0;go_upto_region 17 with fail
       rw [<- hW5, <- hq5];clear hW5 hq5 t1 t2;obtain ⟨sq, hsq⟩ : ∃ sq : Sl, sq = ⟨some ⟨q5, 0, none⟩, 1, 1⟩ := ⟨_, rfl⟩
       rw [<- hsq] at HQO;have hqa : sq.ad = some ⟨q5, 0, none⟩ := (by rw [hsq]);have hqn : sq.n = 1 := (by rw [hsq]);have hqc : sq.c = 1 := (by rw [hsq]);rw [<- hqa, show (Value.slice sq.ad 1 1) = .slice sq.ad sq.n sq.c by rw [hqn, hqc]];have hqnb : (0 : Nat) < sq.n /\ sq.n <= 100000 := (by omega);clear hsq hqa hqn hqc;have tl : decide ((sq.n : Int) > 0) = true := zT (by omega)
       have HX' := Bx.mk (show enA vx (S.take (k + 1)) = insV (enA vx (S.take k)) ⟨p, [p], upF vx p⟩ by
        rw [HTK.out];unfold enS
        rw [if_neg HANY.out, if_neg HNE.out])
       obtain ⟨W6, hW6⟩ : ∃ W6, W6 = W5.alloc (.cells #[.string PB] 9) := ⟨_, rfl⟩
       obtain ⟨q6, hq6⟩ : ∃ q, q = W5.heap.size := ⟨_, rfl⟩
       have hb6 : Below W5.heap.size W5 W6 := (by rw [hW6]; exact (Below.refl _ _).alloc (zR _) _);have hsz : w.heap.size <= W5.heap.size := Nat.le_trans HBW.out.size HBB.out.size;have huo6 : Slc.Own W6 w.heap.size 9 1 encS (Sl.val ⟨some ⟨q6, 0, none⟩, 1, 1⟩) [p] := (by rw [hW6, hq6, HPB.out]; exact own_alloc encS_ok W5 [p] _ rfl hsz (by unfold maxLen; simp));have hput := lput_any W6 w.heap.size (.slice va VN vc) vs' ⟨p, [p], upF vx p⟩ ⟨some ⟨q6, 0, none⟩, 1, 1⟩ sq ((hO.out.below HBB.out).below hb6) (Nat.le_trans hsz hb6.size) huo6 (HQO.out.below hb6) (upF_ok (by rw [HVN.out]; exact hMM) HPM.out _ (.inl rfl)) HVB.out (by rw [hX.out]; exact HPA.out.1) (by rw [hX.out]; exact HPA.out.2);rw [<- HPB.out] at hput;have HB6 := Bx.mk (show Below wr.heap.size wr W6 from HBB.out.trans (hb6.mono HBB.out.size));clear hb6 hsz huo6;go_wp2_with fail
       rw [<- hW6, <- hq6];clear hW6 hq6;go_at_call 57;refine hput.mono ?_;rintro e w7 ⟨v7, l7, rfl, hlo7, hx7, hb7⟩;have HO7 := Bx.mk hlo7;have HX7 := Bx.mk (show vxs l7 = enA vx (S.take (k + 1)) by rw [hx7, hX.out, HX'.out]);have HB7 := Bx.mk (hB.out.trans ((HB6.out.trans (hb7.mono HB6.out.size)).mono hB.out.size));obtain ⟨a7, c7, rfl, -⟩ := hlo7.own.rd.form;clear hput hlo7 hx7 hb7 tl;go_wp2_with fail
       go_roundw
       case rel => exact ⟨k + 1, l7, by omega, by go_num, HO7, HX7, HB7⟩
       case measure => simp [intOf]; omega
      ·have t2 : decide (z >= 0) = false := zF hz0
       have HX' := Bx.mk (show vxs vs' = enA vx (S.take (k + 1)) by
        rw [HTK.out, hX.out];unfold enS;rw [if_neg HANY.out, if_pos];unfold upF
        rw [if_neg (fun q => hz0 (by rw [HZ.out]; exact q.2))]; exact hEN0)
       have HO' := Bx.mk (hO.out.below HB34.out);have HB' := Bx.mk (hB.out.trans (HB34.out.mono hB.out.size));clear hz0 hEN0;go_wp2_with fail
       go_roundw
       case rel => exact ⟨k + 1, vs', by omega, by go_num, HO', HX', HB'⟩
       case measure => simp [intOf]; omega
     ·have t1 : ((EN : Int) == 0) = false := by simp; omega
      have t1' : ¬ (EN : Int) = 0 := (by omega);have hEN0 : expL vx p ≠ [] := fun e => hE (by rw [HEN.out, e]; rfl)
      have hup : upF vx p = expL vx p := (by unfold upF; rw [if_neg (fun q => hEN0 q.1)]);have HNE := Bx.mk (show upF vx p ≠ [] by rw [hup]; exact hEN0);obtain ⟨W5, hW5⟩ : ∃ W5, W5 = w4 := ⟨_, rfl⟩
      have HQO := Bx.mk (show Slc.Own W5 w.heap.size 3 1 encI (Sl.val ⟨ua, EN, uc⟩) (upF vx p) by
       rw [hup, hW5];have := HUO4.out.mono HBW.out.size;rw [<- HEN.out] at this
       exact this)
      have HBB := Bx.mk (show Below wr.heap.size wr W5 by rw [hW5]; exact HB34.out);clear hEN0 hup;go_upto_region 17 with fail
      rw [<- hW5];clear hW5 t1 t1';obtain ⟨sq, hsq⟩ : ∃ sq : Sl, sq = ⟨ua, EN, uc⟩ := ⟨_, rfl⟩
      rw [<- hsq] at HQO;have hqa : sq.ad = ua := (by rw [hsq]);have hqn : sq.n = EN := (by rw [hsq]);have hqc : sq.c = uc := (by rw [hsq]);rw [show (Value.slice ua EN uc) = .slice sq.ad sq.n sq.c by rw [hqa, hqn, hqc]];have hqnb : (0 : Nat) < sq.n /\ sq.n <= 100000 := (by omega);clear hsq hqa hqn hqc;have tl : decide ((sq.n : Int) > 0) = true := zT (by omega)
      have HX' := Bx.mk (show enA vx (S.take (k + 1)) = insV (enA vx (S.take k)) ⟨p, [p], upF vx p⟩ by
       rw [HTK.out];unfold enS
       rw [if_neg HANY.out, if_neg HNE.out])
      obtain ⟨W6, hW6⟩ : ∃ W6, W6 = W5.alloc (.cells #[.string PB] 9) := ⟨_, rfl⟩
      obtain ⟨q6, hq6⟩ : ∃ q, q = W5.heap.size := ⟨_, rfl⟩
      have hb6 : Below W5.heap.size W5 W6 := (by rw [hW6]; exact (Below.refl _ _).alloc (zR _) _);have hsz : w.heap.size <= W5.heap.size := Nat.le_trans HBW.out.size HBB.out.size;have huo6 : Slc.Own W6 w.heap.size 9 1 encS (Sl.val ⟨some ⟨q6, 0, none⟩, 1, 1⟩) [p] := (by rw [hW6, hq6, HPB.out]; exact own_alloc encS_ok W5 [p] _ rfl hsz (by unfold maxLen; simp));have hput := lput_any W6 w.heap.size (.slice va VN vc) vs' ⟨p, [p], upF vx p⟩ ⟨some ⟨q6, 0, none⟩, 1, 1⟩ sq ((hO.out.below HBB.out).below hb6) (Nat.le_trans hsz hb6.size) huo6 (HQO.out.below hb6) (upF_ok (by rw [HVN.out]; exact hMM) HPM.out _ (.inl rfl)) HVB.out (by rw [hX.out]; exact HPA.out.1) (by rw [hX.out]; exact HPA.out.2);rw [<- HPB.out] at hput;have HB6 := Bx.mk (show Below wr.heap.size wr W6 from HBB.out.trans (hb6.mono HBB.out.size));clear hb6 hsz huo6;go_wp2_with fail
      rw [<- hW6, <- hq6];clear hW6 hq6;go_at_call 57;refine hput.mono ?_;rintro e w7 ⟨v7, l7, rfl, hlo7, hx7, hb7⟩;have HO7 := Bx.mk hlo7;have HX7 := Bx.mk (show vxs l7 = enA vx (S.take (k + 1)) by rw [hx7, hX.out, HX'.out]);have HB7 := Bx.mk (hB.out.trans ((HB6.out.trans (hb7.mono HB6.out.size)).mono hB.out.size));obtain ⟨a7, c7, rfl, -⟩ := hlo7.own.rd.form;clear hput hlo7 hx7 hb7 tl;go_wp2_with fail
      go_roundw
      case rel => exact ⟨k + 1, l7, by omega, by go_num, HO7, HX7, HB7⟩
      case measure => simp [intOf]; omega
   ·obtain rfl : k = SN := by omega
    have HXA := Bx.mk (show vxs vs' = enA vx S by rw [hX.out, HSN.out, List.take_length]);have HAO := Bx.mk (enA_good vx _ S rfl HSA.out).1;have HALN := Bx.mk (show (enA vx S).length <= k by rw [HSN.out]; exact enA_len vx S HSA.out);obtain ⟨A, hA⟩ : ∃ A, A = enA vx S := ⟨_, rfl⟩
    have HA := Bx.mk hA;rw [<- hA] at HXA HAO HALN
    have HRR2 := Bx.mk (show renL vx ps cnt = if cnt && decide (anyP ∈ S) then enB vx A (allJ vx M) else A by
     unfold renL
     rw [<- HS.out, <- hA, <- HVN.out])
    obtain ⟨LV, hLV⟩ : ∃ LV, LV = renL vx ps cnt := ⟨_, rfl⟩
    have HLV := Bx.mk hLV;rw [<- hLV] at HRR2 HRF HRN;have HSR := Bx.mk (HSO.out.rd.below hB.out);clear hB hX hA hLV;go_upto_region 19 with fail
    go_cut [73] (fun s wx => s = .bool (cnt && decide (anyP ∈ S)) /\ wx = wr)
    case first =>
     cases cnt with
     | false =>
      go_wp2_with fail
      go_meet
      exact ⟨rfl, rfl⟩
     | true =>
      have hin := in_any wr (.slice sa k sc) S anyP (by have := HSR.out; rw [<- HSN.out] at this; exact this) (by rw [<- HSN.out]; exact hSNb);rw [anyP_str] at hin;generalize decide (anyP ∈ S) = R1 at *;go_wp2_with fail
      go_at_call 47;refine hin.mono ?_;rintro e w' ⟨rfl, rfl⟩;clear hin
      cases R1 with
      | true =>
       go_wp2_with fail
       go_meet
       exact ⟨rfl, rfl⟩
      | false =>
       go_wp2_with fail
       go_meet;exact ⟨rfl, rfl⟩
    case rest =>
     obtain ⟨rfl, rfl⟩ := hcut;generalize (cnt && decide (anyP ∈ S)) = R1 at *;go_upto_if 73 with fail
     go_cut [10] (fun lv wx => ∃ vs2 : List Vt, Bx (LO wx w.heap.size lv vs2) /\ Bx (vxs vs2 = LV) /\ Bx (Below w.heap.size w wx))
     case first =>
      cases R1 with
      | false =>
       have HE := Bx.mk (show vxs vs' = LV by rw [HXA.out, HRR2.out]; rfl);go_wp2_with fail
       go_meet
       exact ⟨vs', hO, HE, HBW⟩
      | true =>
       have HLE := Bx.mk (show LV = enB vx A (allJ vx M) by rw [HRR2.out]; rfl);have HX0 := Bx.mk (show vxs vs' = enB vx A (allJ vx 0) by rw [HXA.out]; simp [allJ, enB]);have HC3 := Bx.mk (HVL.out.at3);clear HRR2 HXA;go_wp2_with fail
       go_loopw [10, 15] (fun lv iv wz => ∃ (j : Nat) (vs2 : List Vt), j <= M /\ iv = .int .i64 j /\ Bx (LO wz w.heap.size lv vs2) /\ Bx (vxs vs2 = enB vx A (allJ vx j)) /\ Bx (Below w.heap.size w wz)) (fun _ iv _ => M - (intOf iv).toNat)
       case atStart => exact ⟨0, vs', by omega, rfl, hO, HX0, HBW⟩
       case round =>
        clear hO HX0 HBW HSR HVN' HVB hVNb;obtain ⟨j, vs2, hj, rfl, hO, hX, hB⟩ := hrel;obtain ⟨va, vc, hva, -⟩ := hO.out.own.rd.form;obtain ⟨VN, hVN⟩ : ∃ VN, VN = vs2.length := ⟨_, rfl⟩
        rw [<- hVN] at hva;subst hva;clear hVN;by_cases hlt : j < M
        ·have HJL := Bx.mk (show j < L.vs.length by rw [<- HM.out]; exact hlt);obtain ⟨bv, ov, rfl, -, c0, c1, c2⟩ := HC3.out wr hB.out j HJL.out;have HXT := Bx.mk (HVL.out.at_ _ (zM HJL.out));have HXV := Bx.mk (show (vx[j]!).ex = (L.vs[j]'HJL.out).n.ex by rw [HVX.out, vxs_at L.vs j HJL.out])
         have HC4 := Bx.mk (show ∀ W, Below w.heap.size w W -> W.cell? ⟨bv, ov + j * 3 + 1, none⟩ = some (L.vs[j]'HJL.out).u.val from fun W hW => by
          obtain ⟨b', o', e, -, -, c1', -⟩ := HC3.out W hW j HJL.out;simp only [zO, Addr.mk.injEq, and_true] at e
          obtain ⟨rfl, rfl⟩ := e
          exact c1')
         obtain ⟨x, hx⟩ : ∃ x, x = L.vs[j]'HJL.out := ⟨_, rfl⟩
         rw [<- hx] at c1 HXT HXV HC4;obtain ⟨xa, xc, hxu, -⟩ := HXT.out.1.1.form;have HXC := Bx.mk (strs_cells (show Rd w encS (.slice xa x.n.ex.length xc) x.n.ex from hxu ▸ HXT.out.1.1)).2;have HXF := Bx.mk HXT.out.2.2.1;rw [hxu] at c1 HC4;obtain ⟨XN, hXN⟩ : ∃ XN, XN = x.n.ex.length := ⟨_, rfl⟩
         have HXN := Bx.mk hXN;rw [<- hXN] at c1 HC4;have hXNb : XN <= 100000 := by rw [hXN]; exact HXF.out.1
         have HAJ := Bx.mk (show allJ vx (j + 1) = allJ vx j ++ x.n.ex by
          rw [<- HXV.out]; unfold allJ; rw [List.range_succ, List.flatMap_append]; simp)
         have HAM := Bx.mk (show (allJ vx (j + 1)).length + PN <= 100000 by
          have := allJ_mono vx (j := j + 1) (k := M) hlt;have := HAL.out
          omega)
         have HX0 := Bx.mk (show vxs vs2 = enB vx A (allJ vx j ++ x.n.ex.take 0) by rw [hX.out, List.take_zero, List.append_nil]);have hO0 := hO;have hB0 := hB;clear hx hxu hXN c0 c2 HXT HXV hO hX hB;go_wp2_with fail
         clear c1;go_loopw [10, 16] (fun lv iv wz => ∃ (i : Nat) (vs2 : List Vt), i <= XN /\ iv = .int .i64 i /\ Bx (LO wz w.heap.size lv vs2) /\ Bx (vxs vs2 = enB vx A (allJ vx j ++ x.n.ex.take i)) /\ Bx (Below w.heap.size w wz)) (fun _ iv _ => XN - (intOf iv).toNat)
         case atStart => exact ⟨0, vs2, by omega, rfl, hO0, HX0, hB0⟩
         case round =>
          clear hO0 HX0 hB0;obtain ⟨i, vs3, hi, rfl, hO, hX, hB⟩ := hrel;obtain ⟨va, vc, hva, -⟩ := hO.out.own.rd.form;obtain ⟨VN, hVN⟩ : ∃ VN, VN = vs3.length := ⟨_, rfl⟩
          have HVN' := Bx.mk hVN;rw [<- hVN] at hva;subst hva;clear hVN;have c1 := HC4.out wr hB.out
          have HVB := Bx.mk (show vs3.length <= 100000 by
           have h1 := enB_len vx (allJ vx j ++ x.n.ex.take i) A;rw [<- hX.out, vxs_len, List.length_append, List.length_take] at h1;have h2 := HAM.out;rw [HAJ.out, List.length_append] at h2;have := HALN.out;have := HSL.out;have := HSN.out
           omega)
          have hVNb : VN <= 100000 := (by rw [HVN'.out]; exact HVB.out);by_cases hlt2 : i < XN
          ·have hil' : i < x.n.ex.length := by rw [<- HXN.out]; exact hlt2
           obtain ⟨bx, ox, rfl, -, d0⟩ := HXC.out wr hB.out i hil'
           have HTK := Bx.mk (show enB vx A (allJ vx j ++ x.n.ex.take (i + 1)) = enU vx (enB vx A (allJ vx j ++ x.n.ex.take i)) x.n.ex[i] by
            rw [zA hil', <- List.append_assoc, enB_snoc])
           have HPM := Bx.mk (show (x.n.ex[i]).length <= 1000000 from HXF.out.2 _ (zM hil'));obtain ⟨p, hp⟩ : ∃ p, p = x.n.ex[i] := ⟨_, rfl⟩
           rw [<- hp] at d0 HTK HPM;have hvt := rvert_any wr (.slice va VN vc) vs3 hO.out.vl.q HVB.out p;have hexp := fun W (hW : Below w.heap.size w W) => rexp_any W (.slice (some ⟨bv, ov, none⟩) M lc) L.vs (HVL.out.q.below hW) (by rw [<- HM.out]; exact hMM) p
           rw [<- HVX.out] at hexp;rw [hX.out] at hvt;obtain ⟨z, hz⟩ : ∃ z, z = fndP (enB vx A (allJ vx j ++ x.n.ex.take i)) p := ⟨_, rfl⟩
           have HZ := Bx.mk hz;rw [<- hz] at hvt;obtain ⟨PB, hPB⟩ : ∃ PB, PB = bstr p := ⟨_, rfl⟩
           have HPB := Bx.mk hPB;rw [<- hPB] at d0 hvt hexp;have HEXP := Bx.mk hexp;clear hp hil' hz hPB hexp;go_wp2_with fail
           go_at_call 56;refine hvt.mono ?_;rintro e w4 ⟨rfl, hb4⟩;have HB4 := Bx.mk hb4;have HBZ4 := Bx.mk (hB.out.trans (hb4.mono hB.out.size));clear hvt hb4;by_cases hz0 : z < 0
           ·have t1 : decide (z < 0) = true := zT hz0;have HFN := Bx.mk (show fndP (enB vx A (allJ vx j ++ x.n.ex.take i)) p < 0 by rw [<- HZ.out]; exact hz0);obtain ⟨W5, hW5⟩ : ∃ W5, W5 = w4.alloc (.cells #[.string PB] 9) := ⟨_, rfl⟩
            obtain ⟨q5, hq5⟩ : ∃ q, q = w4.heap.size := ⟨_, rfl⟩
            have hb5 : Below w4.heap.size w4 W5 := (by rw [hW5]; exact (Below.refl _ _).alloc (zR _) _);have hsz : w.heap.size <= w4.heap.size := HBZ4.out.size;have HUO := Bx.mk (show Slc.Own W5 w.heap.size 9 1 encS (Sl.val ⟨some ⟨q5, 0, none⟩, 1, 1⟩) [p] by rw [hW5, hq5, HPB.out]; exact own_alloc encS_ok w4 [p] _ rfl hsz (by unfold maxLen; simp));have HBZ5 := Bx.mk (HBZ4.out.trans (hb5.mono hsz));have HB5 := Bx.mk (HB4.out.trans (hb5.mono HB4.out.size));have hex := HEXP.out W5 HBZ5.out;clear hb5 hsz hz0;go_wp2_with fail
            rw [<- hW5, <- hq5];clear hW5 hq5;go_at_call 55;refine hex.mono ?_;rintro e w6 ⟨uv, rfl, huo, hb6⟩;obtain ⟨sq, hsq⟩ := sl_of huo;subst hsq;have hput := lput_any w6 w.heap.size (.slice va VN vc) vs3 ⟨p, [p], expL vx p⟩ ⟨some ⟨q5, 0, none⟩, 1, 1⟩ sq ((hO.out.below HB5.out).below hb6) (Nat.le_trans HBZ5.out.size hb6.size) (HUO.out.below hb6) (huo.mono HBZ5.out.size) (upF_ok (by rw [HVN.out]; exact hMM) HPM.out _ (.inr rfl)) HVB.out (by rw [hX.out]; exact enB_ord vx _ HAO.out) (by rw [hX.out]; exact fun y hy => fndP_neg HFN.out y hy);rw [<- HPB.out] at hput;have HBZ6 := Bx.mk (HBZ5.out.trans (hb6.mono HBZ5.out.size));clear hex huo hb6;simp only [Sl.val]
            go_wp2_with fail
            go_at_call 57;refine hput.mono ?_;rintro e w7 ⟨v7, l7, rfl, hlo7, hx7, hb7⟩;have HO7 := Bx.mk hlo7
            have HX7 := Bx.mk (show vxs l7 = enB vx A (allJ vx j ++ x.n.ex.take (i + 1)) by
             rw [hx7, hX.out, HTK.out];unfold enU
             rw [if_pos HFN.out])
            have HB7 := Bx.mk (HBZ6.out.trans (hb7.mono HBZ6.out.size));obtain ⟨a7, c7, rfl, -⟩ := hlo7.own.rd.form;clear hput hlo7 hx7 hb7 t1;go_wp2_with fail
            go_roundw
            case rel => exact ⟨i + 1, l7, by omega, by go_num, HO7, HX7, HB7⟩
            case measure => simp [intOf]; omega
           ·have t1 : decide (z < 0) = false := zF hz0
            have HX7 := Bx.mk (show vxs vs3 = enB vx A (allJ vx j ++ x.n.ex.take (i + 1)) by
             rw [hX.out, HTK.out];unfold enU
             rw [if_neg (by rw [<- HZ.out]; exact hz0)])
            have HO7 := Bx.mk (hO.out.below HB4.out);clear hz0;go_wp2_with fail
            go_roundw
            case rel => exact ⟨i + 1, vs3, by omega, by go_num, HO7, HX7, HBZ4⟩
            case measure => simp [intOf]; omega
          ·obtain rfl : i = XN := by omega
           have HX7 := Bx.mk (show vxs vs3 = enB vx A (allJ vx (j + 1)) by rw [hX.out, HAJ.out, HXN.out, List.take_length]);clear hX;go_wp2_with fail
           go_roundw
           case rel => exact ⟨j + 1, vs3, by omega, by go_num, hO, HX7, hB⟩
           case measure => simp [intOf]; omega
        ·obtain rfl : j = M := by omega
         have HE := Bx.mk (show vxs vs2 = LV by rw [hX.out, HLE.out]);go_wp2_with fail
         go_meet;exact ⟨vs2, hO, HE, hB⟩
     case rest =>
      obtain ⟨vs2, hO2, hX2, hB2⟩ := hcut;obtain ⟨sl, hsl⟩ := sl_of hO2.out.own;subst hsl;have hcp := rcopy_ov wc (.slice (some ⟨b, o, none⟩) N c) g (by rw [HN.out]; exact HGL.out.below hB2.out) (by rw [<- HN.out]; omega) HLN.out;simp only [Sl.val]
      clear hO HBW HSR HVN' HVB hVNb HRR2 HXA HALN HAO HA;go_wp2_with fail
      go_at_call 59;refine hcp.mono ?_;rintro e w8 ⟨v8, g', rfl, hgo, hgx, hb8, hov⟩;have HGO := Bx.mk hgo;have HGX := Bx.mk hgx;have HOV := Bx.mk hov;have HB8 := Bx.mk hb8;have HO8 := Bx.mk (hO2.out.below hb8);have HZC := Bx.mk hB2.out.size;obtain ⟨ga, gc, rfl, -⟩ := hgo.own.rd.form;have hgl : g'.length = N := (by have := congrArg List.length hgx; rw [gxs_len, gxs_len, <- HN.out] at this; exact this);have hba : Below w8.heap.size w8 (w8.alloc (.cells #[.slice sl.ad sl.n sl.c] 63)) := (Below.refl _ _).alloc (zR _) _;have HBA := Bx.mk hba;have HGA := Bx.mk ((hgo.below hba).mono hB2.out.size);have HLA := Bx.mk (HO8.out.below hba)
      have HNB := Bx.mk (show ∀ k, (Sl.val sl).ownBlock = some k -> ¬ GB (.slice ga g'.length gc) g' k from fun k hk hn => by
       have h1 := (hO2.out.own.lt k hk).2;have h2 := (hgo.lt hn).1
       omega)
      have HOA := Bx.mk (show ∀ L0 ∈ g', ∀ x ∈ L0.vs, OV (w8.alloc (.cells #[.slice sl.ad sl.n sl.c] 63)) wc.heap.size x from fun L0 h0 x hx => (hov L0 h0 x hx).below hba);have HSRC := Bx.mk (show SrcV (w8.alloc (.cells #[.slice sl.ad sl.n sl.c] 63)) 1 (.slice (some ⟨w8.heap.size, 0, none⟩) 1 1) 1 ([(⟨vs2, sl⟩ : Lv)].flatMap encL) from src_new encL_ok (heap_alloc_new _ _));have hm1 : g'.length + 1 <= maxLen := (by unfold maxLen; omega);have hm2 : (g'.length + 1) * 24 <= 140737488355328 := (by omega);have hbz : w.heap.size <= (w8.alloc (.cells #[.slice sl.ad sl.n sl.c] 63)).heap.size := Nat.le_trans (Nat.le_trans hB2.out.size hb8.size) hba.size;have HBZ := Bx.mk hbz;have HGLN := Bx.mk hgl;have HOWN := Bx.mk HGA.out.own;clear hcp hgo hgx hov hb8 hba hgl;go_wp2_with (at_builtin; refine wpList_append_any rfl _ _ _ rfl w.heap.size 63 il _ 1 24 und_levs hil hil0 hil1 hil2 rfl (by decide) _ g'.length (g'.flatMap encL) rfl HOWN.out _ 1 ([(⟨vs2, sl⟩ : Lv)].flatMap encL) rfl HSRC.out hm1 hm2 hbz ?_)
      intro v11 w11 hapd;have hgr := hapd.grown
      obtain ⟨hgo11, -⟩ := HGA.out.snoc (⟨vs2, sl⟩ : Lv) HLA.out.own HNB.out
       (fun L0 h0 x hx => (HOA.out L0 h0 x hx).vt (HGA.out.nm L0 h0 x hx).2.2 (fun k hk e => own_type (HOA.out L0 h0 x hx).1 HLA.out.own (by decide) k hk e) (fun k hk e => own_type (HOA.out L0 h0 x hx).2 HLA.out.own (by decide) k hk e))
       (fun x hx => (HLA.out.ov x hx).1.vt (HLA.out.ov x hx).2 (fun k hk => ⟨HGA.out.ov_ne (HLA.out.ov x hx).1.1 (by decide) (by decide) k hk, fun e => own_type (HLA.out.ov x hx).1.1 HLA.out.own (by decide) k hk e⟩) (fun k hk => ⟨HGA.out.ov_ne (HLA.out.ov x hx).1.2 (by decide) (by decide) k hk, fun e => own_type (HLA.out.ov x hx).1.2 HLA.out.own (by decide) k hk e⟩))
       rfl rfl rfl rfl hapd
      have hgxs : gxs (g' ++ [⟨vs2, sl⟩]) = gxs g ++ [levP vx ps cnt] := by
       have e1 : gxs (g' ++ [⟨vs2, sl⟩]) = gxs g' ++ [vxs vs2] := (by simp [gxs]);rw [e1, HGX.out, hX2.out, HRN.out]
      have hvl1 : (gxs g)[(gxs g).length - 1]! = vx := by rw [gxs_len, <- HN.out, HLG.out.2, HVX.out]
      have hkl2 : (keyL vx ps cnt).length <= 100000 := by
       have h1 := keyL_len vx ps cnt;have h2 := HAL.out;have h3 := HPN.out;have h4 := HVN.out;rw [h4] at h1;omega
      have hpg := enter_pg HPR.out (by rw [gxs_len, <- HN.out]; exact hN1) (fun l hl => by
       obtain ⟨L0, h0, rfl⟩ := List.mem_map.1 hl
       rw [vxs_len]; exact HLN.out L0 h0) ps cnt (by rw [hvl1]; exact hkl2)
      rw [hvl1] at hpg;have hprn := rprune_any w11 w.heap.size v11 (g' ++ [⟨vs2, sl⟩]) hgo11 (by rw [hgxs]; exact hpg) (by rw [List.length_append, HGLN.out]; simp; omega);have HB11 := Bx.mk (show Below w.heap.size w w11 from ((hB2.out.trans (HB8.out.mono HZC.out)).trans (HBA.out.mono (Nat.le_trans HZC.out HB8.out.size))).grown hgr HBZ.out fun j hj => (HGA.out.own.lt j hj).1);have HGS := Bx.mk hgxs;have HGL11 := Bx.mk (fun j => hgo11.lt (k := j));obtain ⟨va, vc, rfl, -⟩ := hgo11.own.rd.form;obtain ⟨N1, hN1l⟩ : ∃ n, n = (g' ++ [(⟨vs2, sl⟩ : Lv)]).length := ⟨_, rfl⟩
      rw [<- hN1l] at hprn HGL11 |-;clear hN1l;clear hgr hgo11 hgxs hvl1 hpg hapd hm1 hm2 hbz hkl2;go_wp2_with fail
      go_at_call 58;refine hprn.mono ?_;rintro e w12 ⟨v12, g12, rfl, hgo12, hgx12, hfr12, -, hnk12⟩
      have HNQ12 := Bx.mk (hnk12 w.heap.size HB11.out.size (fun L0 h0 => by
       rcases List.mem_append.1 h0 with q | q
       ·exact fun x hx k hk => Nat.le_trans HZC.out ((HOA.out L0 q x hx).nq k hk)
       ·rw [zS] at q; subst q
        exact fun x hx => (HLA.out.ov x hx).1.nq))
      clear hprn;have hb12 : Below w.heap.size w11 w12 := hfr12.below (fun j hj => (HGL11.out j hj).1) HB11.out.size;have HB12 := Bx.mk (show Below w.heap.size w w12 from HB11.out.trans hb12);have HG12 := Bx.mk hgo12;have HX12 := Bx.mk (show gxs g12 = R.1 by rw [hgx12, HGS.out, HRF.out, HRN.out]);obtain ⟨xa, xc, rfl, -⟩ := hgo12.own.rd.form;clear hgo12 hgx12 hfr12 hb12 hnk12;go_wp2_with fail
      go_ret2;exact ⟨_, g12, by rw [HRF.out]; rfl, HG12.out, HX12.out, HB12.out, HNQ12.out⟩
end Go.Proofs.YtmagjdocondmhaaGreat.Tr.Gr
namespace Go.Proofs.YtmagjdocondmhaaGreat.Tr.Gr
open Go Go.RowKit Slc St Mp Tr Rg
theorem GO.setL3 {w0 w : World} {B : Nat} {v : Value} {g : List Lv} (h : GO w0 B v g) (hB : B <= w0.heap.size) (i : Nat) (hi : i < g.length) (hb : Below w0.heap.size w0 w) (L' : Lv) (hL : Slc.Own w w0.heap.size 65 3 encV L'.s.val L'.vs)
  (hx : ∀ x ∈ L'.vs, VtIn w (fun k => ¬ GB v g k /\ L'.s.val.ownBlock ≠ some k) x) :
  ∃ gb cap, v = .slice (some ⟨gb, 0, none⟩) g.length cap /\ (∀ j, w.frozen? ⟨gb, j, none⟩ = false) /\ w.cell? ⟨gb, i, none⟩ = some (g[i]).s.val /\ GStep w0 B v g (w.setCell ⟨gb, i, none⟩ L'.s.val) (g.set i L') := by
 have hG := h.below hb;have hnew : ∀ k, L'.s.val.ownBlock = some k -> w0.heap.size <= k := fun k hk => (hL.lt k hk).1
 obtain ⟨gb, cap, hv, hlt, hfr, hgo, hgr⟩ := hG.setL i hi L' (hL.mono hB)
  (fun k hk => ⟨fun e => by have := (h.lt (k := k) (.inl e)).2; have := hnew k hk; omega, fun j hj _ e => by have := (h.lt (k := k) (.inr ⟨_, zM hj, e⟩)).2; have := hnew k hk; omega⟩)
  (fun j hj _ x hxm => (VtIn.below (h.nm _ (zM hj) x hxm).at_ hb).mono fun k _ hk e => by have := hnew k e; omega)
  (fun x hxm => (hx x hxm).mono fun k _ hk hn => by
   rcases GB.set hn with q | q
   ·exact hk.1 q
   ·exact hk.2 q)
 have hc : w.cell? ⟨gb, i, none⟩ = some (g[i]).s.val := by
  have h2 := hG;rw [hv] at h2;obtain ⟨gb2, he, hc, -⟩ := h2.cellL i hi;simp only [zO, Addr.mk.injEq, and_true] at he
  subst he; exact hc
 refine ⟨gb, cap, hv, hfr, hc, hgo, (Fr.of_below (S := GB v g) hb).trans (Fr.of_grown (S := GB v g) hgr fun k hk => ?_) (fun _ _ q => q), fun k hk => ?_⟩
 ·simp only [zO] at hk; subst hk; exact .inl (by rw [hv]; rfl)
 ·rcases GB.set hk with q | q
  ·exact .inl q
  ·exact .inr (hnew k q)
theorem rmS_par {ms : List (B × B)} {ok : Bool} {above : Int} {l : List Vx} {p : B} {v : Vx} (h : v ∈ rmS ms ok above l p) : (∃ u ∈ l, v.par = u.par) \/ (0 <= fndP l anyP /\ v.par = [above]) := by
 unfold rmS at h;split at h
 ·rename_i h0
  obtain ⟨k, hk, he, -⟩ := fndP_some h0;split at h
  ·rcases List.mem_or_eq_of_mem_set h with q | rfl
   ·exact .inl ⟨v, q, rfl⟩
   ·left
    refine ⟨l[k]!, ?_, ?_⟩
    ·rw [getElem!_pos l k hk]; exact zM hk
    ·rw [he, Int.toNat_natCast]
  ·exact .inl ⟨v, delL_mem h, rfl⟩
 ·split at h
  ·rename_i h1
   rw [Bool.and_eq_true, decide_eq_true_eq] at h1;rcases insV_mem h with q | rfl
   ·exact .inl ⟨v, q, rfl⟩
   ·exact .inr ⟨h1.2, rfl⟩
  ·exact .inl ⟨v, h, rfl⟩
theorem rmS_any {ms : List (B × B)} {ok : Bool} {above : Int} {l : List Vx} {p : B} (hp : p ≠ anyP) (h : 0 <= fndP (rmS ms ok above l p) anyP) : 0 <= fndP l anyP := by
 unfold rmS at h;split at h
 ·rename_i h0
  obtain ⟨k, hk, he, -, -⟩ := fndP_some h0;split at h
  ·rw [he, Int.toNat_natCast] at h;rw [fndP_pols (set_pols hk (x := ⟨(l[k]!).pol, subL ms p, (l[k]!).par⟩) rfl) anyP] at h;exact h
  ·obtain ⟨v, hv, hq⟩ := fndP_iff.1 h;exact fndP_has (delL_mem hv) hq
 ·split at h
  ·obtain ⟨v, hv, hq⟩ := fndP_iff.1 h;rcases insV_mem hv with q | rfl
   ·exact fndP_has q hq
   ·exact absurd hq hp
  ·exact h
theorem rmL_par {ms : List (B × B)} {ok : Bool} {above : Int} : ∀ {ks : List B} {l : List Vx} {v : Vx}, anyP ∉ ks -> v ∈ rmL ms ok above l ks -> (∃ u ∈ l, v.par = u.par) \/ (0 <= fndP l anyP /\ v.par = [above])
 | [], l, v, _, h => .inl ⟨v, h, rfl⟩
 | p :: ks, l, v, ha, h => by
  have hp : p ≠ anyP := fun e => ha (e ▸ List.mem_cons_self)
  rcases rmL_par (ks := ks) (l := rmS ms ok above l p) (fun q => ha (List.mem_cons_of_mem _ q)) h with ⟨u, hu, e⟩ | ⟨q1, q2⟩
  ·rcases rmS_par hu with ⟨u', hu', e'⟩ | ⟨q1, q2⟩
   ·exact .inl ⟨u', hu', e.trans e'⟩
   ·exact .inr ⟨q1, e.trans q2⟩
  ·exact .inr ⟨rmS_any hp q1, q2⟩
theorem rm_pg {g : List (List Vx)} (h : gvalidB g = true) {n : Nat} (hg : n + 2 = g.length) (hl : ∀ l ∈ g, l.length <= 50000) (ms : List (B × B)) (ok : Bool) {ks : List B} (hk : ks.length <= 50000) (ha : anyP ∉ ks) :
  PG (g.set (n + 1) (rmL ms ok (fndP g[n]! anyP) g[n + 1]! ks)) := by
 have hpg := gvalid_pg h fun l hl' => by have := hl l hl'; omega
 have hll : (g[n + 1]!).length <= 50000 := hl _ (by rw [getElem!_pos g (n + 1) (by omega)]; exact zM _);refine hpg.setLast hg ?_ fun v hv p hp => ?_
 ·have := rmL_len ms ok (fndP g[n]! anyP) ks g[n + 1]!;omega
 ·rcases rmL_par ha hv with ⟨u, hu, e⟩ | ⟨q1, q2⟩
  ·rw [e] at hp; exact hpg.par n (by omega) u hu p hp
  ·rw [q2, zS] at hp;subst hp;have h3 := gvalid_star h (by omega) q1;exact ⟨h3, fndP_lt h3⟩
theorem set_self_get {g : List (List Vx)} {k : Nat} (hk : k < g.length) : g.set k g[k]! = g := by
 rw [getElem!_pos g k hk]; exact List.set_getElem_self hk
attribute [local go_sem] Oper.semAt_some
def belV (ab : List Vx) (v : Vx) : Bool := v.par.any fun q => specV ab[q.toNat]!
theorem rbelow_any (w : World) (v : Value) (g : List Lv) (h : GQ w v g) (hn : g.length <= 100000) (i k : Nat) (hi : i + 1 < g.length) (hk : k < (g[i + 1]).vs.length) (hp : ∀ q ∈ ((g[i + 1]).vs[k]).n.par, 0 <= q /\ q < (((g[i]).vs.length : Nat) : Int)) :
  Calls Tryz.prog 76 #[v, .int .i64 ((i + 1 : Nat) : Int), .int .i64 k] w fun e w' => e = .returned (.bool (belV (vxs (g[i]).vs) ((g[i + 1]).vs[k]).n)) /\ Below w.heap.size w w' := by
 obtain ⟨ad, c, rfl, -⟩ := h.rd.form;obtain ⟨b, o, rfl, -, -⟩ := h.at1 w (Below.refl _ _) i (by omega);have HC0 := Bx.mk (fun (W : World) (hW : Below w.heap.size w W) => h.at1' W hW i (by omega));have HC1 := Bx.mk (fun (W : World) (hW : Below w.heap.size w W) => h.at1' W hW (i + 1) hi);have HVA := Bx.mk (h.lv _ (zM (show i < g.length by omega)));have HVL := Bx.mk (h.lv _ (zM hi));obtain ⟨A, hA⟩ : ∃ L, L = g[i] := ⟨_, rfl⟩
 obtain ⟨L, hL⟩ : ∃ L, L = g[i + 1] := ⟨_, rfl⟩
 simp only [<- hA, <- hL] at HC0 HC1 HVA HVL hk hp |-
 obtain ⟨aa, ac, has, -⟩ := HVA.out.rd.form;obtain ⟨la, lc, hls, -⟩ := HVL.out.rd.form;rw [has] at HC0 HVA;rw [hls] at HC1 HVL;obtain ⟨lb, lo, rfl, -, -⟩ := HVL.out.at3 w (Below.refl _ _) k hk;have HX := Bx.mk (fun (W : World) (hW : Below w.heap.size w W) => (HVL.out.at3' W hW k hk).2.2);have HAX := Bx.mk (HVL.out.at_ _ (zM hk)).2.1;have hPo := (HVL.out.at_ _ (zM hk)).2.2.2.2;obtain ⟨x, hx⟩ : ∃ x, x = L.vs[k] := ⟨_, rfl⟩
 simp only [<- hx] at HX HAX hPo hp |-
 obtain ⟨pa, pc, hpq, -⟩ := RqIn.form HAX.out;obtain ⟨PN, hPN⟩ : ∃ n, n = x.n.par.length := ⟨_, rfl⟩
 have HPN := Bx.mk hPN;rw [hpq, <- hPN] at HX;have HPR := Bx.mk (show Ri w (.slice pa PN pc) x.n.par by rw [hPN, <- hpq]; exact HAX.out);have hPb : PN <= 100000 := by omega
 obtain ⟨N, hN⟩ : ∃ N, N = g.length := ⟨_, rfl⟩
 obtain ⟨M, hM⟩ : ∃ M, M = L.vs.length := ⟨_, rfl⟩
 obtain ⟨AN, hAN⟩ : ∃ n, n = A.vs.length := ⟨_, rfl⟩
 have HAN := Bx.mk hAN;have HP := Bx.mk hp;rw [<- hN] at hn hi |-;rw [<- hM] at hk HVL HC1;rw [<- hAN] at HVA HC0 HP;have wi : IntKind.i64.wrap (((i + 1 : Nat) : Int) - 1) = (i : Int) := by rw [IntWalk.i64_in _ (by omega)]; omega
 obtain ⟨I, hI⟩ : ∃ I, I = i + 1 := ⟨_, rfl⟩
 rw [<- hI] at wi HC1 hi |-;have hiN : i < N := by omega
 obtain ⟨R, hR⟩ : ∃ R, R = belV (vxs A.vs) x.n := ⟨_, rfl⟩
 have HR := Bx.mk hR;rw [<- hR];have l1 := HC1.out w (Below.refl _ _);have x2 := HX.out w (Below.refl _ _);clear h hA hL has hls hx hPo hpq hPN hN hM hAN hp hI hR HAX HVL;go_enter Tryz.func76, Tryz.ntmps76;go_wp2_with fail
 clear l1 x2;go_loopw [8] (fun nv wr => ∃ n : Nat, n <= PN /\ nv = .int .i64 n /\ Bx (∀ j, j < n -> specV (vxs A.vs)[(x.n.par[j]!).toNat]! = false) /\ Bx (Below w.heap.size w wr)) (fun nv _ => PN - (intOf nv).toNat)
 case atStart => exact ⟨0, by omega, rfl, ⟨fun j hj => by omega⟩, ⟨Below.refl _ _⟩⟩
 case round =>
  obtain ⟨n, hn2, rfl, hF, hB⟩ := hrel;by_cases hlt : n < PN
  ·have hnl : n < x.n.par.length := by rw [<- HPN.out]; exact hlt
   obtain ⟨pb, po, rfl, -, -⟩ := HPR.out.cells w (Below.refl _ _) n hnl;have hq := HP.out _ (zM hnl);obtain ⟨q, hqq⟩ : ∃ q : Nat, x.n.par[n] = (q : Int) := ⟨(x.n.par[n]).toNat, by omega⟩
   rw [hqq] at hq;have hqA : q < AN := by omega
   have hql : q < A.vs.length := by rw [<- HAN.out]; exact hqA
   obtain ⟨ab, ao, rfl, -, -⟩ := HVA.out.at3 w (Below.refl _ _) q hql;have hext := fun (e : Ext wr) => hB.out.trans (e.bel.mono hB.out.size)
   have g1 := fun (e : Ext wr) => HC0.out e.out (hext e)
   have d0 := fun (e : Ext wr) => HPR.out.at' e.out (hext e) n hnl
   simp only [hqq] at d0
   have a0 := fun (e : Ext wr) => (HVA.out.at3' e.out (hext e) q hql).1
   have hYE := vxs_at A.vs q hql;obtain ⟨y, hy⟩ : ∃ y, y = A.vs[q]'hql := ⟨_, rfl⟩
   rw [<- hy] at hYE;simp only [<- hy] at a0
   have l3 := same_any y.n.pol
   have HS := Bx.mk (show specV (vxs A.vs)[(x.n.par[n]!).toNat]! = decide (y.n.pol = anyP) by
    rw [getElem!_pos x.n.par n hnl, hqq, Int.toNat_natCast, hYE]; rfl)
   obtain ⟨S, hS⟩ : ∃ S, S = decide (y.n.pol = anyP) := ⟨_, rfl⟩
   rw [<- hS] at l3 HS;have HM := Bx.mk (zM hnl);have HE := Bx.mk (getElem!_pos x.n.par n hnl);clear hqq hq hy hS hYE hql hext;go_upto_region 5 with fail
   refine wp_region_self (by kernel_rfl) (by kernel_rfl) ?_
   repeat (go_big_quiet_step (fail))
   refine wpQuiet_nil ?_;rintro _ ⟨e1, rfl⟩;have HB1 := Bx.mk (hB.out.trans (e1.bel.mono hB.out.size));obtain ⟨w1, hw1⟩ : ∃ w1, w1 = e1.out := ⟨_, rfl⟩
   rw [<- hw1] at HB1 |-;clear g1 d0 a0 l3 hw1 hB
   cases S with
   | true =>
    have HF := Bx.mk (show R = true by
     rw [HR.out]; unfold belV
     rw [List.any_eq_true]
     exact ⟨_, HM.out, by rw [<- HE.out]; exact HS.out⟩)
    clear HM HE hnl;go_wp2_with fail
    go_ret
    exact ⟨by rw [HF.out]; rfl, HB1.out⟩
   | false =>
    have HF2 := Bx.mk (show ∀ j, j < n + 1 -> specV (vxs A.vs)[(x.n.par[j]!).toNat]! = false from fun j hj => by
     rcases Nat.lt_or_ge j n with e | e
     ·exact hF.out j e
     ·obtain rfl : j = n := by omega
      exact HS.out)
    clear HM HE hnl;go_wp2_with fail
    go_roundw
    case rel => exact ⟨n + 1, by omega, by go_num, HF2, HB1⟩
    case measure => simp [intOf]; omega
  ·obtain rfl : n = PN := by omega
   have HF := Bx.mk (show R = false by
    rw [HR.out]; unfold belV
    rw [List.any_eq_false];intro q hq;obtain ⟨j, hj, rfl⟩ := List.getElem_of_mem hq;have := hF.out j (by rw [HPN.out]; exact hj);rw [getElem!_pos x.n.par j hj] at this
    rw [this]; simp)
   go_wp2_with fail
   go_ret;exact ⟨by rw [HF.out]; rfl, hB.out⟩
def polV (g : List (List Vx)) (k : Nat) (v : Vx) : Bool := (decide (0 <= fndP g[k - 1]! anyP) && decide (fndP g[k - 1]! anyP ∈ v.par)) && (!specV v || decide (k = g.length - 1))
def polL (g : List (List Vx)) (k : Nat) : List B := (List.range k).flatMap fun i => if i = 0 then [] else ((g[i]!).filter (polV g i)).map (·.pol)
def polM (g : List (List Vx)) (k j : Nat) : List B := polL g k ++ (((g[k]!).take j).filter (polV g k)).map (·.pol)
theorem polM_zero (g : List (List Vx)) (k : Nat) : polM g k 0 = polL g k := by simp [polM]
theorem polM_all (g : List (List Vx)) (k : Nat) (hk : 0 < k) : polM g k (g[k]!).length = polL g (k + 1) := by
 unfold polM polL;rw [List.take_length, List.range_succ, List.flatMap_append];simp [show ¬ k = 0 by omega]
theorem polM_succ (g : List (List Vx)) (k j : Nat) (hj : j < (g[k]!).length) : polM g k (j + 1) = polM g k j ++ if polV g k (g[k]!)[j]! then [((g[k]!)[j]!).pol] else [] := by
 unfold polM;generalize g[k]! = l at hj |-;rw [zA hj, List.filter_append, List.map_append, List.append_assoc, getElem!_pos l j hj];congr 2
 cases h : polV g k l[j] <;> simp [List.filter_cons, h]
theorem polL_one (g : List (List Vx)) : polL g 1 = [] := by simp [polL]
theorem polL_zero (g : List (List Vx)) : polL g 0 = [] := by simp [polL]
def gpolP (g : List (List Vx)) : List B := if gvalidB g then setB (polL g g.length) else []
end Go.Proofs.YtmagjdocondmhaaGreat.Tr.Gr
namespace Go.Proofs.YtmagjdocondmhaaGreat.Tr.Gr
open Go Go.RowKit Slc St Mp Tr Rg
theorem bel_fnd {ab : List Vx} {v : Vx} (ho : OrdP ab) (hp : ∀ q ∈ v.par, 0 <= q /\ q < (ab.length : Int)) : belV ab v = (decide (0 <= fndP ab anyP) && decide (fndP ab anyP ∈ v.par)) := by
 unfold belV;by_cases h : 0 <= fndP ab anyP
 ·obtain ⟨k, hk, he, hpk, -⟩ := fndP_some h;rw [zT h, Bool.true_and, he];by_cases hm : (k : Int) ∈ v.par
  ·rw [zT hm, List.any_eq_true];exact ⟨_, hm, by rw [Int.toNat_natCast]; exact zT hpk⟩
  ·rw [zF hm, List.any_eq_false];intro q hq hs;obtain ⟨h0, h1⟩ := hp q hq;have hs' : (ab[q.toNat]!).pol = anyP := of_decide_eq_true hs;have := ord_one ho (i := q.toNat) (j := k) (by omega) hk (by rw [hs', hpk]);exact hm (by rw [<- this, Int.toNat_of_nonneg h0]; exact hq)
 ·rw [zF h, Bool.false_and, List.any_eq_false];intro q hq hs;obtain ⟨h0, h1⟩ := hp q hq;exact fndP_none (by omega) q.toNat (by omega) (of_decide_eq_true hs)
theorem fit_bel {ab : List Vx} {v : Vx} (h : gfitB v ab = true) (hs : specV v = true) : belV ab v = true := by
 unfold gfitB at h;rw [hs] at h;simp only [if_true, Bool.and_eq_true, decide_eq_true_eq] at h
 obtain ⟨-, h1, h2, -⟩ := h;unfold belV;rw [List.any_eq_true];refine ⟨v.par[0]!, ?_, h2⟩;rw [getElem!_pos v.par 0 (by omega)];exact zM _
theorem pol_bel {g : List (List Vx)} (hv : gvalidB g = true) (k : Nat) (hk : k + 1 < g.length) {v : Vx} (hm : v ∈ g[k + 1]!) : polV g (k + 1) v = ((!specV v && belV g[k]! v) || (specV v && decide (k + 1 = g.length - 1))) := by
 have ho := (valid_pv hv).ord k;have hf := (gvalid_at hv k hk).2 v hm
 have hp : ∀ q ∈ v.par, 0 <= q /\ q < ((g[k]!).length : Int) := bad_in (by
  unfold gfitB at hf;rw [Bool.and_eq_true] at hf
  simpa using hf.1)
 have hb := bel_fnd ho hp;unfold polV;rw [show k + 1 - 1 = k by omega, <- hb]
 cases hs : specV v with
 | true => rw [fit_bel hf hs]; simp
 | false => simp
end Go.Proofs.YtmagjdocondmhaaGreat.Tr.Gr
