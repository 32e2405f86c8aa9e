/- packed -/
import Derived.Test.YtmagjdocondmhaaGreatPkLk16
set_option linter.unusedVariables false
set_option linter.unusedSimpArgs false
set_option maxRecDepth 100000
set_option maxHeartbeats 64000000
namespace Go.Proofs.YtmagjdocondmhaaGreat.Tr.Gr
open Go Go.RowKit Slc St Mp Tr Rg
attribute [local go_sem] Oper.semAt_some
theorem wantF_any (w : World) (x st : Int) (qd : Nat) (hq : w.cell? ⟨qd, 0, none⟩ = some (.int .i64 st)) :
  Calls Tryz.prog 108 #[.int .i64 x, .pointer (some ⟨qd, 0, none⟩)] w fun e w' => e = .returned (.bool (decide (x = st))) /\ w = w' := by
 have l3 : (x == st) = decide (x = st) := rfl;obtain ⟨R, hR⟩ : ∃ R, R = decide (x = st) := ⟨_, rfl⟩
 rw [<- hR] at l3 |-;clear hR;go_enter Tryz.func108, Tryz.ntmps108;go_wp2_with fail
 go_ret;exact ⟨rfl, rfl⟩
theorem idxI_any (w : World) (Bk : Nat) (v : Value) (l : List Int) (h : Slc.Own w Bk 3 1 encI v l) (hn : l.length <= 100000) (st : Int) (qd : Nat) (hq : w.cell? ⟨qd, 0, none⟩ = some (.int .i64 st)) :
  Calls Tryz.prog 126 #[v, .func (.func 108) #[] #[.pointer (some ⟨qd, 0, none⟩)]] w fun e w' => e = .returned (.int .i64 (idxG l fun n => decide (n = st))) /\ w = w' := by
 have hri : Ri w v l := .inr ⟨h.rd, h.rd.lt⟩;obtain ⟨ad, c, rfl, -⟩ := h.rd.form;have HC := Bx.mk (hri.cells w (Below.refl _ _));obtain ⟨R, hR⟩ : ∃ R, R = idxG l fun n => decide (n = st) := ⟨_, rfl⟩
 rw [<- hR];have HR := Bx.mk hR;obtain ⟨N, hN⟩ : ∃ N, N = l.length := ⟨_, rfl⟩
 have HN := Bx.mk hN;rw [<- hN] at hn |-;have HW := Bx.mk (fun x => wantF_any w x st qd hq);clear h hri hR hN hq;have eg : ∀ args W, (callFunc 108 args).run Tryz.prog W = .ok (.enter 108 args) W := enters_of Tryz.func108 (by kernel_rfl) rfl
 go_enter Tryz.func126, Tryz.ntmps126;go_wp2_with fail
 go_loopw [8] (fun i wr => ∃ k : Nat, k <= N /\ i = .int .i64 k /\ Bx (∀ j, j < k -> decide (l[j]! = st) = false) /\ wr = w) (fun i _ => N - (intOf i).toNat)
 case atStart => exact ⟨0, by omega, rfl, ⟨fun j hj => by omega⟩, rfl⟩
 case round =>
  obtain ⟨k, hk, rfl, hF, rfl⟩ := hrel;by_cases hlt : k < N
  ·have hkl : k < l.length := by rw [<- HN.out]; exact hlt
   obtain ⟨b, o, rfl, -, c0⟩ := HC.out k hkl;have HX := Bx.mk (show l[k]! = l[k] from getElem!_pos l k hkl);obtain ⟨x, hx⟩ : ∃ x, x = l[k]'hkl := ⟨_, rfl⟩
   rw [<- hx] at c0 HX;have hcf := HW.out x;obtain ⟨r, hr⟩ : ∃ r, r = decide (x = st) := ⟨_, rfl⟩
   rw [<- hr] at hcf;have HRX := Bx.mk hr;clear hx hr;go_wp2_with fail
   go_at_call 108;refine hcf.mono ?_;rintro e w2 ⟨rfl, rfl⟩;clear hcf c0
   cases r with
   | true =>
    have HF2 := Bx.mk (show R = (k : Int) by rw [HR.out]; exact idxG_eq hkl (by rw [HX.out]; exact HRX.out.symm) hF.out);clear hkl;go_wp2_with fail
    go_ret
    exact ⟨by rw [HF2.out]; rfl, rfl⟩
   | false =>
    clear hkl;go_wp2_with fail
    go_roundw
    case rel => exact ⟨k + 1, by omega, by go_num, ⟨fun j hj => by
     by_cases e : j = k
     ·subst e; rw [HX.out]; exact HRX.out.symm
     ·exact hF.out j (by omega)⟩, trivial⟩
    case measure => simp [intOf]; omega
  ·obtain rfl : N = k := by omega
   have HF2 := Bx.mk (show R = -1 by rw [HR.out]; exact idxG_no fun i hi => hF.out i (by rw [<- HN.out] at hi; exact hi));go_wp2_with fail
   go_ret;exact ⟨by rw [HF2.out]; rfl, rfl⟩
theorem gdelI_any (w : World) (Bk : Nat) (v : Value) (l : List Int) (h : Slc.Own w Bk 3 1 encI v l) (hn : l.length <= 100000) (st : Int) (qd : Nat) (hq : w.cell? ⟨qd, 0, none⟩ = some (.int .i64 st)) (hql : qd < w.heap.size) (hqv : v.ownBlock ≠ some qd) :
  Calls Tryz.prog 107 #[v, .func (.func 108) #[] #[.pointer (some ⟨qd, 0, none⟩)]] w fun e w' => ∃ v', e = .returned v' /\ v'.ownBlock = v.ownBlock /\ Slc.Own w' Bk 3 1 encI v' (l.filter fun x => !decide (x = st)) /\ w.grownBy w' v.ownBlock := by
 obtain ⟨p, hp⟩ : ∃ p : Int -> Bool, p = fun x => !decide (x = st) := ⟨_, rfl⟩
 have HP := Bx.mk hp;rw [<- hp];clear hp;have hix := idxI_any w Bk v l h hn st qd hq;obtain ⟨ad, c, rfl, hlc⟩ := h.rd.form;have HO := Bx.mk h;obtain ⟨N, hN⟩ : ∃ N, N = l.length := ⟨_, rfl⟩
 have HN := Bx.mk hN;obtain ⟨I0, hI⟩ : ∃ I, I = idxG l (fun n => decide (n = st)) := ⟨_, rfl⟩
 rw [<- hI] at hix;have HI := Bx.mk hI;have HQ := Bx.mk hq;have HQL := Bx.mk hql;rw [<- hN] at hn hix hlc hqv |-;have HQV := Bx.mk hqv;have HLC := Bx.mk hlc;clear h hN hI hq hql hqv;have eg : ∀ args W, (callFunc 108 args).run Tryz.prog W = .ok (.enter 108 args) W := enters_of Tryz.func108 (by kernel_rfl) rfl
 go_enter Tryz.func107, Tryz.ntmps107;go_wp2_with fail
 go_at_call 126;refine hix.mono ?_;rintro e w1 ⟨rfl, rfl⟩;clear hix;by_cases hi0 : I0 = -1
 ·have t12 : (I0 == -1) = true := by rw [hi0]; rfl
  have HF := Bx.mk (show l.filter p = l by
   rw [HP.out, List.filter_eq_self];intro x hxm;obtain ⟨i, hi, rfl⟩ := List.getElem_of_mem hxm;have := idxG_neg (t := l) (f := fun n => decide (n = st)) (by rw [<- HI.out, hi0]; omega) i hi;rw [getElem!_pos l i hi] at this
   rw [this]; rfl)
  clear hi0;go_wp2_with fail
  go_ret;refine ⟨_, rfl, rfl, by rw [HF.out]; rw [HN.out]; exact HO.out, ⟨rfl, rfl, rfl, zR _, fun _ _ _ => rfl⟩⟩
 ·have t12 : (I0 == -1) = false := by simp [hi0]
  have hnn : 0 <= idxG l (fun n => decide (n = st)) := by
   rcases Int.lt_or_le (idxG l (fun n => decide (n = st))) 0 with q1 | q1
   ·exfalso
    apply hi0
    rw [HI.out];exact idxG_no (idxG_neg q1)
   ·exact q1
  obtain ⟨k0, hk0, hk0e, hk0t, hk0n⟩ := idxG_some hnn;rw [<- HI.out] at hk0e;subst hk0e;have hp := HP.out;obtain ⟨hfl, hfd⟩ := delJ_first p l k0 hk0 (by rw [hp]; show (!decide (l[k0]! = st)) = false; rw [hk0t]; rfl) (fun j hj => by rw [hp]; show (!decide (l[j]! = st)) = true; rw [hk0n j hj]; rfl);have hown := HO.out;rcases hown.2 with ⟨h0, hn0⟩ | ⟨g, cap, cur, hv, hB, -, -⟩
  ·exact absurd hn0 (by omega)
  simp only [Value.slice.injEq] at hv
  obtain ⟨rfl, -, rfl⟩ := hv;rw [<- HN.out] at hown;have HG0 := Bx.mk (show w.grownBy w (some g) from ⟨rfl, rfl, rfl, zR _, fun _ _ _ => rfl⟩);have HO1 := Bx.mk (show Slc.Own w Bk 3 1 encI (.slice (some ⟨g, 0, none⟩) N c) (delJ p l (k0 + 1)) by rw [hfd]; exact hown);have HI1 := Bx.mk (show k0 = ((l.take (k0 + 1)).filter p).length by rw [hfl, List.length_take]; omega);have hk0N : k0 < N := by rw [HN.out]; exact hk0
  have HGQ := Bx.mk (show g ≠ qd from fun e => HQV.out (by rw [e]; rfl));clear hnn hk0 hk0t hk0n hp hfl hfd hown hB hi0;go_wp2_with fail
  go_loopw [5, 6] (fun iv jv wr => ∃ (i j : Nat), i < j /\ j <= N /\ iv = .int .i64 i /\ jv = .int .i64 j /\ Bx (i = ((l.take j).filter p).length) /\ Bx (Slc.Own wr Bk 3 1 encI (.slice (some ⟨g, 0, none⟩) N c) (delJ p l j)) /\ Bx (w.grownBy wr (some g))) (fun _ jv _ => N - (intOf jv).toNat)
  case atStart => exact ⟨k0, k0 + 1, by omega, by omega, rfl, by go_num, HI1, HO1, HG0⟩
  case round =>
   clear HI1 HO1 HG0;obtain ⟨i, j, hij, hj, rfl, rfl, hI, hO, hG⟩ := hrel;by_cases hlt : j < N
   ·have hjl : j < l.length := by rw [<- HN.out]; exact hlt
    have hjd : j < (delJ p l j).length := (by rw [delJ_len p l j (by omega)]; exact hjl);have hat := delJ_at p l j hjl hjd;have c0 := hO.out.cell encI_ok j hjd 0 (by omega) (.int .i64 l[j]) (by rw [hat]; rfl);rw [Nat.add_zero, Nat.mul_one] at c0;have HYES := Bx.mk (delJ_yes p l j hjl);have HNO := Bx.mk (delJ_no p l j hjl);have HPX := Bx.mk (show p l[j] = !decide (l[j] = st) by rw [HP.out]);obtain ⟨x, hx⟩ : ∃ x, x = l[j]'hjl := ⟨_, rfl⟩
    rw [<- hx] at c0 HYES HNO HPX;obtain ⟨r, hr⟩ : ∃ r, r = decide (x = st) := ⟨_, rfl⟩
    have hqw := (hG.out.block qd HQL.out (by simp only [ne_eq, zO]; exact fun e => HGQ.out e.symm))
    have hq2 : wr.cell? ⟨qd, 0, none⟩ = some (.int .i64 st) := by
     have h2 := HQ.out;unfold World.cell? at h2 |-;rw [hqw]; exact h2
    have hcf := wantF_any wr x st qd hq2;rw [<- hr] at hcf HPX;clear hx hr hqw hq2 hat hjd hjl;go_wp2_with fail
    go_at_call 108;refine hcf.mono ?_;rintro e w3 ⟨rfl, rfl⟩;clear hcf
    cases r with
    | true =>
     have he := HNO.out (by rw [HPX.out]; rfl);have HI2 := Bx.mk (show i = ((l.take (j + 1)).filter p).length by rw [he]; exact hI.out)
     have HO4 := Bx.mk (show Slc.Own wr Bk 3 1 encI (.slice (some ⟨g, 0, none⟩) N c) (delJ p l (j + 1)) by
      have : delJ p l (j + 1) = delJ p l j := by unfold delJ; rw [he]
      rw [this]; exact hO.out)
     clear he;go_wp2_with fail
     go_roundw
     case rel => exact ⟨i, j + 1, by omega, by omega, rfl, by go_num, HI2, HO4, hG⟩
     case measure => simp [intOf]; omega
    | false =>
     obtain ⟨he, hset⟩ := HYES.out (by rw [HPX.out]; rfl);have HI2 := Bx.mk (show i + 1 = ((l.take (j + 1)).filter p).length by rw [he, List.length_append, <- hI.out]; rfl);rw [<- hI.out] at hset;have hid : i < (delJ p l j).length := (by rw [delJ_len p l j (by rw [<- HN.out]; omega), <- HN.out]; omega);have d0 := hO.out.cell encI_ok i hid 0 (by omega) (.int .i64 (delJ p l j)[i]) rfl;rw [Nat.add_zero, Nat.mul_one] at d0;obtain ⟨u0, hu0⟩ : ∃ u, u = Value.int .i64 ((delJ p l j)[i]'hid) := ⟨_, rfl⟩
     rw [<- hu0] at d0;clear hu0;obtain ⟨g1, cap1, hv1, hB1, hlt1, hfr1, ho1, hg1⟩ := hO.out.set1 encI_ok i 0 hid (by omega) (.int .i64 x) x rfl;simp only [Value.slice.injEq, zO, Addr.mk.injEq, and_true] at hv1
     obtain ⟨rfl, -, rfl⟩ := hv1;rw [hset, Nat.add_zero, Nat.mul_one] at ho1;rw [Nat.add_zero, Nat.mul_one] at hg1;have HO5 := Bx.mk ho1;have HG5 := Bx.mk (grown_same hG.out hg1);clear ho1 hg1 hset he hid hB1;go_wp2_with fail
     go_roundw
     case rel => exact ⟨i + 1, j + 1, by omega, by omega, by go_num, by go_num, HI2, HO5, HG5⟩
     case measure => simp [intOf]; omega
   ·obtain rfl : j = N := by omega
    have hdl := delJ_len p l j (by rw [<- HN.out]; exact zR _)
    have hrow : ∃ cur, wr.heap[g]? = some (.cells cur 3 (0, 0)) /\ cur.size = c * 1 := by
     rcases hO.out.2 with ⟨h0, -⟩ | ⟨g', cap', cur', hv, -, hb, -, -, hcs, -⟩
     ·simp at h0
     ·simp only [Value.slice.injEq, zO, Addr.mk.injEq] at hv
      obtain ⟨⟨rfl, -⟩, -, rfl⟩ := hv;exact ⟨cur', hb, hcs⟩
    obtain ⟨cw, hrw, hrs⟩ := hrow;rw [Nat.mul_one] at hrs;have hcl := fun ty => Lib.run_clear_slice (P := Tryz.prog) wr 22 3 ty (.int .i64 0) und_ints Tryz.zeroValue3 rfl rfl g i (j - i) (c - i) (by omega) (fun r hr => by rw [cell_of_row _ _ _ _ _ _ hrw, Array.getElem?_eq_getElem (show i + r < cw.size by rw [hrs]; have := HLC.out; omega)]; rfl) (fun r hr => frozen_row hrw)
    obtain ⟨L, hL⟩ : ∃ L : List Value, L = List.replicate (j - i) (.int .i64 0) := ⟨_, rfl⟩
    rw [<- hL] at hcl;have hown := Own.head encI_ok hO.out i (by rw [hdl, <- HN.out]; omega) L;have hgr := setCells_grown g (i * 1) L wr;rw [Nat.mul_one] at hown hgr
    have HFO := Bx.mk (show Slc.Own (wr.setCells g i L) Bk 3 1 encI (.slice (some ⟨g, 0, none⟩) i c) (l.filter p) by
     have h1 := delJ_all p l;rw [<- HN.out, <- hI.out] at h1
     rw [<- h1]; exact hown)
    have HFG := Bx.mk (grown_same hG.out hgr);clear hown hgr hrw hrs hdl hL;go_wp2_with fail
    go_ret;exact ⟨_, rfl, rfl, HFO.out, HFG.out⟩
end Go.Proofs.YtmagjdocondmhaaGreat.Tr.Gr
namespace Go.Proofs.YtmagjdocondmhaaGreat.Tr.Gr
open Go Go.RowKit Slc St Mp Tr Rg
def hitV (star : Int) (v : Vx) : Bool := !specV v && decide (star ∈ v.par)
def wanV (ps : List B) (star : Int) (v : Vx) : Vx := if hitV star v && !decide (v.pol ∈ ps) then ⟨v.pol, v.ex, v.par.filter fun x => !decide (x = star)⟩ else v
def wanL (ps : List B) (star : Int) (l : List Vx) : List Vx := l.map (wanV ps star)
def hasL (ps : List B) (star : Int) (l : List Vx) : List B := (l.filter fun v => hitV star v && decide (v.pol ∈ ps)).map (·.pol)
def wanK (ps : List B) (g : List (List Vx)) (k : Nat) : List (List Vx) :=
 filtG (g.set k (wanL ps (fndP g[k - 1]! anyP) g[k]!)) k (marksA (wanL ps (fndP g[k - 1]! anyP) g[k]!))
def wanG (ps : List B) (g : List (List Vx)) : Nat -> List (List Vx)
 | 0 => g
 | n + 1 => wanK ps (wanG ps g n) (n + 1)
def hasG (ps : List B) (g : List (List Vx)) : Nat -> List B
 | 0 => []
 | n + 1 => hasG ps g n ++ hasL ps (fndP (wanG ps g n)[n]! anyP) (wanG ps g n)[n + 1]!
theorem wanK_len (ps : List B) (g : List (List Vx)) (k : Nat) : (wanK ps g k).length = g.length := by unfold wanK; rw [filtG_len, zL]
theorem wanG_len (ps : List B) (g : List (List Vx)) : ∀ n, (wanG ps g n).length = g.length
 | 0 => rfl
 | n + 1 => by rw [wanG, wanK_len, wanG_len ps g n]
theorem wanV_par {ps : List B} {star : Int} {v : Vx} {p : Int} (h : p ∈ (wanV ps star v).par) : p ∈ v.par := by
 unfold wanV at h;split at h
 ·exact (List.mem_filter.1 h).1
 ·exact h
theorem PG.setSub {g : List (List Vx)} (h : PG g) {k : Nat} {l : List Vx} (hk : k < g.length) (hl : l.length = (g[k]!).length) (hp : ∀ v ∈ l, ∀ p ∈ v.par, ∃ u ∈ g[k]!, p ∈ u.par) : PG (g.set k l) := by
 have hat : ∀ j, j < g.length -> (g.set k l)[j]! = if j = k then l else g[j]! := fun j hj => by
  rw [getElem!_pos _ j (by simpa using hj), List.getElem_set];by_cases e : k = j
  ·rw [if_pos e, if_pos e.symm]
  ·rw [if_neg e, if_neg (fun q => e q.symm), getElem!_pos g j hj]
 constructor
 ·intro j hj v hv p hpp;rw [zL] at hj;rw [hat (j + 1) hj] at hv;rw [hat j (by omega)]
  have hbd : 0 <= p /\ p < ((g[j]!).length : Int) := by
   by_cases e : j + 1 = k
   ·rw [if_pos e] at hv;obtain ⟨u, hu, hpu⟩ := hp v hv p hpp;rw [<- e] at hu;exact h.par j hj u hu p hpu
   ·rw [if_neg e] at hv;exact h.par j hj v hv p hpp
  by_cases e2 : j = k
  ·rw [if_pos e2, hl, <- e2]; exact hbd
  ·rw [if_neg e2]; exact hbd
 ·intro m hm;rcases List.mem_or_eq_of_mem_set hm with q | rfl
  ·exact h.len m q
  ·rw [hl, getElem!_pos g k hk]; exact h.len _ (zM hk)
theorem wan_sub {g : List (List Vx)} (h : PG g) {k : Nat} (hk : k < g.length) (ps : List B) (star : Int) : PG (g.set k (wanL ps star g[k]!)) := by
 refine h.setSub hk (by simp [wanL]) fun v hv p hp => ?_
 unfold wanL at hv;obtain ⟨u, hu, rfl⟩ := List.mem_map.1 hv;exact ⟨u, hu, wanV_par hp⟩
theorem wanG_pg {g : List (List Vx)} (h : PG g) (ps : List B) : ∀ n, n < g.length \/ n = 0 -> PG (wanG ps g n)
 | 0, _ => h
 | n + 1, hn => by
  have h1 := wanG_pg h ps n (by omega);rw [wanG];unfold wanK;exact (wan_sub h1 (by rw [wanG_len]; omega) ps _).filt (by rw [zL, wanG_len]; omega) _
structure PDG (w : World) (Bk U : Nat) (g : List Lv) : Prop where
 own : ∀ L ∈ g, ∀ x ∈ L.vs, Slc.Own w Bk 3 1 encI x.q.val x.n.par
 ap : ∀ L ∈ g, L.vs.Pairwise QA
 ab : ∀ (i j : Nat) (hi : i < g.length) (hj : j < g.length), i ≠ j -> ∀ x ∈ (g[i]).vs, ∀ y ∈ (g[j]).vs, QA x y
 ex : ∀ L ∈ g, ∀ x ∈ L.vs, ∀ L' ∈ g, ∀ y ∈ L'.vs, ∀ k, x.q.val.ownBlock = some k -> y.u.val.ownBlock ≠ some k
 ul : ∀ L ∈ g, ∀ x ∈ L.vs, ∀ k, x.u.val.ownBlock = some k -> k < U
theorem PD.pdg {w : World} {Bk : Nat} {g : List Lv} (h : PD w Bk (g.flatMap (·.vs))) : PDG w Bk w.heap.size g := by
 have hm : ∀ L ∈ g, ∀ x ∈ L.vs, x ∈ g.flatMap (·.vs) := fun L hL x hx => List.mem_flatMap.2 ⟨L, hL, hx⟩
 have hp := List.pairwise_flatMap.1 h.ap;refine ⟨fun L hL x hx => h.own x (hm L hL x hx), fun L hL => hp.1 L hL, fun i j hi hj hij x hx y hy => ?_, fun L hL x hx L' hL' y hy => h.ex x (hm L hL x hx) y (hm L' hL' y hy), fun L hL x hx => h.ul x (hm L hL x hx)⟩;have h2 := List.pairwise_iff_getElem.1 hp.2;rcases Nat.lt_or_gt_of_ne hij with q | q
 ·exact h2 i j hi hj q x hx y hy
 ·exact QA.symm (x := y) (y := x) (h2 j i hj hi q y hy x hx)
theorem PDG.keep {w w' : World} {Bk U : Nat} {g : List Lv} (h : PDG w Bk U g) (hb : ∀ L ∈ g, ∀ x ∈ L.vs, ∀ k, x.q.val.ownBlock = some k -> k < w.heap.size -> w'.heap[k]? = w.heap[k]?) : PDG w' Bk U g :=
 ⟨fun L hL x hx => (h.own L hL x hx).keep fun k hk hkl => hb L hL x hx k hk hkl, h.ap, h.ab, h.ex, h.ul⟩
theorem PDG.below {w w' : World} {Bk U : Nat} {g : List Lv} (h : PDG w Bk U g) (hb : Below w.heap.size w w') : PDG w' Bk U g := h.keep fun _ _ _ _ k _ hk => hb.block k hk
theorem keepT_sub {α : Type} [Inhabited α] (l : List α) (m : List Bool) : (keepT l m l.length).Sublist l := by
 unfold keepT;have h1 : ((List.range l.length).filter fun j => m[j]!).Sublist (List.range l.length) := List.filter_sublist;have h2 := h1.map (fun j => l[j]!)
 have e : (List.range l.length).map (fun j => l[j]!) = l := by
  apply List.ext_getElem
  ·simp
  ·intro i h1 h2;simp only [List.getElem_map, List.getElem_range]
   exact getElem!_pos l i h2
 rw [e] at h2; exact h2
theorem PDG.filt {w w' : World} {Bk U : Nat} {v : Value} {g g' : List Lv} {k : Nat} {m : List Bool} (h : PDG w Bk U g) (hg : GO w Bk v g) (hk : k < g.length) (hs : GStep w Bk v g w' g') (hf : FiltR w w' g g' k m) (hB : Bk <= w.heap.size) : PDG w' Bk U g' := by
 have key : ∀ (j : Nat) (hj : j < g'.length), ∀ x ∈ (g'[j]).vs, ∃ y ∈ (g[j]'(by rw [<- hf.len]; exact hj)).vs, x.u = y.u /\ ((x = y /\ j ≠ k + 1) \/ (j = k + 1 /\ Slc.Own w' w.heap.size 3 1 encI x.q.val x.n.par)) := by
  intro j hj x hx;have hj' : j < g.length := by rw [<- hf.len]; exact hj
  by_cases e1 : j = k + 1
  ·subst e1;obtain ⟨h1, h2⟩ := hf.nx hj' hj;obtain ⟨r, hr, rfl⟩ := List.getElem_of_mem hx;have hr' : r < (g[k + 1]).vs.length := by rw [<- h1]; exact hr
   have u1 := h2.u r hr';have o1 := h2.own r hr';rw [getElem!_pos _ r hr, getElem!_pos _ r hr'] at u1;rw [getElem!_pos _ r hr] at o1;exact ⟨_, zM hr', u1, .inr ⟨rfl, o1⟩⟩
  ·by_cases e2 : j = k
   ·subst e2;rw [hf.mid hj' hj] at hx;exact ⟨x, (keepT_sub _ _).subset hx, rfl, .inl ⟨rfl, e1⟩⟩
   ·rw [hf.lo j hj' hj e2 e1] at hx;exact ⟨x, hx, rfl, .inl ⟨rfl, e1⟩⟩
 have hgl : ∀ {j : Nat} (hj : j < g'.length), j < g.length := fun hj => by rw [<- hf.len]; exact hj
 have hlt : ∀ L ∈ g, ∀ y ∈ L.vs, ∀ q, y.q.val.ownBlock = some q -> q < w.heap.size := fun L hL y hy q hq => ((h.own L hL y hy).lt q hq).2
 refine ⟨fun L hL x hx => ?_, fun L hL => ?_, fun i j hi hj hij x hx y hy => ?_, fun L hL x hx L' hL' y hy q hq => ?_, fun L hL x hx q hq => ?_⟩
 ·obtain ⟨j, hj, rfl⟩ := List.getElem_of_mem hL;obtain ⟨y, hy, -, ⟨rfl, -⟩ | ⟨-, ho⟩⟩ := key j hj x hx
  ·have ho := h.own _ (zM (hgl hj)) x hy;refine ho.keep fun q hq hql => hs.fr.block q hql fun hn => ?_
   rcases hn with hn | ⟨L0, h0, hn⟩
   ·exact own_type ho hg.own (by decide) q hq hn
   ·exact own_type ho (hg.lv L0 h0) (by decide) q hq hn
  ·exact ho.mono hB
 ·obtain ⟨j, hj, rfl⟩ := List.getElem_of_mem hL;by_cases e1 : j = k + 1
  ·subst e1;obtain ⟨h1, h2⟩ := hf.nx (hgl hj) hj;refine List.pairwise_iff_getElem.2 fun a b ha hb hab => ?_
   have := h2.ap a b hab (by rw [<- h1]; exact hb);rwa [getElem!_pos _ a ha, getElem!_pos _ b hb] at this
  ·by_cases e2 : j = k
   ·subst e2;rw [hf.mid (hgl hj) hj];exact (h.ap _ (zM (hgl hj))).sublist (keepT_sub _ _)
   ·rw [hf.lo j (hgl hj) hj e2 e1];exact h.ap _ (zM (hgl hj))
 ·obtain ⟨x', hx', -, hxx⟩ := key i hi x hx;obtain ⟨y', hy', -, hyy⟩ := key j hj y hy;rcases hxx with ⟨rfl, -⟩ | ⟨ei, ho⟩ <;> rcases hyy with ⟨rfl, -⟩ | ⟨ej, ho'⟩
  ·exact h.ab i j (hgl hi) (hgl hj) hij x hx' y hy'
  ·intro q hq hq';have := hlt _ (zM (hgl hi)) x hx' q hq;have := (ho'.lt q hq').1;omega
  ·intro q hq hq';have := hlt _ (zM (hgl hj)) y hy' q hq';have := (ho.lt q hq).1;omega
  ·omega
 ·obtain ⟨i, hi, rfl⟩ := List.getElem_of_mem hL;obtain ⟨j, hj, rfl⟩ := List.getElem_of_mem hL';obtain ⟨x', hx', -, hxx⟩ := key i hi x hx;obtain ⟨y', hy', hu, -⟩ := key j hj y hy;rw [hu];rcases hxx with ⟨rfl, -⟩ | ⟨-, ho⟩
  ·exact h.ex _ (zM (hgl hi)) x hx' _ (zM (hgl hj)) y' hy' q hq
  ·intro hq';have h1 := (ho.lt q hq).1;have h2 := (hg.nm _ (zM (hgl hj)) y' hy').1.1.lt q hq';omega
 ·obtain ⟨i, hi, rfl⟩ := List.getElem_of_mem hL;obtain ⟨x', hx', hu, -⟩ := key i hi x hx;rw [hu] at hq;exact h.ul _ (zM (hgl hi)) x' hx' q hq
theorem VtIn.keep2 {w w' : World} {S : Nat -> Prop} {x : Vt} (h : VtIn w S x) (hs : w.heap.size <= w'.heap.size) (hb : ∀ k, k < w.heap.size -> (x.u.val.ownBlock = some k \/ x.q.val.ownBlock = some k) -> w'.heap[k]? = w.heap[k]?) : VtIn w' S x := by
 obtain ⟨h1, h2, h3⟩ := h;have u1 : RdIn w (fun k => x.u.val.ownBlock = some k) encS x.u.val x.n.ex := ⟨h1.1, fun k hk => hk⟩;have u2 := u1.keep hs fun k hk hlt => hb k hlt (.inl hk)
 refine ⟨⟨u2.1, h1.2⟩, ?_, h3⟩;rcases h2 with h2 | h2
 ·exact .inl h2
 ·have q1 : RdIn w (fun k => x.q.val.ownBlock = some k) encI x.q.val x.n.par := ⟨h2.1, fun k hk => hk⟩;have q2 := q1.keep hs fun k hk hlt => hb k hlt (.inr hk)
  exact .inr ⟨q2.1, h2.2⟩
theorem GO.setQ2 {w0 w : World} {Bk U : Nat} {v : Value} {g : List Lv} (h : GO w0 Bk v g) (hd : PDG w0 Bk U g) (i : Nat) (hi : i < g.length) (j : Nat) (hj : j < (g[i]).vs.length) (hsz : w0.heap.size <= w.heap.size)
  (hk : ∀ k, k < w0.heap.size -> (GB v g k \/ ∃ L ∈ g, ∃ x ∈ L.vs, x.u.val.ownBlock = some k \/ x.q.val.ownBlock = some k) -> ((g[i]).vs[j]).q.val.ownBlock ≠ some k -> w.heap[k]? = w0.heap[k]?)
  (q' : Sl) (p' : List Int) (hq : Slc.Own w Bk 3 1 encI q'.val p') (hb : ∀ k, q'.val.ownBlock = some k -> ((g[i]).vs[j]).q.val.ownBlock = some k \/ w0.heap.size <= k) (hok : Vx.Ok ⟨((g[i]).vs[j]).n.pol, ((g[i]).vs[j]).n.ex, p'⟩) :
  ∃ nb cap, (g[i]).s.val = .slice (some ⟨nb, 0, none⟩) (g[i]).vs.length cap /\ (∀ r, w.frozen? ⟨nb, r, none⟩ = false) /\ w.cell? ⟨nb, j * 3 + 2, none⟩ = some ((g[i]).vs[j]).q.val /\
   GO (w.setCell ⟨nb, j * 3 + 2, none⟩ q'.val) Bk v (g.set i ⟨(g[i]).vs.set j ⟨⟨((g[i]).vs[j]).n.pol, ((g[i]).vs[j]).n.ex, p'⟩, ((g[i]).vs[j]).u, q'⟩, (g[i]).s⟩) /\
   PDG (w.setCell ⟨nb, j * 3 + 2, none⟩ q'.val) Bk U (g.set i ⟨(g[i]).vs.set j ⟨⟨((g[i]).vs[j]).n.pol, ((g[i]).vs[j]).n.ex, p'⟩, ((g[i]).vs[j]).u, q'⟩, (g[i]).s⟩) /\ w.grownBy (w.setCell ⟨nb, j * 3 + 2, none⟩ q'.val) (some nb) /\ GB v g nb := by
 have hmem := zM hi;have hvmem := zM hj;have hox := hd.own _ hmem _ hvmem
 have hGB : ∀ k, GB v g k -> ((g[i]).vs[j]).q.val.ownBlock ≠ some k := fun k hn e => by
  rcases hn with hn | ⟨L, hL, hn⟩
  ·exact own_type hox h.own (by decide) k e hn
  ·exact own_type hox (h.lv L hL) (by decide) k e hn
 have hgb : ∀ k, GB v g k -> k < w0.heap.size -> w.heap[k]? = w0.heap[k]? := fun k hn hkl => hk k hkl (.inl hn) (hGB k hn)
 have hown : Slc.Own w Bk 63 1 encL v g := h.own.keep fun k hkb hkl => hgb k (.inl hkb) hkl
 have hlv : ∀ L ∈ g, Slc.Own w Bk 65 3 encV L.s.val L.vs := fun L hL => (h.lv L hL).keep fun k hkb hkl => hgb k (.inr ⟨L, hL, hkb⟩) hkl
 obtain ⟨x, hx⟩ : ∃ x, x = (g[i]).vs[j] := ⟨_, rfl⟩
 rw [<- hx] at hox hGB hk hb hok |-;obtain ⟨x', hx'⟩ : ∃ x' : Vt, x' = ⟨⟨x.n.pol, x.n.ex, p'⟩, x.u, q'⟩ := ⟨_, rfl⟩
 have hxn : x'.q = q' /\ x'.u = x.u /\ x'.n = ⟨x.n.pol, x.n.ex, p'⟩ := by rw [hx']; exact ⟨rfl, rfl, rfl⟩
 rw [<- hx'];have henc : encV x' = (encV (g[i]).vs[j]).set 2 q'.val := by rw [<- hx, hx']; rfl
 have hcell : ∀ nb cap, (g[i]).s.val = .slice (some ⟨nb, 0, none⟩) (g[i]).vs.length cap -> w.cell? ⟨nb, j * 3 + 2, none⟩ = some x.q.val := fun nb cap hv => by
  have h1 := hlv _ hmem;rw [hv] at h1;exact h1.cell encV_ok j hj 2 (by omega) _ (by rw [<- hx]; rfl)
 obtain ⟨nb, cap, hv, hB, hlt, hfr, hown2, hgr2⟩ := (hlv _ hmem).set1 encV_ok j 2 hj (by omega) q'.val x' henc;have hnb : (g[i]).s.val.ownBlock = some nb := by rw [hv]; rfl
 have hGBn : GB v g nb := .inr ⟨_, hmem, hnb⟩
 -- the others
 have hoth : ∀ (a b : Nat) (ha : a < g.length) (hb' : b < (g[a]).vs.length), (a ≠ i \/ b ≠ j) -> ∀ k, x.q.val.ownBlock = some k -> ((g[a]).vs[b]).q.val.ownBlock ≠ some k := fun a b ha hb' hne k e => by
  by_cases ea : a = i
  ·subst ea;have hbj : b ≠ j := by rcases hne with q | q <;> simp_all
   have h2 := List.pairwise_iff_getElem.1 (hd.ap _ hmem);rw [hx] at e;rcases Nat.lt_or_gt_of_ne hbj with q | q
   ·exact fun e2 => h2 b j hb' hj q k e2 e
   ·exact h2 j b hj hb' q k e
  ·exact hd.ab i a hi ha (fun e => ea e.symm) x (by rw [hx]; exact hvmem) _ (zM hb') k e
 have hkx : ∀ (a b : Nat) (ha : a < g.length) (hb' : b < (g[a]).vs.length), (a ≠ i \/ b ≠ j) -> ∀ k, k < w0.heap.size -> (((g[a]).vs[b]).u.val.ownBlock = some k \/ ((g[a]).vs[b]).q.val.ownBlock = some k) -> w.heap[k]? = w0.heap[k]? := fun a b ha hb' hne k hkl hk' =>
  hk k hkl (.inr ⟨_, zM ha, _, zM hb', hk'⟩) fun e => by
   rcases hk' with q | q
   ·exact hd.ex _ hmem x (by rw [hx]; exact hvmem) _ (zM ha) _ (zM hb') k e q
   ·exact hoth a b ha hb' hne k e q
 have hstep : ∀ y, VtIn w (fun k => ¬ GB v g k) y -> VtIn (w.setCell ⟨nb, j * 3 + 2, none⟩ q'.val) (fun k => ¬ GB v (g.set i ⟨(g[i]).vs.set j x', (g[i]).s⟩) k) y := fun y hy =>
  (hy.keep hgr2.size fun k hkk hkl => hgr2.block k hkl (by simp only [ne_eq, zO]; rintro rfl; exact hkk hGBn)).mono fun k _ hkk hn => hkk ((GB.same hi _).1 hn)
 have hxv : VtIn w (fun k => ¬ GB v g k) x' := by
  have h1 := h.nm _ hmem x (by rw [hx]; exact hvmem);have u1 : RdIn w0 (fun k => x.u.val.ownBlock = some k) encS x.u.val x.n.ex := ⟨h1.1.1, fun k hk => hk⟩;have u2 := u1.keep (w' := w) hsz fun k hkk hlt' => hk k hlt' (.inr ⟨_, hmem, x, (by rw [hx]; exact hvmem), .inl hkk⟩) fun e => hd.ex _ hmem x (by rw [hx]; exact hvmem) _ hmem x (by rw [hx]; exact hvmem) k e hkk
  refine ⟨?_, ?_, ?_⟩
  ·rw [hxn.2.1, hxn.2.2]; exact ⟨u2.1, h1.1.2⟩
  ·rw [hxn.1, hxn.2.2]
   exact .inr ⟨hq.rd, fun k hkk hn => by
    rcases hb k hkk with q | q
    ·exact hGB k hn q
    ·have := (h.lt hn).2; omega⟩
  ·rw [hxn.2.2]; exact hok
 have hcase : ∀ (a : Nat) (ha : a < g.length) (y : Vt), y ∈ ((g.set i ⟨(g[i]).vs.set j x', (g[i]).s⟩)[a]'(by simpa using ha)).vs -> (y = x' /\ a = i) \/ ∃ b, ∃ hb' : b < (g[a]).vs.length, y = (g[a]).vs[b] /\ (a ≠ i \/ b ≠ j) := by
  intro a ha y hy;rw [List.getElem_set] at hy;by_cases e : i = a
  ·subst e;rw [if_pos rfl] at hy;obtain ⟨b, hb', rfl⟩ := List.getElem_of_mem hy;rw [List.getElem_set];by_cases e2 : j = b
   ·rw [if_pos e2]; exact .inl ⟨rfl, rfl⟩
   ·rw [if_neg e2];exact .inr ⟨b, by simpa using hb', rfl, .inr fun q => e2 q.symm⟩
  ·rw [if_neg e] at hy;obtain ⟨b, hb', rfl⟩ := List.getElem_of_mem hy;exact .inr ⟨b, hb', rfl, .inl fun q => e q.symm⟩
 have hxo : ∀ (a b : Nat) (ha : a < g.length) (hb' : b < (g[a]).vs.length), (a ≠ i \/ b ≠ j) -> QA x' (g[a]).vs[b] := fun a b ha hb' hne k h1 h2 => by
  rw [hxn.1] at h1;rcases hb k h1 with q | q
  ·exact hoth a b ha hb' hne k q h2
  ·have := ((hd.own _ (zM ha) _ (zM hb')).lt k h2).2; omega
 refine ⟨nb, cap, hv, hfr, hcell nb cap hv, ⟨?_, fun L hL' => ?_, ?_, ?_, ?_⟩, ⟨fun L hL' y hy => ?_, fun L hL' => ?_, fun a b ha hb' hab y hy z hz => ?_, fun L hL' y hy L2 hL2 z hz k e => ?_, fun L hL' y hy k e => ?_⟩, hgr2, hGBn⟩
 ·have h1 := hown.keep (w' := w.setCell ⟨nb, j * 3 + 2, none⟩ q'.val) fun k hkk hkl => hgr2.block k hkl (by simp only [ne_eq, zO]; rintro rfl; exact h.ao _ hmem k hnb hkk)
  have e : (g.set i ⟨(g[i]).vs.set j x', (g[i]).s⟩).flatMap encL = g.flatMap encL := by
   have := flat_set encL_ok (⟨(g[i]).vs.set j x', (g[i]).s⟩ : Lv) (g[i]).s.val 0 (by omega) g i hi rfl;rw [this, Nat.mul_one, Nat.add_zero];apply List.ext_getElem?
   intro q;rw [List.getElem?_set];by_cases eq : i = q
   ·subst eq;have hl : i < (g.flatMap encL).length := (by rw [flat_len encL_ok]; omega);rw [if_pos rfl, if_pos hl];have := flat_at encL_ok g i 0 hi (by omega);rw [Nat.mul_one, Nat.add_zero] at this;rw [this]; rfl
   ·rw [if_neg eq]
  unfold Slc.Own at h1 |-;rw [zL, e]; exact h1
 ·obtain ⟨q, hq', rfl⟩ := List.getElem_of_mem hL';rw [zL] at hq';rw [List.getElem_set];by_cases e : i = q
  ·subst e; rw [if_pos rfl]; exact hown2
  ·rw [if_neg e];exact (hlv _ (zM hq')).keep fun k hkk hkl => hgr2.block k hkl (by simp only [ne_eq, zO]; rintro rfl; exact h.ap i q hi hq' e k hnb hkk)
 ·intro a b ha hb' hab k hkk;rw [zL] at ha hb'
  have e1 : ∀ (q : Nat) (hq : q < g.length), ((g.set i ⟨(g[i]).vs.set j x', (g[i]).s⟩)[q]'(by simpa using hq)).s = (g[q]).s := by
   intro q hq;rw [List.getElem_set];split
   ·rename_i e; subst e; rfl
   ·rfl
  rw [e1 a ha] at hkk;rw [e1 b hb'];exact h.ap a b ha hb' hab k hkk
 ·intro L hL' k hkk;rcases List.mem_or_eq_of_mem_set hL' with q | rfl
  ·exact h.ao L q k hkk
  ·exact h.ao _ hmem k hkk
 ·intro L hL' y hy;apply hstep
  obtain ⟨a, ha, rfl⟩ := List.getElem_of_mem hL';rw [zL] at ha;rw [List.getElem_set] at hy;by_cases e : i = a
  ·rw [if_pos e] at hy;obtain ⟨b, hb', rfl⟩ := List.getElem_of_mem hy;rw [List.getElem_set];by_cases e2 : j = b
   ·rw [if_pos e2]; exact hxv
   ·rw [if_neg e2];have hb2 : b < (g[i]).vs.length := (by simpa using hb');exact (h.nm _ hmem _ (zM hb2)).keep2 hsz fun k hkl hk' => hkx i b hi hb2 (.inr fun q => e2 q.symm) k hkl hk'
  ·rw [if_neg e] at hy;obtain ⟨b, hb', rfl⟩ := List.getElem_of_mem hy;exact (h.nm _ (zM ha) _ (zM hb')).keep2 hsz fun k hkl hk' => hkx a b ha hb' (.inl fun q => e q.symm) k hkl hk'
 ·obtain ⟨a, ha, rfl⟩ := List.getElem_of_mem hL';rw [zL] at ha;have hset : ∀ {l : List Int} {z : Value}, Slc.Own w Bk 3 1 encI z l -> Slc.Own (w.setCell ⟨nb, j * 3 + 2, none⟩ q'.val) Bk 3 1 encI z l := fun {l z} ho => ho.keep fun k hkk hkl => hgr2.block k hkl (by simp only [ne_eq, zO]; rintro rfl; exact own_type ho (hlv _ hmem) (by decide) k hkk hnb)
  rcases hcase a ha y hy with ⟨rfl, -⟩ | ⟨b, hb', rfl, hne⟩
  ·rw [hxn.1, hxn.2.2]; exact hset hq
  ·exact hset ((hd.own _ (zM ha) _ (zM hb')).keep fun k hkk hkl => hkx a b ha hb' hne k hkl (.inr hkk))
 ·obtain ⟨a, ha, rfl⟩ := List.getElem_of_mem hL';rw [zL] at ha;rw [List.getElem_set];by_cases e : i = a
  ·rw [if_pos e];have h2 := List.pairwise_iff_getElem.1 (hd.ap _ hmem);refine List.pairwise_iff_getElem.2 fun r1 r2 h1 h3 hlt' => ?_
   have h1' : r1 < (g[i]).vs.length := by simpa using h1
   have h3' : r2 < (g[i]).vs.length := by simpa using h3
   rw [List.getElem_set, List.getElem_set];by_cases e1 : j = r1
   ·rw [if_pos e1, if_neg (by omega)];exact hxo i r2 hi h3' (.inr (by omega))
   ·rw [if_neg e1];by_cases e2 : j = r2
    ·rw [if_pos e2];exact QA.symm (hxo i r1 hi h1' (.inr (by omega)))
    ·rw [if_neg e2]; exact h2 r1 r2 h1' h3' hlt'
  ·rw [if_neg e]; exact hd.ap _ (zM ha)
 ·have ha1 : a < g.length := by simpa using ha
  have hb1 : b < g.length := by simpa using hb'
  rcases hcase a ha1 y hy with ⟨ey, ea⟩ | ⟨r, hr, ey, -⟩
  ·rcases hcase b hb1 z hz with ⟨ez, eb⟩ | ⟨r', hr', ez, hne'⟩
   ·omega
   ·rw [ey, ez]; exact hxo b r' hb1 hr' hne'
  ·rcases hcase b hb1 z hz with ⟨ez, eb⟩ | ⟨r', hr', ez, hne'⟩
   ·rw [ey, ez]; exact QA.symm (hxo a r ha1 hr (.inl (by omega)))
   ·rw [ey, ez]; exact hd.ab a b ha1 hb1 hab _ (zM hr) _ (zM hr')
 ·obtain ⟨a, ha, rfl⟩ := List.getElem_of_mem hL';obtain ⟨b, hb', rfl⟩ := List.getElem_of_mem hL2;rw [zL] at ha hb';have hxm : x ∈ (g[i]).vs := by rw [hx]; exact hvmem
  have key : ∀ (b : Nat) (hb' : b < g.length) (z0 : Vt), z0 ∈ (g[b]).vs -> y.q.val.ownBlock = some k -> z0.u.val.ownBlock ≠ some k := by
   intro b hb' z0 hz0 e;rcases hcase a ha y hy with ⟨ey, ea⟩ | ⟨r, hr, ey, -⟩
   ·rw [ey, hxn.1] at e;rcases hb k e with q | q
    ·exact hd.ex _ hmem x hxm _ (zM hb') z0 hz0 k q
    ·intro e2;have := (h.nm _ (zM hb') z0 hz0).1.1.lt k e2;omega
   ·rw [ey] at e;exact hd.ex _ (zM ha) _ (zM hr) _ (zM hb') z0 hz0 k e
  rcases hcase b hb' z hz with ⟨ez, -⟩ | ⟨r', hr', ez, -⟩
  ·rw [ez, hxn.2.1]; exact key i hi x hxm e
  ·rw [ez]; exact key b hb' _ (zM hr') e
 ·obtain ⟨a, ha, rfl⟩ := List.getElem_of_mem hL';rw [zL] at ha;have hxm : x ∈ (g[i]).vs := by rw [hx]; exact hvmem
  rcases hcase a ha y hy with ⟨ey, -⟩ | ⟨r, hr, ey, -⟩
  ·rw [ey, hxn.2.1] at e; exact hd.ul _ hmem x hxm k e
  ·rw [ey] at e; exact hd.ul _ (zM ha) _ (zM hr) k e
theorem GO.setQ {w0 w : World} {Bk U : Nat} {v : Value} {g : List Lv} (h : GO w0 Bk v g) (hd : PDG w0 Bk U g) (i : Nat) (hi : i < g.length) (j : Nat) (hj : j < (g[i]).vs.length) (hsz : w0.heap.size <= w.heap.size)
  (hk : ∀ k, k < w0.heap.size -> (GB v g k \/ ∃ L ∈ g, ∃ x ∈ L.vs, x.u.val.ownBlock = some k \/ x.q.val.ownBlock = some k) -> ((g[i]).vs[j]).q.val.ownBlock ≠ some k -> w.heap[k]? = w0.heap[k]?)
  (q' : Sl) (p' : List Int) (hq : Slc.Own w Bk 3 1 encI q'.val p') (hb : q'.val.ownBlock = ((g[i]).vs[j]).q.val.ownBlock) (hok : Vx.Ok ⟨((g[i]).vs[j]).n.pol, ((g[i]).vs[j]).n.ex, p'⟩) :
  ∃ nb cap, (g[i]).s.val = .slice (some ⟨nb, 0, none⟩) (g[i]).vs.length cap /\ (∀ r, w.frozen? ⟨nb, r, none⟩ = false) /\ w.cell? ⟨nb, j * 3 + 2, none⟩ = some ((g[i]).vs[j]).q.val /\
   GO (w.setCell ⟨nb, j * 3 + 2, none⟩ q'.val) Bk v (g.set i ⟨(g[i]).vs.set j ⟨⟨((g[i]).vs[j]).n.pol, ((g[i]).vs[j]).n.ex, p'⟩, ((g[i]).vs[j]).u, q'⟩, (g[i]).s⟩) /\
   PDG (w.setCell ⟨nb, j * 3 + 2, none⟩ q'.val) Bk U (g.set i ⟨(g[i]).vs.set j ⟨⟨((g[i]).vs[j]).n.pol, ((g[i]).vs[j]).n.ex, p'⟩, ((g[i]).vs[j]).u, q'⟩, (g[i]).s⟩) /\ w.grownBy (w.setCell ⟨nb, j * 3 + 2, none⟩ q'.val) (some nb) /\ GB v g nb :=
 h.setQ2 hd i hi j hj hsz hk q' p' hq (fun k hk => .inl (hb ▸ hk)) hok
structure WS (W : World) (Bk U Z : Nat) (v : Value) (g : List Lv) : Prop where
 go : GO W Bk v g
 pd : PDG W Bk U g
 uz : U <= Z
 gz : ∀ k, GB v g k -> k < Z
 qz : ∀ L ∈ g, ∀ x ∈ L.vs, ∀ k, x.q.val.ownBlock = some k -> k < Z
section
variable {W w' : World} {Bk U Z : Nat} {v : Value} {g : List Lv}
theorem WS.made (h : GO W Bk v g) (hd : PDG W Bk U g) (hU : U <= W.heap.size) : WS W Bk U W.heap.size v g :=
 ⟨h, hd, hU, fun k hk => (h.lt hk).2, fun L hL x hx k hk => ((hd.own L hL x hx).lt k hk).2⟩
theorem WS.keep (h : WS W Bk U Z v g) (hs : W.heap.size <= w'.heap.size) (hb : ∀ k, k < Z -> k < W.heap.size -> (GB v g k \/ ∃ L ∈ g, ∃ x ∈ L.vs, x.u.val.ownBlock = some k \/ x.q.val.ownBlock = some k) -> w'.heap[k]? = W.heap[k]?) : WS w' Bk U Z v g :=
 ⟨h.go.keep hs fun k hk hn => hb k (by
   rcases hn with q | ⟨L, hL, x, hx, q | q⟩
   ·exact h.gz k q
   ·exact Nat.lt_of_lt_of_le (h.pd.ul L hL x hx k q) h.uz
   ·exact h.qz L hL x hx k q) hk hn,
  h.pd.keep fun L hL x hx k hk hkl => hb k (h.qz L hL x hx k hk) hkl (.inr ⟨L, hL, x, hx, .inr hk⟩), h.uz, h.gz, h.qz⟩
theorem WS.below (h : WS W Bk U Z v g) (hb : Below W.heap.size W w') : WS w' Bk U Z v g := h.keep hb.size fun k _ hk _ => hb.block k hk
theorem WS.other (h : WS W Bk U Z v g) {z : Nat} (hg : W.grownBy w' (some z)) (hz : Z <= z) : WS w' Bk U Z v g := h.keep hg.size fun k hkz hk _ => hg.block k hk (by simp only [ne_eq, zO]; omega)
theorem ownF_obj {n b : Nat} {f : B -> Option Bool} (h : OwnF W kS rdB edB b n f) : ∃ es c, W.heap[b]? = some (.map es c) := by
 obtain ⟨D, ⟨es, clock, hh, r⟩, hm⟩ := h;exact ⟨es, clock, hh⟩
theorem own_cellsQ {α : Type} {z : Nat} {t : TypeId} {enc : α -> List Value} {u : Value} {l : List α} (h : Slc.Own W Bk t z enc u l) (k : Nat) (hk : u.ownBlock = some k) : ∃ cur, W.heap[k]? = some (.cells cur t (0, 0)) := by
 rcases h.2 with ⟨rfl, -⟩ | ⟨g', cap', cur', rfl, -, hb, -⟩
 ·cases hk
 ·simp only [Value.ownBlock, zO] at hk
  subst hk;exact ⟨_, hb⟩
theorem WS.nomap (h : WS W Bk U Z v g) {b : Nat} (hU : U <= b) {es : Array MapEntry} {c : Nat} (hm : W.heap[b]? = some (.map es c)) : ¬ (GB v g b \/ ∃ L ∈ g, ∃ x ∈ L.vs, x.u.val.ownBlock = some b \/ x.q.val.ownBlock = some b) := by
 rintro (hn | ⟨L, hL, x, hx, hn | hn⟩)
 ·rcases hn with hn | ⟨L, hL, hn⟩
  ·obtain ⟨cur, hc⟩ := own_cellsQ h.go.own b hn;rw [hm] at hc; cases hc
  ·obtain ⟨cur, hc⟩ := own_cellsQ (h.go.lv L hL) b hn;rw [hm] at hc; cases hc
 ·have := h.pd.ul L hL x hx b hn; omega
 ·obtain ⟨cur, hc⟩ := own_cellsQ (h.pd.own L hL x hx) b hn;rw [hm] at hc; cases hc
end
end Go.Proofs.YtmagjdocondmhaaGreat.Tr.Gr
