/- packed -/
import Derived.Test.YtmagjdocondmhaaGreatPkAn07
set_option linter.unusedVariables false
set_option linter.unusedSimpArgs false
set_option maxRecDepth 100000
set_option maxHeartbeats 64000000
namespace Go.Proofs.YtmagjdocondmhaaGreat.Tr.Gr
open Go Go.RowKit Slc St Mp Tr Rg
attribute [local go_sem] Oper.semAt_some
def sizK (g : List (List Vx)) (k : Nat) : Nat := ((g.take k).map List.length).sum
def sizG (g : List (List Vx)) : Nat := sizK g g.length
theorem sizK_succ (g : List (List Vx)) (k : Nat) (hk : k < g.length) : sizK g (k + 1) = sizK g k + (g[k]!).length := by
 unfold sizK;rw [zA hk, List.map_append, List.sum_append, getElem!_pos g k hk]; simp
theorem sizK_le {g : List (List Vx)} (h : ∀ l ∈ g, l.length <= 100000) (k : Nat) (hk : k <= g.length) : sizK g k <= k * 100000 := by
 induction k with
 | zero => simp [sizK]
 | succ k ih =>
  rw [sizK_succ g k (by omega), getElem!_pos g k (by omega)];have := ih (by omega);have := h _ (zM (show k < g.length by omega));omega
theorem gsize_any (w : World) (v : Value) (g : List Lv) (h : GQ w v g) (hn : g.length <= 100000) (hln : ∀ L ∈ g, L.vs.length <= 100000) :
  Calls Tryz.prog 17 #[v] w fun e w' => e = .returned (.int .i64 (sizG (gxs g) : Nat)) /\ Below w.heap.size w w' := by
 obtain ⟨ad, c, rfl, -⟩ := h.rd.form;have HG := Bx.mk h;have HLN := Bx.mk hln;obtain ⟨N, hN⟩ : ∃ N, N = g.length := ⟨_, rfl⟩
 have HN := Bx.mk hN
 have HSL := Bx.mk (show ∀ k, k <= N -> sizK (gxs g) k <= k * 100000 from fun k hk => sizK_le (fun l hl => by
  obtain ⟨L0, h0, rfl⟩ := List.mem_map.1 hl
  rw [vxs_len]; exact hln L0 h0) k (by rw [gxs_len, <- hN]; exact hk))
 rw [<- hN] at hn |-;clear h hln hN;go_enter Tryz.func17, Tryz.ntmps17;go_wp2_with fail
 go_loopw [3, 8] (fun s i wr => ∃ (k n : Nat), k <= N /\ i = .int .i64 k /\ s = .int .i64 n /\ Bx (n = sizK (gxs g) k) /\ Bx (Below w.heap.size w wr)) (fun _ i _ => N - (intOf i).toNat)
 case atStart => exact ⟨0, 0, by omega, rfl, rfl, ⟨by simp [sizK]⟩, ⟨Below.refl _ _⟩⟩
 case round =>
  obtain ⟨k, n, hk, rfl, rfl, hS, hB⟩ := hrel;by_cases hlt : k < N
  ·have hkl : k < g.length := by rw [<- HN.out]; exact hlt
   obtain ⟨b, o, rfl, -, c0⟩ := HG.out.at1 wr hB.out k hkl;have HSS := Bx.mk (show sizK (gxs g) (k + 1) = sizK (gxs g) k + (g[k]).vs.length by rw [sizK_succ _ k (by rw [gxs_len]; exact hkl), gxs_at g k hkl, vxs_len]);obtain ⟨la, lc, hls, -⟩ := (HG.out.lv _ (zM hkl)).rd.form;rw [hls] at c0;obtain ⟨M, hM⟩ : ∃ M, M = (g[k]'hkl).vs.length := ⟨_, rfl⟩
   rw [<- hM] at c0 HSS;clear hls hM hkl;have hb := HSL.out (k + 1) (by omega);rw [HSS.out, <- hS.out] at hb;have hw1 : IntKind.i64.wrap ((n : Int) + (M : Int)) = ((n + M : Nat) : Int) := by rw [IntWalk.i64_in _ (by omega)]; omega
   have hba : Below wr.heap.size wr (wr.alloc (.cells #[.slice la M lc] 63)) := (Below.refl _ _).alloc (zR _) _;have HB2 := Bx.mk (hB.out.trans (hba.mono hB.out.size));have HS2 := Bx.mk (show n + M = sizK (gxs g) (k + 1) by rw [HSS.out, hS.out]);clear hba;go_wp2_with fail
   go_roundw
   case rel => exact ⟨k + 1, n + M, by omega, by go_num, by go_num, HS2, HB2⟩
   case measure => simp [intOf]; omega
  ·obtain rfl : N = k := by omega
   have HS2 := Bx.mk (show n = sizG (gxs g) by rw [hS.out]; unfold sizG; rw [gxs_len, HN.out]);go_wp2_with fail
   go_ret;exact ⟨by rw [<- HS2.out]; rfl, hB.out⟩
def rootG : List (List Vx) := [[⟨anyP, [anyP], []⟩]]
theorem groot_any (w : World) : Calls Tryz.prog 20 #[] w fun e w' => ∃ v' g', e = .returned v' /\ GO w' w.heap.size v' g' /\ gxs g' = rootG /\ Below w.heap.size w w' := by
 go_enter Tryz.func20, Tryz.ntmps20;go_wp2
 go_ret;obtain ⟨W1, hW1⟩ : ∃ W1, W1 = w.alloc (.cells #[.string ⟨#[50, 46, 53, 46, 50, 57, 46, 51, 50, 46, 48]⟩] 9) := ⟨_, rfl⟩
 have ho1 : Slc.Own W1 w.heap.size 9 1 encS (.slice (some ⟨w.heap.size, 0, none⟩) 1 1) [anyP] := by
  rw [hW1]; exact own_alloc encS_ok w [anyP] _ rfl (zR _) (by unfold maxLen; simp)
 have hs1 : W1.heap.size = w.heap.size + 1 := by rw [hW1]; simp
 have hb1 : Below w.heap.size w W1 := by rw [hW1]; exact (Below.refl _ _).alloc (zR _) _
 rw [<- hW1];obtain ⟨W2, hW2⟩ : ∃ W2, W2 = W1.alloc (.cells #[.string ⟨#[50, 46, 53, 46, 50, 57, 46, 51, 50, 46, 48]⟩, .slice (some ⟨w.heap.size, 0, none⟩) 1 1, .slice none 0 0] 65) := ⟨_, rfl⟩
 have ho2 : Slc.Own W2 w.heap.size 65 3 encV (.slice (some ⟨w.heap.size + 1, 0, none⟩) 1 1) [⟨⟨anyP, [anyP], []⟩, ⟨some ⟨w.heap.size, 0, none⟩, 1, 1⟩, ⟨none, 0, 0⟩⟩] := by
  rw [hW2, <- hs1]; exact own_alloc encV_ok W1 [⟨⟨anyP, [anyP], []⟩, ⟨some ⟨w.heap.size, 0, none⟩, 1, 1⟩, ⟨none, 0, 0⟩⟩] _ rfl (by omega) (by unfold maxLen; simp)
 have hs2 : W2.heap.size = w.heap.size + 2 := by rw [hW2]; simp [hs1]
 have hb2 : Below w.heap.size w W2 := by rw [hW2]; exact hb1.alloc (by omega) _
 have ho12 : Slc.Own W2 w.heap.size 9 1 encS (.slice (some ⟨w.heap.size, 0, none⟩) 1 1) [anyP] := by rw [hW2]; exact ho1.below ((Below.refl _ _).alloc (zR _) _)
 rw [<- hW2];obtain ⟨W3, hW3⟩ : ∃ W3, W3 = W2.alloc (.cells #[.slice (some ⟨w.heap.size + 1, 0, none⟩) 1 1] 63) := ⟨_, rfl⟩
 have hba : Below W2.heap.size W2 W3 := by rw [hW3]; exact (Below.refl _ _).alloc (zR _) _
 have ho3 : Slc.Own W3 w.heap.size 63 1 encL (.slice (some ⟨w.heap.size + 2, 0, none⟩) 1 1) [⟨[⟨⟨anyP, [anyP], []⟩, ⟨some ⟨w.heap.size, 0, none⟩, 1, 1⟩, ⟨none, 0, 0⟩⟩], ⟨some ⟨w.heap.size + 1, 0, none⟩, 1, 1⟩⟩] := by
  rw [hW3, <- hs2]; exact own_alloc encL_ok W2 [⟨[⟨⟨anyP, [anyP], []⟩, ⟨some ⟨w.heap.size, 0, none⟩, 1, 1⟩, ⟨none, 0, 0⟩⟩], ⟨some ⟨w.heap.size + 1, 0, none⟩, 1, 1⟩⟩] _ rfl (by omega) (by unfold maxLen; simp)
 rw [<- hW3];refine ⟨_, [⟨[⟨⟨anyP, [anyP], []⟩, ⟨some ⟨w.heap.size, 0, none⟩, 1, 1⟩, ⟨none, 0, 0⟩⟩], ⟨some ⟨w.heap.size + 1, 0, none⟩, 1, 1⟩⟩], rfl, ⟨ho3, fun L hL => ?_, fun i j hi hj hij => ?_, fun L hL k hk => ?_, fun L hL x hx => ?_⟩, rfl, hb2.trans (hba.mono hb2.size)⟩
 ·rw [zS] at hL; subst hL; exact ho2.below hba
 ·simp only [List.length_singleton] at hi hj; omega
 ·rw [zS] at hL; subst hL
  have hk' : some (w.heap.size + 1) = some k := hk;rw [<- hk'];simp [Value.ownBlock]
 ·rw [zS] at hL; subst hL
  rw [zS] at hx; subst hx
  refine ⟨⟨(ho12.below hba).rd, fun k hk hn => ?_⟩, .inl ⟨rfl, _, _, rfl⟩, ⟨by simp, fun b hb => ?_⟩, by show 11 <= 1000000; omega, by simp, fun p hp => by cases hp⟩
  ·have hk' : some w.heap.size = some k := hk;simp only [zO] at hk'
   rcases hn with hn | ⟨L, hL, hn⟩
   ·have : some (w.heap.size + 2) = some k := hn;simp only [zO] at this; omega
   ·rw [zS] at hL; subst hL
    have : some (w.heap.size + 1) = some k := hn;simp only [zO] at this; omega
  ·rw [zS] at hb; subst hb
   show 11 <= 1000000; omega
theorem rvert_any (w : World) (v : Value) (l : List Vt) (h : VQ w v l) (hn : l.length <= 100000) (p : B) :
  Calls Tryz.prog 56 #[v, .string (bstr p)] w fun e w' => e = .returned (.int .i64 (fndP (vxs l) p)) /\ Below w.heap.size w w' := by
 obtain ⟨ad, c, rfl, -⟩ := h.rd.form;have HC := Bx.mk h.at3;obtain ⟨R, hR⟩ : ∃ R, R = fndP (vxs l) p := ⟨_, rfl⟩
 rw [<- hR];have HR := Bx.mk hR;obtain ⟨N, hN⟩ : ∃ N, N = l.length := ⟨_, rfl⟩
 have HN := Bx.mk hN;rw [<- hN] at hn |-;clear h hR hN;go_enter Tryz.func56, Tryz.ntmps56;go_wp2_with fail
 go_loopw [5] (fun i wr => ∃ k : Nat, k <= N /\ i = .int .i64 k /\ Bx (∀ j, j < k -> decide (((vxs l)[j]!).pol = p) = false) /\ Bx (Below w.heap.size w wr)) (fun i _ => N - (intOf i).toNat)
 case atStart => exact ⟨0, by omega, rfl, ⟨fun j hj => by omega⟩, ⟨Below.refl _ _⟩⟩
 case round =>
  obtain ⟨k, hk, rfl, hF, hBw⟩ := hrel;by_cases hlt : k < N
  ·have hkl : k < l.length := by rw [<- HN.out]; exact hlt
   obtain ⟨b, o, rfl, hbl, c0, -⟩ := HC.out wr hBw.out k hkl;have HX := Bx.mk (show (vxs l)[k]! = (l[k]).n from vxs_at l k hkl);obtain ⟨x, hx⟩ : ∃ x, x = l[k] := ⟨_, rfl⟩
   rw [<- hx] at c0 HX;have l3 := same_bytes x.n.pol p;obtain ⟨r, hr⟩ : ∃ r, r = decide (x.n.pol = p) := ⟨_, rfl⟩
   rw [<- hr] at l3;have HRX := Bx.mk hr;obtain ⟨S, hS⟩ : ∃ S, S = bstr x.n.pol := ⟨_, rfl⟩
   rw [<- hS] at c0 l3;clear hx hbl hr hS
   cases r with
   | true =>
    have HF2 := Bx.mk (show R = (k : Int) by rw [HR.out]; exact idxG_eq (by rw [vxs_len]; exact hkl) (by rw [HX.out]; exact HRX.out.symm) hF.out);clear hkl;go_wp2_with fail
    go_ret
    exact ⟨by rw [HF2.out]; rfl, hBw.out⟩
   | false =>
    clear hkl;go_wp2_with fail
    go_roundw
    case rel => exact ⟨k + 1, by omega, by go_num, ⟨fun j hj => by
     by_cases e : j = k
     ·subst e; rw [HX.out]; exact HRX.out.symm
     ·exact hF.out j (by omega)⟩, hBw⟩
    case measure => simp [intOf]; omega
  ·obtain rfl : N = k := by omega
   have HF2 := Bx.mk (show R = -1 by rw [HR.out]; exact idxG_no fun i hi => hF.out i (by rw [vxs_len, <- HN.out] at hi; exact hi));go_wp2_with fail
   go_ret;exact ⟨by rw [HF2.out]; rfl, hBw.out⟩
theorem und_intsE : Tryz.prog.underlying 22 = some (.slice (Tryz.prog.elem 22)) := by kernel_rfl
theorem size_intsE (W : World) : (sizeOf (Tryz.prog.elem 22)).run Tryz.prog W = .ok 1 W := by kernel_rfl
def WitF (W0 : World) (sv u1 u2 : Value) (p : Nat) (cur : List Int) (x : Int) : Nat -> Value -> World -> Prop
 | 0, v, w => ∃ g, v = .slice (some ⟨g, 0, none⟩) 0 0 /\ w.heap[g]? = some (.cells #[] 3 (0, 0)) /\ W0.heap.size <= g
 | 1, v, _ => v = sv
 | 2, v, _ => v = .int .i64 p
 | 3, v, _ => v = u1
 | 4, v, w => Slc.Own w W0.heap.size 3 1 encI v (cur.take p)
 | 5, v, _ => v = .int .i64 x
 | 6, v, w => ∃ g : Nat, v = .slice (some ⟨g, 0, none⟩) 1 1 /\ w.heap[g]? = some (.cells (encI x).toArray 3 (0, 0))
 | 7, v, w => Slc.Own w W0.heap.size 3 1 encI v (cur.take p ++ [x])
 | 8, v, _ => v = sv
 | 9, v, _ => v = .int .i64 p
 | 10, v, _ => v = u2
 | _, _, _ => True
theorem WitF.stable (W0 : World) (sv u1 u2 : Value) (p : Nat) (cur : List Int) (x : Int) (i : Nat) (v : Value) (w w' : World) (h : WitF W0 sv u1 u2 p cur x i v w) (hb : Below w.heap.size w w') : WitF W0 sv u1 u2 p cur x i v w' := by
 match i with
 | 1 | 2 | 3 | 5 | 8 | 9 | 10 => exact h
 | 0 => obtain ⟨g, h1, h2, h3⟩ := h; exact ⟨g, h1, (hb.block g (lt_of_some h2)).trans h2, h3⟩
 | 4 => exact Slc.Own.below (t := 3) h hb
 | 6 => obtain ⟨g, h1, h2⟩ := h; exact ⟨g, h1, (hb.block g (lt_of_some h2)).trans h2⟩
 | 7 => exact Slc.Own.below (t := 3) h hb
 | _ + 11 => exact trivial
def WitFC : Nat -> Option Nat
 | 0 => some 4
 | 4 => some 7
 | 6 => some 7
 | _ => none
theorem WitF.big (W0 : World) (sv u1 u2 : Value) (p : Nat) (cur : List Int) (x : Int) (d : Nat -> Bool) (j : Nat) (v : Value) (w w' : World) (h4 : d 4 = true) (hc : ∀ q, WitFC j = some q -> mark d 7 q = false) (hne : j ≠ 7) (hj : j < 11) (h : WitF W0 sv u1 u2 p cur x j v w) : WitF W0 sv u1 u2 p cur x j v w' := by
 match j with
 | 1 | 2 | 3 | 5 | 8 | 9 | 10 => exact h
 | 0 => have := hc 4 rfl; simp [mark, h4] at this
 | 4 => have := hc 7 rfl; simp [mark] at this
 | 6 => have := hc 7 rfl; simp [mark] at this
 | 7 => exact absurd rfl hne
 | _ + 11 => omega
def WitP (w : World) (l : List Int) (x : Int) (e : Ending) (w' : World) : Prop := ∃ v' pl, e = .returned v' /\ pl <= l.length /\ (∀ i (hi : i < l.length), i < pl -> l[i] <= x) /\ (∀ i (hi : i < l.length), pl <= i -> x < l[i]) /\ Slc.Own w' w.heap.size 3 1 encI v' (l.take pl ++ x :: l.drop pl) /\ Below w.heap.size w w'
theorem rwith_any (w : World) (v : Value) (l : List Int) (x : Int) (h : Rd w encI v l) (hn : l.length <= 100000) (hs : l.Pairwise (· < ·)) :
  Calls Tryz.prog 77 #[v, .int .i64 x] w fun e w' => WitP w l x e w' := by
 obtain ⟨i0, hi0, hz0, hz1, hz2⟩ := info_parts info_int;obtain ⟨ad, lc, rfl, -⟩ := h.form;have HL := Bx.mk h;have HC := Bx.mk (Ri.cells (show Ri w (.slice ad l.length lc) l from .inr ⟨h, h.lt⟩));have HSRT := Bx.mk hs;obtain ⟨N, hN⟩ : ∃ N, N = l.length := ⟨_, rfl⟩
 have HN := Bx.mk hN;rw [<- hN] at hn |-;clear h hs hN;go_enter Tryz.func77, Tryz.ntmps77;go_upto_block 0 with fail
 go_cut [5] (fun s5 wx => ∃ pl : Nat, s5 = .int .i64 (pl : Int) /\ Bx (pl <= N /\ (∀ i (hi : i < l.length), i < pl -> l[i] <= x) /\ (∀ i (hi : i < l.length), pl <= i -> x < l[i])) /\ Below w.heap.size w wx)
 case first =>
  go_wp2_with fail
  go_loopw [5] (fun i wx => ∃ j : Nat, j <= N /\ Bx (∀ i (hi : i < l.length), j <= i -> x < l[i]) /\ i = .int .i64 (j : Int) /\ Below w.heap.size w wx) (fun i _ => (intOf i).toNat)
  case atStart => exact ⟨N, zR _, ⟨fun i h hi => by have := HN.out; omega⟩, rfl, Below.refl _ _⟩
  case round =>
   obtain ⟨j, hj, hall, rfl, hbx⟩ := hrel;have HBW := Bx.mk hbx
   cases j with
   | zero =>
    have t0 : decide (0 < ((0 : Nat) : Int)) = false := rfl;clear hbx;go_wp2_with fail
    go_meet
    exact ⟨0, rfl, ⟨by omega, fun i hi h => by omega, fun i hi h => hall.out i hi h⟩, HBW.out⟩
   | succ m =>
    have hml : m < l.length := (by rw [<- HN.out]; omega);have hmN : m < N := (by omega);obtain ⟨b, o, rfl, -, c0⟩ := HC.out wr hbx m hml;obtain ⟨y, hy⟩ : ∃ y, y = l[m] := ⟨_, rfl⟩
    have HY := Bx.mk hy;rw [<- hy] at c0;have wj : IntKind.i64.wrap (((m + 1 : Nat) : Int) - 1) = (m : Int) := (by rw [IntWalk.i64_in _ (by omega)]; omega);have ej : ((m : Int) + 1).toNat = m + 1 := (by omega);clear hbx hy;by_cases hgt : x < y
    ·have t1 : decide (y > x) = true := zT hgt;have t2 : decide (x < y) = true := zT hgt
     have HF := Bx.mk (show ∀ i (hi : i < l.length), m <= i -> x < l[i] from fun i hi hmi => by
      rcases Nat.lt_or_ge m i with e | e
      ·exact hall.out i hi (by omega)
      ·obtain rfl : i = m := by omega
       rw [<- HY.out]; exact hgt)
     clear HY hml;go_wp2_with fail
     go_roundw
     case rel => exact ⟨m, by omega, HF, by go_num, HBW.out⟩
     case measure => simp [intOf]; try omega
    ·have t1 : decide (y > x) = false := zF hgt;have t2 : decide (x < y) = false := zF hgt
     have HF := Bx.mk (show ∀ i (hi : i < l.length), i < m + 1 -> l[i] <= x from fun i hi hmi => by
      rcases Nat.lt_or_ge i m with e | e
      ·have h1 := List.pairwise_iff_getElem.1 HSRT.out i m hi hml e;rw [<- HY.out] at h1;omega
      ·obtain rfl : i = m := by omega
       rw [<- HY.out]; omega)
     go_wp2_with fail
     go_meet;exact ⟨m + 1, by first | rfl | go_num, ⟨by omega, HF.out, fun i hi h => hall.out i hi h⟩, HBW.out⟩
 case rest =>
  obtain ⟨pl, rfl, hpl, hbc⟩ := hcut;have hw : Below w.heap.size w wc := hbc;have hoc := HL.out.below hw;rw [<- HN.out] at hoc;have hpn : pl <= l.length := by rw [<- HN.out]; exact hpl.out.1
  obtain ⟨u1, hu1, hr1⟩ := hoc.upto (P := Tryz.prog) (T := 22) encI_ok und_intsE size_intsE pl hpn;obtain ⟨u2, hu2, hr2⟩ := hoc.rest (P := Tryz.prog) (T := 22) encI_ok und_intsE size_intsE pl hpn;have HU1 := Bx.mk hu1;have HU2 := Bx.mk hu2;have HR1 := Bx.mk hr1;have HR2 := Bx.mk hr2;have HPC := Bx.mk hpn;have HINS := Bx.mk hpl.out.2;have HBF := Bx.mk hw;clear hoc hu1 hu2 hr1 hr2 hbc hpl hw hpn;go_upto_region 4 with fail
  refine wp_region_factsV 11 WitFC (· == 7) (WitF wc (.slice ad N lc) u1 u2 pl l x) (by kernel_rfl) (by kernel_rfl) (by rfl) (WitF.stable wc _ u1 u2 pl l x) ?_ ?_ ?_
  ·intro q oq j v d w1 w2 hb hoq hd hc hne hj h _;obtain rfl : q = 7 := by simpa using hb
   simp only [List.getElem?_cons_succ, List.getElem?_cons_zero, zO] at hoq
   subst hoq;have h4 := hd ⟨4, .data⟩ (by simp) rfl;exact WitF.big wc _ u1 u2 pl l x d j v w1 w2 h4 hc hne hj h
  ·intro i o hi9 ho9 xs w1 hb hd;have hcs : i = 0 \/ i = 1 \/ i = 2 \/ i = 3 \/ i = 4 \/ i = 5 \/ i = 6 \/ i = 7 \/ i = 8 \/ i = 9 \/ i = 10 := by omega
   simp only [List.take_succ_cons, List.take_zero, putFrom, Act.put, List.setIfInBounds_toArray, List.set_cons_succ, List.set_cons_zero, Nat.zero_add, Nat.reduceAdd]
   have HBB := Bx.mk hb;have HTL := Bx.mk (show (l.take pl).length <= 100000 by have h1 := HN.out; rw [List.length_take]; omega);clear hb;rcases hcs with rfl | rfl | rfl | rfl | rfl | rfl | rfl | rfl | rfl | rfl | rfl
   all_goals
    simp only [List.getElem?_cons_succ, List.getElem?_cons_zero, zO] at ho9
    subst ho9;simp [NeedsB, Region.binds, WitF, WitFC] at hd
   all_goals clear hi9
   ·have HS := Bx.mk HBB.out.size;go_wp2_with fail
    exact ⟨rfl, rfl, ⟨_, rfl, heap_alloc_new _ _, HS.out⟩, (Below.refl _ _).alloc (zR _) _⟩
   ·go_wp2_with fail
    exact ⟨rfl, rfl, rfl, Below.refl _ _⟩
   ·go_wp2_with fail
    exact ⟨rfl, rfl, rfl, Below.refl _ _⟩
   ·obtain ⟨hd1, hd2⟩ := hd;have hu1 := HU1.out;go_wp2_with fail
    exact ⟨rfl, rfl, rfl, Below.refl _ _⟩
   ·obtain ⟨⟨g0, h0, hg0, hl0⟩, h3⟩ := hd;have hsr := (HR1.out.below HBB.out).src encI_ok;rw [<- h3] at hsr;have hsz := HBB.out.size;clear h3;go_wp2_with (at_builtin; refine wpList_append_fresh rfl _ _ _ rfl wc.heap.size 3 i0 _ 1 8 und_ints hi0 hz0 hz1 hz2 rfl (by decide) g0 h0 hg0 hl0 hsz (xs 3) (l.take pl).length ((l.take pl).flatMap encI) rfl hsr ?ap1 ?ap2 ?_)
    case ap1 => have := HTL.out; unfold maxLen; omega
    case ap2 => have := HTL.out; omega
    intro v' w4 hown hb4 _;have HO4 := Bx.mk (Own.of (l := l.take pl) hown (by have := HPC.out; simp; try omega) rfl);have HB4 := Bx.mk hb4;clear hown hb4 hsr hsz;go_wp2_with fail
    exact ⟨rfl, rfl, HO4.out, HB4.out⟩
   ·go_wp2_with fail
    exact ⟨rfl, rfl, rfl, Below.refl _ _⟩
   ·go_wp2_with fail
    exact ⟨rfl, rfl, ⟨_, rfl, by rw [heap_alloc_new]; rfl⟩, (Below.refl _ _).alloc (zR _) _⟩
   ·obtain ⟨hd1, ⟨g5, h5, hb5⟩, -⟩ := hd;have hsr : SrcV w1 1 (.slice (some ⟨g5, 0, none⟩) 1 1) 1 ([x].flatMap encI) := src_new encI_ok hb5;rw [<- h5] at hsr;have hsz := HBB.out.size;have hd1' : w1.ownsRow wc.heap.size 3 1 (xs 4) (l.take pl).length ((l.take pl).flatMap encI) := hd1;have HD1 := Bx.mk hd1;clear h5 hb5 hd1;go_wp2_with (at_builtin; refine wpList_append_any rfl _ _ _ rfl wc.heap.size 3 i0 _ 1 8 und_ints hi0 hz0 hz1 hz2 rfl (by decide) _ (l.take pl).length ((l.take pl).flatMap encI) rfl hd1' _ 1 ([x].flatMap encI) rfl hsr ?bp1 ?bp2 hsz ?_)
    case bp1 => have := HTL.out; unfold maxLen; omega
    case bp2 => have := HTL.out; omega
    intro v' w4 ha;have HO4 := Bx.mk (Own.apd (m := [x]) HD1.out (by simp) (by simp) (by have := HPC.out; simp; try omega) (by simp) ha);have HB4 := Bx.mk ((Below.refl wc.heap.size w1).grown ha.grown HBB.out.size fun k hk => (HD1.out.lt k hk).1);clear ha hsr hsz hd1';go_wp2_with fail
    exact ⟨rfl, rfl, HO4.out, HB4.out⟩
   ·go_wp2_with fail
    exact ⟨rfl, rfl, rfl, Below.refl _ _⟩
   ·go_wp2_with fail
    exact ⟨rfl, rfl, rfl, Below.refl _ _⟩
   ·obtain ⟨hd1, hd2⟩ := hd;have hu2 := HU2.out;go_wp2_with fail
    exact ⟨rfl, rfl, rfl, Below.refl _ _⟩
  ·intro xs w1 hb hf;have f1 := hf 1 (by omega) (fun c hc => by cases hc);have f2 := hf 2 (by omega) (fun c hc => by cases hc);have f3 := hf 3 (by omega) (fun c hc => by cases hc);have f5 := hf 5 (by omega) (fun c hc => by cases hc);have f7 := hf 7 (by omega) (fun c hc => by cases hc);have f8 := hf 8 (by omega) (fun c hc => by cases hc);have f9 := hf 9 (by omega) (fun c hc => by cases hc);have f10 := hf 10 (by omega) (fun c hc => by cases hc);simp only [WitF] at f1 f2 f3 f5 f7 f8 f9 f10
   have HBB := Bx.mk hb;have HO := Bx.mk f7;clear hf f7 hb;simp only [List.take_succ_cons, List.take_zero, List.drop_succ_cons, List.drop_zero, putFrom, Act.put, List.setIfInBounds_toArray, List.set_cons_succ, List.set_cons_zero, Nat.zero_add, Nat.reduceAdd, f1, f2, f3, f5, f8, f9, f10]
   clear f1 f2 f3 f5 f8 f9 f10;generalize xs 0 = X0 at *;generalize xs 4 = X4 at *;generalize xs 6 = X6 at *;generalize hX7 : xs 7 = X7 at *;clear hX7 xs;have hsr := (HR2.out.below HBB.out).src encI_ok;have hsz := HBB.out.size;have HLL := Bx.mk (show (l.take pl ++ [x]).length + (l.drop pl).length <= 200000 by have h1 := HN.out; simp; omega);have hd1' : w1.ownsRow wc.heap.size 3 1 X7 (l.take pl ++ [x]).length ((l.take pl ++ [x]).flatMap encI) := HO.out;have HNEW := Bx.mk (show l.take pl ++ [x] ++ l.drop pl = l.take pl ++ x :: l.drop pl by simp);generalize hE : l.take pl ++ x :: l.drop pl = EE at *;generalize hA : l.take pl ++ [x] = A at *;generalize hD : l.drop pl = D at *;clear hA;go_wp2_with (at_builtin; refine wpList_append_any rfl _ _ _ rfl wc.heap.size 3 i0 _ 1 8 und_ints hi0 hz0 hz1 hz2 rfl (by decide) _ A.length (A.flatMap encI) rfl hd1' _ D.length (D.flatMap encI) rfl hsr ?cp1 ?cp2 hsz ?_)
   case cp1 => have := HLL.out; unfold maxLen; omega
   case cp2 => have := HLL.out; omega
   intro v' w4 ha;have HO4 := Bx.mk (Own.apd (m := D) HO.out rfl rfl rfl rfl ha);have HB4 := Bx.mk (HBF.out.trans ((HBB.out.grown ha.grown HBB.out.size fun k hk => (HO.out.lt k hk).1).mono HBF.out.size));clear ha hsr hsz hd1';go_wp2
   go_ret;unfold WitP;exact ⟨_, pl, rfl, HPC.out, HINS.out.1, HINS.out.2, by rw [hD, hE, <- HNEW.out]; exact HO4.out.mono HBF.out.size, HB4.out⟩
end Go.Proofs.YtmagjdocondmhaaGreat.Tr.Gr
namespace Go.Proofs.YtmagjdocondmhaaGreat.Slc
open Go Go.RowKit
theorem wpList_append_freshQ {P : Program} {w : World} {ops : Array Oper} {rest : List Oper} {o : Oper} {a : Act} {Q : Exit -> Act -> World -> Prop} (hgd : o.guard = none) (s x : Operand) (t : TypeId)
  (ho : o.op = .call { callee := .builtin .append, args := #[s, x], argTypes := #[t, t] })
  (base : Nat) (e : TypeId) (i : TypeInfo) (z : Value) (size bytes : Nat) (ht : P.underlying t = some (.slice e)) (hi : P.info? e = some i) (hz : i.zero = some z)
  (hsize : i.size = size) (hby : i.bytes = bytes) (hzs : z.cells.size = size) (hsz : 0 < size) (g : Nat) (hs : a.eval s = .slice (some ⟨g, 0, none⟩) 0 0) (hg : w.heap[g]? = some (.cells #[] e (0, 0))) (hbg : base <= g) (hbase : base <= w.heap.size)
  (xv : Value) (m : Nat) (news : List Value) (hx : a.eval x = xv) (hsrc : SrcV w size xv m news \/ (m = 0 /\ news = [] /\ ∃ ad c, xv = .slice ad 0 c)) (h63 : m <= maxLen) (hbytes : m * bytes <= 140737488355328)
  (h : ∀ v' w', w'.ownsRow base e size v' m news -> Below w.heap.size w w' -> wpList P ops Q rest (a.put o.dst v') w') : wpList P ops Q (o :: rest) a w := by
 rcases hsrc with hsrc | ⟨rfl, rfl, ad, c, rfl⟩
 ·exact wpList_append_fresh hgd s x t ho base e i z size bytes ht hi hz hsize hby hzs hsz g hs hg hbg hbase xv m news hx hsrc h63 hbytes fun v' w' h1 h2 _ => h v' w' h1 h2
 ·cases ad with
  | some ad => exact wpList_append_fresh hgd s x t ho base e i z size bytes ht hi hz hsize hby hzs hsz g hs hg hbg hbase _ 0 [] hx (.ro ad 0 c [] (by simp) (by simp) (by simp)) h63 hbytes fun v' w' h1 h2 _ => h v' w' h1 h2
  | none =>
   subst hsize hby;have hown : w.ownsRow base e i.size (.slice (some ⟨g, 0, none⟩) 0 0) 0 [] := ⟨by simp, .inr ⟨g, 0, #[], rfl, hbg, hg, zR _, Nat.zero_le _, by simp, by simp⟩⟩
   have hr : (Builtin.append_ #[t, t] o.type #[.slice (some ⟨g, 0, none⟩) 0 0, .slice none 0 c]).run P w = .ok (.slice (some ⟨g, 0, none⟩) 0 0) w := by
    simp [Builtin.append_, run_underlying ht, sizeOf, typeInfo, hi, Builtin.lenOf, Builtin.firstCells, loadCells, loadCellsFrom, go_sem]
   refine wpList_plain hgd fun K hK => ?_
   unfold Oper.wp execOp;simp only [ho, resolve, invoke, builtin, Sem.run_bind, Sem.run_pure, Result.andThen_ok, List.map_toArray, List.map_cons, List.map_nil, hs, hx, hr]
   exact hK _ _ (h _ _ hown (Below.refl _ _))
end Go.Proofs.YtmagjdocondmhaaGreat.Slc
namespace Go.Proofs.YtmagjdocondmhaaGreat.Tr.Gr
open Go Go.RowKit Slc St Mp Tr Rg
attribute [local go_sem] Oper.semAt_some
def OV (w : World) (Bk : Nat) (x : Vt) : Prop := Slc.Own w Bk 9 1 encS x.u.val x.n.ex /\ Slc.Own w Bk 3 1 encI x.q.val x.n.par
theorem OV.below {w w' : World} {Bk : Nat} {x : Vt} (h : OV w Bk x) (hb : Below w.heap.size w w') : OV w' Bk x := ⟨h.1.below hb, h.2.below hb⟩
theorem OV.mono {w : World} {Bk Bk' : Nat} {x : Vt} (h : OV w Bk x) (hb : Bk' <= Bk) : OV w Bk' x := ⟨h.1.mono hb, h.2.mono hb⟩
theorem OV.grown {w w' : World} {Bk Bk' z : Nat} {t : TypeId} {α : Type} {enc : α -> List Value} {v : Value} {l : List α} {x : Vt} (h : OV w Bk x) (hv : Slc.Own w Bk' t z enc v l) (hs : 9 ≠ t) (hi : 3 ≠ t) (hg : w.grownBy w' v.ownBlock) : OV w' Bk x :=
 ⟨h.1.keep fun k hk hkl => hg.block k hkl fun e => own_type h.1 hv hs k hk e.symm, h.2.keep fun k hk hkl => hg.block k hkl fun e => own_type h.2 hv hi k hk e.symm⟩
theorem OV.vt {w : World} {Bk : Nat} {x : Vt} {S : Nat -> Prop} (h : OV w Bk x) (hok : Vx.Ok x.n) (hu : ∀ k, x.u.val.ownBlock = some k -> S k) (hq : ∀ k, x.q.val.ownBlock = some k -> S k) : VtIn w S x :=
 ⟨⟨h.1.rd, hu⟩, .inr ⟨h.2.rd, hq⟩, hok⟩
theorem GO.ov_ne {w : World} {Bk B2 z : Nat} {v : Value} {g : List Lv} (h : GO w Bk v g) {α : Type} {t : TypeId} {enc : α -> List Value} {u : Value} {l : List α} (hu : Slc.Own w B2 t z enc u l) (h1 : t ≠ 63) (h2 : t ≠ 65) (k : Nat) (hk : u.ownBlock = some k) : ¬ GB v g k := by
 rintro (q | ⟨L, hL, q⟩)
 ·exact own_type hu h.own h1 k hk q
 ·exact own_type hu (h.lv L hL) h2 k hk q
theorem q_src {w : World} {v : Value} {l : List Int} (h : RqIn w (fun k => k < w.heap.size) encI v l) : SrcV w 1 v l.length (l.flatMap encI) \/ (l.length = 0 /\ l.flatMap encI = [] /\ ∃ ad c, v = .slice ad 0 c) := by
 rcases h with ⟨rfl, a, c, rfl⟩ | h
 ·exact .inr ⟨rfl, rfl, a, c, rfl⟩
 ·exact .inl (h.1.src encI_ok)
def NQ (B : Nat) (g : List Lv) : Prop := ∀ L ∈ g, ∀ x ∈ L.vs, ∀ k, (x.u.val.ownBlock = some k \/ x.q.val.ownBlock = some k) -> B <= k
theorem NQ.mono {B B' : Nat} {g : List Lv} (h : NQ B g) (hB : B' <= B) : NQ B' g := fun L hL x hx k hk => Nat.le_trans hB (h L hL x hx k hk)
theorem NQ.nil (B : Nat) : NQ B [] := fun L hL => by cases hL
theorem NQ.set {B : Nat} {g : List Lv} (h : NQ B g) (i : Nat) {L' : Lv} (hL : ∀ x ∈ L'.vs, ∀ k, (x.u.val.ownBlock = some k \/ x.q.val.ownBlock = some k) -> B <= k) : NQ B (g.set i L') := fun L hm => by
 rcases List.mem_or_eq_of_mem_set hm with q | rfl
 ·exact h L q
 ·exact hL
theorem OV.nq {w : World} {Bk : Nat} {x : Vt} (h : OV w Bk x) : ∀ k, (x.u.val.ownBlock = some k \/ x.q.val.ownBlock = some k) -> Bk <= k := fun k hk => hk.elim (fun q => (h.1.lt k q).1) fun q => (h.2.lt k q).1
theorem NQ.of_ov {w : World} {Bk : Nat} {g : List Lv} (h : ∀ L ∈ g, ∀ x ∈ L.vs, OV w Bk x) : NQ Bk g := fun L hL x hx => (h L hL x hx).nq
def NK (w : World) (g g' : List Lv) : Prop := ∀ B, B <= w.heap.size -> NQ B g -> NQ B g'
theorem NK.refl (w : World) (g : List Lv) : NK w g g := fun _ _ h => h
theorem NK.trans {w w1 : World} {g g1 g2 : List Lv} (h : NK w g g1) (hs : w.heap.size <= w1.heap.size) (h' : NK w1 g1 g2) : NK w g g2 := fun B hB q => h' B (Nat.le_trans hB hs) (h B hB q)
def CgF (W0 : World) (lv : Value) (q : Nat) (x : Vt) : Nat -> Value -> World -> Prop
 | 0, v, _ => v = lv
 | 1, v, _ => v = .pointer (some ⟨q, 0, none⟩)
 | 2, v, _ => v = .string (bstr x.n.pol)
 | 3, v, w => ∃ g, v = .slice (some ⟨g, 0, none⟩) 0 0 /\ w.heap[g]? = some (.cells #[] 9 (0, 0)) /\ W0.heap.size <= g
 | 4, v, _ => v = .pointer (some ⟨q, 1, none⟩)
 | 5, v, _ => v = x.u.val
 | 6, v, w => Slc.Own w W0.heap.size 9 1 encS v x.n.ex
 | 7, v, w => ∃ g, v = .slice (some ⟨g, 0, none⟩) 0 0 /\ w.heap[g]? = some (.cells #[] 3 (0, 0)) /\ W0.heap.size <= g
 | 8, v, _ => v = .pointer (some ⟨q, 2, none⟩)
 | 9, v, _ => v = x.q.val
 | 10, v, w => Slc.Own w W0.heap.size 3 1 encI v x.n.par
 | 11, v, w => ∃ u p : Sl, v = .agg #[.string (bstr x.n.pol), u.val, p.val] /\ Slc.Own w W0.heap.size 9 1 encS u.val x.n.ex /\ Slc.Own w W0.heap.size 3 1 encI p.val x.n.par
 | 12, v, w => ∃ g : Nat, ∃ u p : Sl, v = .slice (some ⟨g, 0, none⟩) 1 1 /\ W0.heap.size <= g /\ w.heap[g]? = some (.cells #[.string (bstr x.n.pol), u.val, p.val] 65 (0, 0)) /\ Slc.Own w W0.heap.size 9 1 encS u.val x.n.ex /\ Slc.Own w W0.heap.size 3 1 encI p.val x.n.par
 | _, _, _ => True
theorem CgF.stable (W0 : World) (lv : Value) (q : Nat) (x : Vt) (i : Nat) (v : Value) (w w' : World) (h : CgF W0 lv q x i v w) (hb : Below w.heap.size w w') : CgF W0 lv q x i v w' := by
 match i with
 | 0 | 1 | 2 | 4 | 5 | 8 | 9 => exact h
 | 3 => obtain ⟨g, h1, h2, h3⟩ := h; exact ⟨g, h1, (hb.block g (lt_of_some h2)).trans h2, h3⟩
 | 7 => obtain ⟨g, h1, h2, h3⟩ := h; exact ⟨g, h1, (hb.block g (lt_of_some h2)).trans h2, h3⟩
 | 6 => exact Slc.Own.below (t := 9) h hb
 | 10 => exact Slc.Own.below (t := 3) h hb
 | 11 => obtain ⟨u, p, h1, h2, h3⟩ := h; exact ⟨u, p, h1, h2.below hb, h3.below hb⟩
 | 12 => obtain ⟨g, u, p, h1, h0, h2, h3, h4⟩ := h; exact ⟨g, u, p, h1, h0, (hb.block g (lt_of_some h2)).trans h2, h3.below hb, h4.below hb⟩
 | _ + 13 => exact trivial
theorem rcopy_ov (w : World) (v : Value) (g : List Lv) (h : GL w v g) (hn : g.length <= 100000) (hln : ∀ L ∈ g, L.vs.length <= 100000) :
  Calls Tryz.prog 59 #[v] w fun e w' => ∃ v' g', e = .returned v' /\ GO w' w.heap.size v' g' /\ gxs g' = gxs g /\ Below w.heap.size w w' /\ ∀ L ∈ g', ∀ x ∈ L.vs, OV w' w.heap.size x := by
 obtain ⟨i0, hi0, hz0, hz1, hz2⟩ := info_parts info_ver;obtain ⟨il, hil, hil0, hil1, hil2⟩ := info_parts info_lev;obtain ⟨ib, hib, hib0, hib1, hib2⟩ := info_parts info_int;obtain ⟨is, his, his0, his1, his2⟩ := info_parts info_str;obtain ⟨ad, c, rfl, -⟩ := h.rd.form;have HG := Bx.mk h;have HLN := Bx.mk hln;have HC := Bx.mk (ls_cells h.rd).2;obtain ⟨N, hN⟩ : ∃ N, N = g.length := ⟨_, rfl⟩
 have HN := Bx.mk hN;rw [<- hN] at hn |-;clear h hln hN;go_enter Tryz.func59, Tryz.ntmps59;go_wp2_with fail
 go_loopw [3, 4] (fun ov i wr => ∃ j : Nat, ∃ gc : List Lv, j <= N /\ i = .int .i64 j /\ Bx (GO wr w.heap.size ov gc) /\ Bx (∀ L ∈ gc, ∀ x ∈ L.vs, OV wr w.heap.size x) /\ Bx (gxs gc = (gxs g).take j) /\ Bx (Below w.heap.size w wr)) (fun _ i _ => N - (intOf i).toNat)
 case atStart => exact ⟨0, [], by omega, rfl, ⟨GO.nil _ _⟩, ⟨fun L hL => by cases hL⟩, ⟨rfl⟩, ⟨Below.refl _ _⟩⟩
 case round =>
  obtain ⟨j, gc, hj, rfl, hGO, hOV, hGX, hBw⟩ := hrel;obtain ⟨oa, oc, hov, -⟩ := hGO.out.own.rd.form;obtain ⟨GN, hGN⟩ : ∃ GN, GN = gc.length := ⟨_, rfl⟩
  have HGN := Bx.mk (show GN = j by
   have := congrArg List.length hGX.out;simp only [gxs, List.length_map, List.length_take] at this
   have h1 := HN.out
   omega)
  rw [<- hGN] at hov;have HGL := Bx.mk hGN;clear hGN;subst hov;by_cases hlt : j < N
  ·have hjl : j < g.length := by rw [<- HN.out]; exact hlt
   have HJL := Bx.mk hjl;have hBw' := hBw.out;obtain ⟨gb, go, rfl, hgbl, hc0⟩ := HC.out wr (fun k hk _ => hBw'.block k hk) j hjl;have HVL := Bx.mk (HG.out.lv _ (zM hjl));have HNVb := HLN.out _ (zM hjl);obtain ⟨L, hL⟩ : ∃ L, L = g[j]'HJL.out := ⟨_, rfl⟩
   have HL := Bx.mk hL;rw [<- hL] at hc0 HVL HNVb;obtain ⟨la, lc, hls, -⟩ := HVL.out.rd.form;rw [hls] at hc0 HVL;obtain ⟨NV, hNV⟩ : ∃ NV, NV = L.vs.length := ⟨_, rfl⟩
   have HNV := Bx.mk hNV;rw [<- hNV] at hc0 HNVb;have HC0 := Bx.mk hc0;have HGBL := Bx.mk (show gb < wr.heap.size by have := hBw'.size; omega);have HBW := Bx.mk hBw';have HSZ := Bx.mk hBw'.size;obtain ⟨w1, hw1⟩ : ∃ w1, w1 = wr := ⟨_, rfl⟩
   rw [<- hw1] at hGO hOV HBW HSZ HC0 HGBL hc0;have hW0 := Bx.mk (show Below w1.heap.size w1 wr by rw [hw1]; exact Below.refl _ _);clear hBw hBw' hls hNV hL hgbl hjl hc0 hw1;go_wp2_with fail
   go_loopw [5, 6] (fun lv i wz => ∃ k : Nat, ∃ vs' : List Vt, k <= NV /\ i = .int .i64 k /\ Bx (Slc.Own wz w1.heap.size 65 3 encV lv vs') /\ Bx (vxs vs' = (vxs L.vs).take k) /\ Bx (∀ x ∈ vs', OV wz w1.heap.size x /\ Vx.Ok x.n) /\ Bx (Below w1.heap.size w1 wz)) (fun _ i _ => NV - (intOf i).toNat)
   case atStart => exact ⟨0, [], by omega, rfl, ⟨Slc.Own.nil _ _⟩, ⟨rfl⟩, ⟨fun x hx => by cases hx⟩, hW0⟩
   case round =>
    clear hW0;obtain ⟨k, vs', hk, rfl, hO, hX, hV, hBz⟩ := hrel;obtain ⟨va, vc, hvv, -⟩ := hO.out.rd.form;obtain ⟨KL, hKL⟩ : ∃ KL, KL = vs'.length := ⟨_, rfl⟩
    have HKL := Bx.mk (show KL = k by
     have := congrArg List.length hX.out;simp only [vxs, List.length_map, List.length_take] at this
     have h1 := HNV.out
     omega)
    have HKV := Bx.mk hKL;rw [<- hKL] at hvv;clear hKL;subst hvv;have hcg := (hBz.out.cell (p := ⟨gb, go + j, none⟩) HGBL.out).trans HC0.out;by_cases hlt2 : k < NV
    ·have hkl : k < L.vs.length := by rw [<- HNV.out]; exact hlt2
     have hbzw : Below w.heap.size w wr := HBW.out.trans (hBz.out.mono HBW.out.size);obtain ⟨b, o, rfl, hbl, c0, c1, c2⟩ := HVL.out.at3 wr hbzw k hkl;have HAT := Bx.mk ((HVL.out.at_ _ (zM hkl)).below hbzw)
     have HTK := Bx.mk (show (vxs L.vs).take (k + 1) = (vxs L.vs).take k ++ [(L.vs[k]).n] by
      rw [zA (by simp; exact hkl)]; simp)
     obtain ⟨x, hx⟩ : ∃ x, x = L.vs[k] := ⟨_, rfl⟩
     rw [<- hx] at c0 c1 c2 HAT HTK;simp only [Sl.val] at c1 c2
     obtain ⟨W2, hW2⟩ : ∃ W2, W2 = wr.alloc (.cells #[.string (bstr x.n.pol), .slice x.u.ad x.u.n x.u.c, .slice x.q.ad x.q.n x.q.c] 65) := ⟨_, rfl⟩
     have hb2 : Below wr.heap.size wr W2 := (by rw [hW2]; exact (Below.refl _ _).alloc (zR _) _);obtain ⟨q9, hq9⟩ : ∃ q, q = wr.heap.size := ⟨_, rfl⟩
     have HR9 := Bx.mk (show W2.heap[q9]? = some (.cells #[.string (bstr x.n.pol), .slice x.u.ad x.u.n x.u.c, .slice x.q.ad x.q.n x.q.c] 65 (0, 0)) by rw [hW2, hq9]; exact heap_alloc_new _ _);have HB2 := Bx.mk hb2;have HAT2 := Bx.mk (HAT.out.below hb2);have HO2 := Bx.mk (hO.out.below hb2);have HV2 := Bx.mk (show ∀ y ∈ vs', OV W2 w1.heap.size y /\ Vx.Ok y.n from fun y hy => ⟨(hV.out y hy).1.below hb2, (hV.out y hy).2⟩);have HBZ2 := Bx.mk (hBz.out.trans (hb2.mono hBz.out.size));have HLB := Bx.mk (show x.n.ex.length <= 100000 /\ x.n.par.length <= 100000 from ⟨by have := HAT.out.2.2.1.1; omega, HAT.out.2.2.2.2.1⟩);clear hb2 hx hkl hbzw hO hV hBz hbl HAT;go_upto_region 10 with fail
     rw [<- hW2, <- hq9];clear hW2 hq9 c0 c1 c2 hcg;refine wp_region_facts 13 (CgF W2 (.slice va KL vc) q9 x) (by kernel_rfl) (by kernel_rfl) (by rfl) (CgF.stable _ _ _ _) ?_ ?_
     ·intro i oo hi9 ho9 xs w3 hb hd;have hcs : i = 0 \/ i = 1 \/ i = 2 \/ i = 3 \/ i = 4 \/ i = 5 \/ i = 6 \/ i = 7 \/ i = 8 \/ i = 9 \/ i = 10 \/ i = 11 \/ i = 12 := (by omega);simp only [List.take_succ_cons, List.take_zero, putFrom, Act.put, List.setIfInBounds_toArray, List.set_cons_succ, List.set_cons_zero, Nat.zero_add, Nat.reduceAdd]
      have HBB := Bx.mk hb;have hr9 := (hb.block q9 (lt_of_some HR9.out)).trans HR9.out;have m0 := cell_of_row _ _ 0 _ _ _ hr9;have m1 := cell_of_row _ _ 1 _ _ _ hr9;have m2 := cell_of_row _ _ 2 _ _ _ hr9;simp only [List.getElem?_toArray, List.getElem?_cons_zero, List.getElem?_cons_succ] at m0 m1 m2
      clear hb hr9;rcases hcs with rfl | rfl | rfl | rfl | rfl | rfl | rfl | rfl | rfl | rfl | rfl | rfl | rfl
      all_goals
       simp only [List.getElem?_cons_succ, List.getElem?_cons_zero, zO] at ho9
       subst ho9;simp [Needs, Region.binds, CgF] at hd
      all_goals clear hi9
      ·go_wp2_with fail
       exact ⟨rfl, rfl, rfl, Below.refl _ _⟩
      ·go_wp2_with fail
       exact ⟨rfl, rfl, rfl, Below.refl _ _⟩
      ·go_wp2_with fail
       exact ⟨rfl, rfl, rfl, Below.refl _ _⟩
      ·have HS := Bx.mk HBB.out.size;go_wp2_with fail
       exact ⟨rfl, rfl, ⟨_, rfl, heap_alloc_new _ _, HS.out⟩, (Below.refl _ _).alloc (zR _) _⟩
      ·go_wp2_with fail
       exact ⟨rfl, rfl, rfl, Below.refl _ _⟩
      ·go_wp2_with fail
       exact ⟨rfl, rfl, rfl, Below.refl _ _⟩
      ·obtain ⟨⟨g0, h0, hg0, hl0⟩, h5⟩ := hd;have hsz := HBB.out.size;have hsr := (HAT2.out.1.1.below HBB.out).src encS_ok;have hap := HLB.out.1;rw [<- h5] at hsr;obtain ⟨EX, hEX⟩ : ∃ EX, EX = x.n.ex := ⟨_, rfl⟩
       have HEX := Bx.mk hEX;rw [<- hEX] at hsr hap;clear hEX;clear h5 m0 m1 m2;go_wp2_with (at_builtin; refine wpList_append_fresh rfl _ _ _ rfl W2.heap.size 9 is _ 1 16 und_strs his his0 his1 his2 rfl (by decide) g0 h0 hg0 hl0 hsz (xs 5) EX.length (EX.flatMap encS) rfl hsr ?ap1 ?ap2 ?_)
       case ap1 => unfold maxLen; omega
       case ap2 => omega
       intro v' w4 hown hb4 _;have HO4 := Bx.mk (Own.of (l := EX) hown rfl rfl);have HB4 := Bx.mk hb4;clear hown hb4 hsr hsz;go_wp2_with fail
       exact ⟨rfl, rfl, (by have q := HO4.out; rw [HEX.out] at q; exact q), HB4.out⟩
      ·have HS := Bx.mk HBB.out.size;go_wp2_with fail
       exact ⟨rfl, rfl, ⟨_, rfl, heap_alloc_new _ _, HS.out⟩, (Below.refl _ _).alloc (zR _) _⟩
      ·go_wp2_with fail
       exact ⟨rfl, rfl, rfl, Below.refl _ _⟩
      ·go_wp2_with fail
       exact ⟨rfl, rfl, rfl, Below.refl _ _⟩
      ·obtain ⟨⟨g0, h0, hg0, hl0⟩, h5, -⟩ := hd;have hsz := HBB.out.size;have hsr := q_src (HAT2.out.2.1.below HBB.out).all;have hap := HLB.out.2;rw [<- h5] at hsr;obtain ⟨EX, hEX⟩ : ∃ EX, EX = x.n.par := ⟨_, rfl⟩
       have HEX := Bx.mk hEX;rw [<- hEX] at hsr hap;clear hEX;clear h5 m0 m1 m2;go_wp2_with (at_builtin; refine wpList_append_freshQ rfl _ _ _ rfl W2.heap.size 3 ib _ 1 8 und_ints hib hib0 hib1 hib2 rfl (by decide) g0 h0 hg0 hl0 hsz (xs 9) EX.length (EX.flatMap encI) rfl hsr ?bp1 ?bp2 ?_)
       case bp1 => unfold maxLen; omega
       case bp2 => omega
       intro v' w4 hown hb4;have HO4 := Bx.mk (Own.of (l := EX) hown rfl rfl);have HB4 := Bx.mk hb4;clear hown hb4 hsr hsz;go_wp2_with fail
       exact ⟨rfl, rfl, (by have q := HO4.out; rw [HEX.out] at q; exact q), HB4.out⟩
      ·obtain ⟨h2, h6, h10⟩ := hd;obtain ⟨u6, e6⟩ := sl_of h6;obtain ⟨u10, e10⟩ := sl_of h10;have H6 := Bx.mk (e6 ▸ h6);have H10 := Bx.mk (e10 ▸ h10);simp only [Sl.val] at e6 e10
       clear h6 h10 m0 m1 m2;go_wp2_with fail
       exact ⟨rfl, rfl, ⟨u6, u10, rfl, H6.out, H10.out⟩, Below.refl _ _⟩
      ·obtain ⟨u6, u10, h11, h6, h10⟩ := hd;have H6 := Bx.mk h6;have H10 := Bx.mk h10;have HS := Bx.mk HBB.out.size;simp only [Sl.val] at h11
       clear h6 h10 m0 m1 m2;go_wp2_with fail
       have hA : Below w3.heap.size w3 (w3.alloc (.cells #[.string (bstr x.n.pol), .slice u6.ad u6.n u6.c, .slice u10.ad u10.n u10.c] 65)) := (Below.refl _ _).alloc (zR _) _;exact ⟨rfl, rfl, ⟨_, u6, u10, rfl, HS.out, heap_alloc_new _ _, H6.out.below hA, H10.out.below hA⟩, hA⟩
     ·intro xs w3 hb hf;have f0 := hf 0 (by omega);have f12 := hf 12 (by omega);simp only [CgF] at f0 f12
      obtain ⟨bz, u, p, f12, hbz0, hbz1, hbu, hbp⟩ := f12;have HBB := Bx.mk hb;have HOU := Bx.mk hbu;have HOP := Bx.mk hbp;have hsrc : SrcV w3 3 (.slice (some ⟨bz, 0, none⟩) 1 1) 1 ([(⟨x.n, u, p⟩ : Vt)].flatMap encV) := src_new encV_ok hbz1;have HOWN := Bx.mk (HO2.out.below hb)
      have HOWR := Bx.mk (show World.ownsRow w3 w1.heap.size 65 3 (.slice va KL vc) KL (vs'.flatMap encV) by
       have := HOWN.out;unfold Slc.Own at this
       rwa [<- HKV.out] at this)
      have hbzz : w1.heap.size <= w3.heap.size := Nat.le_trans HBZ2.out.size hb.size;have hm1 : KL + 1 <= maxLen := (by have := HKL.out; unfold maxLen; omega);have hm2 : (KL + 1) * 64 <= 140737488355328 := (by have := HKL.out; omega);clear hf hbz0 hbz1 hbu hbp hb;simp only [List.take_succ_cons, List.take_zero, List.drop_succ_cons, List.drop_zero, putFrom, Nat.zero_add, Nat.reduceAdd, f0, f12]
      clear f0 f12;generalize xs 1 = x1, xs 2 = x2, xs 3 = x3, xs 4 = x4, xs 5 = x5, xs 6 = x6, xs 7 = x7, xs 8 = x8, xs 9 = x9, xs 10 = x10, xs 11 = x11;simp only [Act.put, List.setIfInBounds_toArray, List.set_cons_succ, List.set_cons_zero]
      go_wp2_with (at_builtin; refine wpList_append_any rfl _ _ _ rfl w1.heap.size 65 i0 _ 3 64 und_vers hi0 hz0 hz1 hz2 rfl (by decide) _ KL (vs'.flatMap encV) rfl HOWR.out _ 1 ([(⟨x.n, u, p⟩ : Vt)].flatMap encV) rfl hsrc hm1 hm2 hbzz ?_)
      intro v9 w9 hapd;have HO9 := Bx.mk (show Slc.Own w9 w1.heap.size 65 3 encV v9 (vs' ++ [⟨x.n, u, p⟩]) from (by have := HOWN.out; exact this.apd (m := [(⟨x.n, u, p⟩ : Vt)]) rfl rfl HKV.out rfl hapd))
      have HV9 := Bx.mk (show ∀ y ∈ vs' ++ [(⟨x.n, u, p⟩ : Vt)], OV w9 w1.heap.size y /\ Vx.Ok y.n from fun y hy => by
       rcases List.mem_append.1 hy with q | q
       ·exact ⟨((HV2.out y q).1.below HBB.out).grown HOWN.out (by decide) (by decide) hapd.grown, (HV2.out y q).2⟩
       ·rw [zS] at q;subst q
        exact ⟨(OV.mono (Bk := W2.heap.size) ⟨HOU.out, HOP.out⟩ HBZ2.out.size).grown HOWN.out (by decide) (by decide) hapd.grown, HAT2.out.2.2⟩)
      have HX9 := Bx.mk (show vxs (vs' ++ [(⟨x.n, u, p⟩ : Vt)]) = (vxs L.vs).take (k + 1) by
       rw [HTK.out, <- hX.out]; simp [vxs])
      have HB9 := Bx.mk (show Below w1.heap.size w1 w9 from (HBZ2.out.trans (HBB.out.mono HBZ2.out.size)).grown hapd.grown hbzz fun q hq => (HOWN.out.lt q hq).1);clear hapd hsrc hbzz hm1 hm2 HOWR;go_wp2_with fail
      go_roundw
      case rel => exact ⟨k + 1, vs' ++ [(⟨x.n, u, p⟩ : Vt)], by omega, by go_num, HO9, HX9, HV9, HB9⟩
      case measure => simp [intOf]; omega
    ·obtain rfl : k = NV := by omega
     have hb9 := hBz.out;have HXF := Bx.mk (show vxs vs' = vxs L.vs by rw [hX.out, List.take_of_length_le (by simp; have := HNV.out; omega)]);obtain ⟨W3, hW3⟩ : ∃ W3, W3 = wr.alloc (.cells #[.slice va KL vc] 63) := ⟨_, rfl⟩
     have hb3 : Below wr.heap.size wr W3 := (by rw [hW3]; exact (Below.refl _ _).alloc (zR _) _);have hG3 : GO W3 w.heap.size (.slice oa GN oc) gc := ((hGO.out.below hb9).below hb3);have hL1 : Slc.Own W3 w1.heap.size 65 3 encV (.slice va KL vc) vs' := hO.out.below hb3;have hL3 : Slc.Own W3 w.heap.size 65 3 encV (.slice va KL vc) vs' := hL1.mono HSZ.out;have HG3 := Bx.mk hG3;have HL3 := Bx.mk hL3;have HL1 := Bx.mk hL1;have HOVg := Bx.mk (show ∀ L0 ∈ gc, ∀ x ∈ L0.vs, OV W3 w.heap.size x from fun L0 h0 x hx => ((hOV.out L0 h0 x hx).below hb9).below hb3);have HOVl := Bx.mk (show ∀ x ∈ vs', OV W3 w.heap.size x /\ Vx.Ok x.n from fun x hx => ⟨((hV.out x hx).1.below hb3).mono HSZ.out, (hV.out x hx).2⟩);have HSRC := Bx.mk (show SrcV W3 1 (.slice (some ⟨wr.heap.size, 0, none⟩) 1 1) 1 ([(⟨vs', ⟨va, KL, vc⟩⟩ : Lv)].flatMap encL) by rw [hW3]; exact src_new encL_ok (heap_alloc_new _ _))
     have HOWR := Bx.mk (show World.ownsRow W3 w.heap.size 63 1 (.slice oa GN oc) GN (gc.flatMap encL) by
      have := hG3.own;unfold Slc.Own at this
      rwa [<- HGL.out] at this)
     have HBW3 := Bx.mk (show Below w.heap.size w W3 from (HBW.out.trans (hb9.mono HBW.out.size)).trans (hb3.mono (by have := HBW.out.size; have := hb9.size; omega)));have hm1 : GN + 1 <= maxLen := (by have := HGN.out; unfold maxLen; omega);have hm2 : (GN + 1) * 24 <= 140737488355328 := by have := HGN.out; omega
     have HNB := Bx.mk (show ∀ L0 ∈ gc, ∀ k, L0.s.val.ownBlock = some k -> ¬ w1.heap.size <= k from fun L0 h0 k hk h1 => by
      have := (hGO.out.lt (k := k) (.inr ⟨L0, h0, hk⟩)).2; omega)
     have HWR := Bx.mk (show wr.heap.size < W3.heap.size by rw [hW3]; simp);have HRWW := Bx.mk hW3;clear hb9 hb3 hG3 hL1 hL3 hO hV hX hBz hOV hGO HRWW;subst hW3;have hbz3 := HBW3.out.size;go_wp2_with (at_builtin; refine wpList_append_any rfl _ _ _ rfl w.heap.size 63 il _ 1 24 und_levs hil hil0 hil1 hil2 rfl (by decide) _ GN (gc.flatMap encL) rfl HOWR.out _ 1 ([(⟨vs', ⟨va, KL, vc⟩⟩ : Lv)].flatMap encL) rfl HSRC.out hm1 hm2 hbz3 ?_)
     intro v9 w9 hapd
     have hgs := HG3.out.snoc ⟨vs', ⟨va, KL, vc⟩⟩ HL3.out (fun k hk hn => by
       have h1 := (HL1.out.lt k hk).1;rcases hn with q | ⟨L0, h0, q⟩
       ·have := own_type HL1.out HG3.out.own (by decide) k hk; exact this q
       ·exact HNB.out L0 h0 k q h1)
      (fun L0 h0 x hx => (HOVg.out L0 h0 x hx).vt (HG3.out.nm L0 h0 x hx).2.2 (fun k hk e => own_type (HOVg.out L0 h0 x hx).1 HL3.out (by decide) k hk e) (fun k hk e => own_type (HOVg.out L0 h0 x hx).2 HL3.out (by decide) k hk e))
      (fun x hx => (HOVl.out x hx).1.vt (HOVl.out x hx).2 (fun k hk => ⟨HG3.out.ov_ne (HOVl.out x hx).1.1 (by decide) (by decide) k hk, fun e => own_type (HOVl.out x hx).1.1 HL3.out (by decide) k hk e⟩) (fun k hk => ⟨HG3.out.ov_ne (HOVl.out x hx).1.2 (by decide) (by decide) k hk, fun e => own_type (HOVl.out x hx).1.2 HL3.out (by decide) k hk e⟩))
      rfl rfl HGL.out rfl hapd
     have HGO9 := Bx.mk hgs.1
     have HOV9 := Bx.mk (show ∀ L0 ∈ gc ++ [(⟨vs', ⟨va, KL, vc⟩⟩ : Lv)], ∀ x ∈ L0.vs, OV w9 w.heap.size x from fun L0 h0 x hx => by
      rcases List.mem_append.1 h0 with q | q
      ·exact (HOVg.out L0 q x hx).grown HG3.out.own (by decide) (by decide) hapd.grown
      ·rw [zS] at q;subst q
       exact (HOVl.out x hx).1.grown HG3.out.own (by decide) (by decide) hapd.grown)
     have HX9 := Bx.mk (show gxs (gc ++ [(⟨vs', ⟨va, KL, vc⟩⟩ : Lv)]) = (gxs g).take (j + 1) by
      rw [zA (by simp [gxs]; exact HJL.out), <- hGX.out];simp only [gxs, List.map_append, List.map_cons, List.map_nil, List.getElem_map]
      rw [HXF.out, HL.out])
     have HB9 := Bx.mk (show Below w.heap.size w w9 from HBW3.out.grown hapd.grown HBW3.out.size fun q hq => (HG3.out.own.lt q hq).1);clear hapd hgs hm1 hm2 hbz3;go_wp2_with fail
     go_roundw
     case rel => exact ⟨j + 1, gc ++ [(⟨vs', ⟨va, KL, vc⟩⟩ : Lv)], by omega, by go_num, HGO9, HOV9, HX9, HB9⟩
     case measure => simp [intOf]; omega
  ·obtain rfl : j = N := by omega
   have HF := Bx.mk (show gxs gc = gxs g by rw [hGX.out, List.take_of_length_le (by simp [gxs]; have := HN.out; omega)]);go_wp2_with fail
   go_ret;exact ⟨_, gc, rfl, hGO.out, HF.out, hBw.out, hOV.out⟩
end Go.Proofs.YtmagjdocondmhaaGreat.Tr.Gr
namespace Go.Proofs.YtmagjdocondmhaaGreat.Tr.Gr
open Go Go.RowKit Slc St Mp Tr
attribute [local go_sem] Oper.semAt_some
theorem gtable_any (w : World) (v : Value) (l : List (B × B)) (h : Rd w encP v l) (hn : l.length <= 100000) (hx : ∀ m ∈ l, m.1.length <= 1000000 /\ m.2.length <= 1000000) :
  Calls Tryz.prog 60 #[v] w fun e w' => ∃ bm f, e = .returned (.map (some bm)) /\ w.heap.size <= bm /\ TabP w' l bm f /\ Below w.heap.size w w' /\ ∀ p s, f p = some s -> ∀ b, s.val.ownBlock = some b -> bm < b := by
 obtain ⟨i0, hi0, hz0, hz1, hz2⟩ := info_parts info_str;obtain ⟨ad, c, rfl, -⟩ := h.form;have HC := Bx.mk (maps_cells h).2;have HXX := Bx.mk hx;obtain ⟨N, hN⟩ : ∃ N, N = l.length := ⟨_, rfl⟩
 have HN := Bx.mk hN;rw [<- hN] at hn |-;clear h hx hN;have hmm := @run_makeMap Tryz.prog;obtain ⟨W0, hW0⟩ : ∃ W0, W0 = w.alloc (.map #[] 0) := ⟨_, rfl⟩
 obtain ⟨bm, hbm⟩ : ∃ bm, bm = w.heap.size := ⟨_, rfl⟩
 have HBM := Bx.mk hbm;have HM0 := Bx.mk (show ∃ q, q <= 0 /\ OwnF W0 kS rdS edS bm q (fun _ => none) from ⟨0, zR _, by rw [hW0, hbm]; exact OwnF.made w kS rdS edS⟩);have HT0 := Bx.mk (show TB W0 bm (fun _ => none) (gK l 0) from ⟨fun p => (by simp [gK_zero]), (by intro p s hp; cases hp), (by intro p p' s s' hp; cases hp)⟩);have HB0 := Bx.mk (show Below bm w W0 by rw [hW0, hbm]; exact (Below.refl _ _).alloc (zR _) _);go_enter Tryz.func60, Tryz.ntmps60;go_wp2_with fail
 rw [<- hW0, <- hbm];clear hW0 hbm hmm;go_loopw [11] (fun i wr => ∃ (k : Nat) (f : B -> Option Sg), k <= N /\ i = .int .i64 k /\ Bx (TB wr bm f (gK l k)) /\ Bx (∃ q, q <= k /\ OwnF wr kS rdS edS bm q f) /\ Bx (Below bm w wr)) (fun i _ => N - (intOf i).toNat)
 case atStart => exact ⟨0, _, by omega, rfl, HT0, HM0, HB0⟩
 case round =>
  clear HT0 HM0 HB0;obtain ⟨k, f, hk, rfl, hT, hM, hBw⟩ := hrel;have hb0 : Below w.heap.size w wr := HBM.out ▸ hBw.out;by_cases hlt : k < N
  ·have hkl : k < l.length := by rw [<- HN.out]; exact hlt
   obtain ⟨b, o, rfl, hbl, c0, c1⟩ := HC.out wr hb0 k hkl;have HGS := Bx.mk (gK_succ l k hkl);have HXK := Bx.mk (HXX.out l[k] (zM hkl));obtain ⟨m, hm⟩ : ∃ m, m = l[k] := ⟨_, rfl⟩
   rw [<- hm] at c0 c1 HGS HXK;clear hm hkl hbl;obtain ⟨W1, hW1⟩ : ∃ W1, W1 = wr.alloc (.cells #[.string (bstr m.1), .string (bstr m.2)] 49) := ⟨_, rfl⟩
   obtain ⟨bn, hbn⟩ : ∃ bn, bn = wr.heap.size := ⟨_, rfl⟩
   have HBN := Bx.mk hbn;have hq1 : W1.heap[bn]? = some (.cells #[.string (bstr m.1), .string (bstr m.2)] 49 (0, 0)) := by rw [hW1, hbn]; exact heap_alloc_new _ _
   have HBA := Bx.mk (show Below wr.heap.size wr W1 by rw [hW1]; exact (Below.refl _ _).alloc (zR _) _);have hbsz := hBw.out.size;have HBWA := Bx.mk (show Below bm w W1 from hBw.out.trans (HBA.out.mono (by have := HBM.out; omega)));have HTA := Bx.mk (hT.out.below HBA.out);have HMA := Bx.mk (show ∃ q, q <= k /\ OwnF W1 kS rdS edS bm q f by obtain ⟨q, h1, h2⟩ := hM.out; exact ⟨q, h1, h2.below HBA.out⟩);have HQ1 := Bx.mk hq1;go_upto_region 5 with fail
   rw [<- hW1, <- hbn];clear hW1 hbn c0 c1;have m0 := cell_of_row _ _ 0 _ _ _ hq1;have m1 := cell_of_row _ _ 1 _ _ _ hq1;simp only [List.getElem?_toArray, List.getElem?_cons_zero, List.getElem?_cons_succ] at m0 m1
   clear hq1 hbsz;have hs1 := same_any m.1;have hs2 := same_any m.2;obtain ⟨t1, ht1⟩ : ∃ t, t = decide (m.1 = anyP) := ⟨_, rfl⟩
   obtain ⟨t2, ht2⟩ : ∃ t, t = decide (m.2 = anyP) := ⟨_, rfl⟩
   have HOK := Bx.mk (show okM m = (!t1 && !t2) by unfold okM; rw [ht1, ht2, <- decide_not, <- decide_not]);rw [<- ht1] at hs1;rw [<- ht2] at hs2;clear ht1 ht2
   have hskip : okM m = false -> TB W1 bm f (gK l (k + 1)) := fun e => by
    have : gK l (k + 1) = gK l k := (by funext p; rw [HGS.out, e]; simp);rw [this]; exact HTA.out
   have HSK := Bx.mk hskip;clear hskip
   cases t1 with
   | true =>
    have HT2 := Bx.mk (HSK.out (by rw [HOK.out]; rfl));go_wp2_with fail
    go_roundw
    case rel => exact ⟨k + 1, f, by omega, by go_num, HT2, ⟨by obtain ⟨q, h1, h2⟩ := HMA.out; exact ⟨q, by omega, h2⟩⟩, HBWA⟩
    case measure => simp [intOf]; omega
   | false =>
   cases t2 with
   | true =>
    have HT2 := Bx.mk (HSK.out (by rw [HOK.out]; rfl));go_wp2_with fail
    go_roundw
    case rel => exact ⟨k + 1, f, by omega, by go_num, HT2, ⟨by obtain ⟨q, h1, h2⟩ := HMA.out; exact ⟨q, by omega, h2⟩⟩, HBWA⟩
    case measure => simp [intOf]; omega
   | false =>
    obtain ⟨q, hq, hop⟩ := HMA.out;have HQK := Bx.mk hq;have HOP := Bx.mk hop;have HOWN := Bx.mk (HTA.out.get m.1);obtain ⟨sv, hsv⟩ : ∃ s, s = (f m.1).getD nilS := ⟨_, rfl⟩
    have HSV := Bx.mk hsv;rw [<- hsv] at HOWN;have hvl : ∀ j, sv.val.ownBlock = some j -> j < W1.heap.size := fun j hj => (HOWN.out.lt j hj).2
    have hvb : ∀ j, sv.val.ownBlock = some j -> j ≠ bm /\ j ≠ bn := fun j hj => ⟨by have := (HOWN.out.lt j hj).1; omega, fun e => by
     have h1 := HTA.out.get m.1;rw [<- hsv] at h1
     cases hf : f m.1 with
     | none =>
      rw [hf] at hsv;simp only [Option.getD_none] at hsv
      rw [hsv] at hj; simp [nilS, Sg.val, Value.ownBlock] at hj
     | some s0 =>
      rw [hf] at hsv;simp only [Option.getD_some] at hsv
      have := ((hT.out.own m.1 s0 hf).lt j (by rw [<- hsv]; exact hj)).2
      have := HBN.out; omega⟩
    have HVB := Bx.mk hvb;obtain ⟨va, vc, hvf, -⟩ := HOWN.out.rd.form;have HGL := gK_len l k m.1
    have HLOOK := Bx.mk (show ∀ W : World, W1.grownBy W sv.val.ownBlock -> (Instr.lookup 86 (.map (some bm)) (.string (bstr m.1)) false).run Tryz.prog W = .ok (.slice va (gK l k m.1).length vc) W from fun W hW => by
     have := ((HOP.out.kept hW (fun e => (HVB.out bm e.symm).1 rfl)).lookS u_mapSS Sg.val nilS (Tryz.zeroValue34 _) rdS_mk rdS_inv (k := m.1) (by have := HXK.out.1; unfold maxLen; omega)).1;rw [<- hsv, hvf] at this
     exact this)
    rw [hvf] at HOWN hvl HVB HLOOK;have HVF := Bx.mk hvf;clear hq hop hsv hvb hvf;go_wp2_with fail
    clear hs1 hs2 m0 m1;refine wp_region_factsC 11 (fun _ => none) (· == 10) (TaF W1 bm bn m (.slice va (gK l k m.1).length vc) (gK l k m.1)) (TaC W1 bm (.slice va (gK l k m.1).length vc) (gK l k m.1)) (fun a b => a.grownBy b (Value.slice va (gK l k m.1).length vc).ownBlock) ?_ (by kernel_rfl) (by kernel_rfl) (by rfl) ?_ ?_ ?_ ?_ ?_ ?_
    ·exact ⟨⟨rfl, rfl, rfl, zR _, fun _ _ _ => rfl⟩, fun _ => HOWN.out⟩
    ·exact TaF.stable _ _ _ _ _ _
    ·exact fun d i w1 w2 hh hi _ hb => hh.bel hi hb
    ·exact fun d i w1 w2 hh hi _ hg => hh.big hi hg
    ·exact fun b j x w1 w2 hb _ hne _ hh hg => TaF.big _ _ _ _ _ _ hvl j (fun e => hne (e.trans (show b = 10 by simpa using hb).symm)) _ _ _ hh hg
    ·intro i o hi ho d x w7 hcl hdi hCC hd;have hc : i = 0 \/ i = 1 \/ i = 2 \/ i = 3 \/ i = 4 \/ i = 5 \/ i = 6 \/ i = 7 \/ i = 8 \/ i = 9 \/ i = 10 := (by omega);obtain ⟨hg7, how7⟩ := hCC;have HG7 := Bx.mk hg7;have HOW7 := Bx.mk how7;have b5 := (hg7.block bn (lt_of_some HQ1.out) (fun e => (HVB.out bn e.symm).2 rfl)).trans HQ1.out;have m0 := cell_of_row _ _ 0 _ _ _ b5;have m1 := cell_of_row _ _ 1 _ _ _ b5;simp only [List.getElem?_toArray, List.getElem?_cons_zero, List.getElem?_cons_succ] at m0 m1
     have hlook := HLOOK.out w7 (HVF.out ▸ hg7);have HDI := Bx.mk hdi;clear hcl hg7 how7 b5;simp only [List.take_succ_cons, List.take_zero, putFrom, Act.put, List.setIfInBounds_toArray, List.set_cons_succ, List.set_cons_zero, Nat.zero_add, Nat.reduceAdd]
     rcases hc with rfl | rfl | rfl | rfl | rfl | rfl | rfl | rfl | rfl | rfl | rfl
     all_goals
      simp only [List.getElem?_cons_succ, List.getElem?_cons_zero, zO] at ho
      subst ho;simp [NeedsB, Region.binds, TaF] at hd
     all_goals clear hi hdi
     case inr.inr.inr.inr.inr.inr.inr.inr.inr.inl =>
      clear hlook m0 m1;go_wp2_with fail
      exact ⟨rfl, rfl, ⟨_, rfl, HG7.out.size, heap_alloc_new _ _⟩, (Below.refl _ _).alloc (zR _) _⟩
     case inr.inr.inr.inr.inr.inr.inr.inr.inr.inr =>
      obtain ⟨h6, g9, h9, hg9, hr9⟩ := hd;have how := HOW7.out HDI.out;have hsr : SrcV w7 1 (x 9) 1 ([m.2].flatMap encS) := (by rw [h9]; exact src_row hr9);rw [<- h6] at how;have H6 := Bx.mk h6;have HH := Bx.mk how;clear h6 h9 hr9 hlook m0 m1;go_wp2_with (at_builtin; refine wpList_append_any rfl _ _ _ rfl (bm + 1) 9 i0 _ 1 16 und_strs hi0 hz0 hz1 hz2 rfl (by decide) _ (gK l k m.1).length ((gK l k m.1).flatMap encS) rfl HH.out _ 1 ([m.2].flatMap encS) rfl hsr ?ap1 ?ap2 ?ap3 ?_)
      case ap1 => unfold maxLen; omega
      case ap2 => omega
      case ap3 => have := lt_of_some HQ1.out; have := HG7.out.size; have := HBN.out; have := HBWA.out.size; have := HBM.out; have := hBw.out.size; omega
      intro v' w8 ha;have hown := Slc.Own.apd (m := [m.2]) HH.out rfl rfl rfl rfl ha
      have hblk : v'.ownBlock = (Value.slice va (gK l k m.1).length vc).ownBlock \/ ∃ y, v'.ownBlock = some y /\ W1.heap.size <= y := by
       rcases ha.blk with q | q
       ·left; rw [q, H6.out]
       ·exact .inr ⟨_, q, HG7.out.size⟩
      have hgr := ha.grown;rw [H6.out] at hgr;clear ha;go_wp2_with fail
      exact ⟨rfl, rfl, ⟨hown, hblk⟩, hgr⟩
     case inr.inr.inr.inr.inr.inr.inl =>
      clear m0 m1;go_wp2_with fail
      exact ⟨rfl, rfl, rfl, Below.refl _ _⟩
     all_goals
      clear hlook;go_wp2_with fail
      exact ⟨rfl, rfl, rfl, Below.refl _ _⟩
    ·intro d x w7 hCC hf;have f0 := hf 0 (by omega) (fun c hc => by simp at hc);have f2 := hf 2 (by omega) (fun c hc => by simp at hc);have f10 := hf 10 (by omega) (fun c hc => by simp at hc);simp only [TaF] at f0 f2 f10
     clear hf;obtain ⟨hown, hblk⟩ := f10;have hg7 : W1.grownBy w7 sv.val.ownBlock := HVF.out ▸ hCC.1;obtain ⟨s', hs'⟩ := own_sg hown;rw [hs'] at hown hblk;obtain ⟨w8, hrun, ho8, hg8⟩ := (HOP.out.kept hg7 (fun e => (HVB.out bm (by rw [<- HVF.out]; exact e.symm)).1 rfl)).putS u_mapSS (by have := HQK.out; unfold maxLen; omega) (k := m.1) (by have := HXK.out.1; unfold maxLen; omega) s' s'.val (rdS_mk _);have hT8 := HTA.out.step (p := m.1) (x := m.2) (s' := s') (HSV.out ▸ hg7) hown (by rw [<- HSV.out, HVF.out]; exact hblk) hg8
     have HT8 := Bx.mk (show TB w8 bm (fun j => if j = m.1 then some s' else f j) (gK l (k + 1)) by
      have e : gK l (k + 1) = fun j => if j = m.1 then gK l k m.1 ++ [m.2] else gK l k j := by
       funext j
       rw [HGS.out, HOK.out];by_cases e : j = m.1
       ·subst e; simp
       ·rw [if_neg e, zF fun q => e q.symm]; simp
      rw [e]; exact hT8)
     have HM8 := Bx.mk ho8
     have HB8 := Bx.mk (show Below bm w w8 from ((HBWA.out.grown hg7 (by have := HBWA.out.size; have := HBM.out; omega) fun j hj => by
      have := (HTA.out.get m.1).lt j (by rw [<- HSV.out]; exact hj)
      omega)).grown hg8 (by have := HBWA.out.size; have := hg7.size; have := HBM.out; omega) fun j hj => by simp only [zO] at hj; omega)
     have hsf : ∃ sa sn sc, s'.val = .slice sa sn sc := ⟨_, _, _, rfl⟩
     obtain ⟨sa, sn, sc, hsf⟩ := hsf;have hrun' : (Instr.mapUpdate 86 (.map (some bm)) (.string (bstr m.1)) (.slice sa sn sc)).run Tryz.prog w7 = .ok () w8 := (by rw [<- hsf]; exact hrun);rw [hsf] at hs';clear hown hblk hg7 hrun ho8 hg8 hT8 hCC hsf;simp only [List.take_succ_cons, List.take_zero, List.drop_succ_cons, List.drop_zero, putFrom, Nat.zero_add, Nat.reduceAdd, f0, f2, hs']
     clear f0 f2 hs';generalize x 1 = x1, x 3 = x3, x 4 = x4, x 5 = x5, x 6 = x6, x 7 = x7, x 8 = x8, x 9 = x9;simp only [Act.put, List.setIfInBounds_toArray, List.set_cons_succ, List.set_cons_zero]
     go_wp2_with fail
     go_roundw
     case rel => exact ⟨k + 1, _, by omega, by go_num, HT8, ⟨_, by have := HQK.out; omega, HM8.out⟩, HB8⟩
     case measure => simp [intOf]; omega
  ·obtain rfl : N = k := by omega
   obtain ⟨q, hq, D, hown, hIs⟩ := hM.out;have HIS := Bx.mk hIs;have HHAS := Bx.mk (show ∀ p, (f p).isSome = true ↔ gK l N p ≠ [] from hT.out.has_);have hq1 : q < maxLen := by unfold maxLen; omega
   have HRD := Bx.mk (show ∀ p s, f p = some s -> RdIn wr (fun b => b ≠ bm /\ b ≠ wr.heap.size /\ bm < b) encS s.val (gK l N p) from fun p s hp => by
    have h1 := hT.out.own p s hp
    exact ⟨h1.rd, fun b hb => by have := h1.lt b hb; omega⟩)
   have hbsz := hBw.out.size;obtain ⟨r, hr⟩ : ∃ r, r = wr.heap.size := ⟨_, rfl⟩
   have HR := Bx.mk hr;clear hT hM hb0 hIs;go_wp2_with (at_range; refine wpList_range_own _ rfl _ 86 rfl 9 34 (Go.Maps.string_keyed u_str) u_mapSS _ bm _ D rfl hown ?_; intro w0 hrg0 hg0 hs0)
   rw [<- hr] at hrg0 HRD |-;have HB0 := Bx.mk (show Below bm w w0 from hBw.out.grown hg0 (by have := HBM.out; omega) fun k hk => by cases hk);have HRG0 := Bx.mk hrg0;have HRD0 := Bx.mk (show ∀ p s, f p = some s -> RdIn w0 (fun b => b ≠ bm /\ b ≠ r /\ bm < b) encS s.val (gK l N p) from fun p s hp => (HRD.out p s hp).keep hg0.size fun k _ hk => hg0.block k hk (by simp));have hrbm : bm < r := by rw [hr]; exact hown.lt
   clear hown hg0 hs0 hrg0 HRD hr hbsz hBw;go_frame
   go_loopw [] (fun wr => ∃ (left : Lit -> Bool) (cnt : Nat) (D : DW) (f : B -> Option Sg), Bx (wr.ranges Tryz.prog 9 rdS bm r q D left cnt) /\ Bx (IsF kS edS D f) /\ Bx (∀ p, (f p).isSome = true ↔ gK l N p ≠ []) /\ Bx (∀ p s, f p = some s -> RdIn wr (fun b => b ≠ bm /\ b ≠ r /\ bm < b) encS s.val (if left (.string p) then gK l N p else setB (gK l N p))) /\ Bx (Below bm w wr)) (fun wr => wr.rangeLeft bm r)
   case atStart =>
    refine ⟨_, _, D, f, HRG0, HIS, HHAS, ⟨fun p s hp => ?_⟩, HB0⟩;have h1 := HIS.out.has_ p;rw [hp] at h1;rw [if_pos (show Maps.has D (.string p) = true from h1)];exact HRD0.out p s hp
   case round =>
    clear HIS HHAS HRG0 HRD0 HB0;obtain ⟨left, cnt, D, f, hrg, hIs, hHas, hRd, hBw⟩ := hrel;go_wp2_with (at_next; refine next_tab hIs.out rfl _ rfl rfl hrg.out ?_ ?_)
    ·intro hl0;have HL0 := Bx.mk hl0;clear hl0;go_wp2_with fail
     go_ret;refine ⟨bm, f, rfl, by have := HBM.out; omega, ⟨fun p => ?_, fun p s hp => ?_, ⟨q, by omega, D, hrg.out.owns, hIs.out⟩⟩, HBM.out ▸ hBw.out, fun p s hp b hb => ((hRd.out p s hp).2 b hb).2.2⟩
     ·have h1 := hHas.out p;rw [HN.out, gK_src] at h1;rw [Bool.eq_iff_iff, decide_eq_true_eq]; exact h1
     ·have h1 := hRd.out p s hp;rw [HL0.out p, if_neg (by simp), HN.out, gK_all] at h1;exact ⟨h1.1, fun k hk => (h1.2 k hk).1⟩
    ·intro x c w1 cnt1 hkey hlx hfx hrg1 hlt1 hg1 hs1 hen;have hr1 := hRd.out x c hfx;rw [if_pos hlx] at hr1;have hr2 : RdIn w1 (fun b => b ≠ bm /\ b ≠ r /\ bm < b) encS c.val (gK l N x) := hr1.keep hg1.size fun k hS hk => hg1.block k hk (by simp only [ne_eq, zO]; exact hS.2.1)
     obtain ⟨ca, cc, hcf, -⟩ := hr1.1.form;have hgl := gK_len l N x;have hV := fun (a : Option Addr) (len cap : Nat) => valS_any a len cap w1
     have hset := sortedV_any (w1.alloc (.cells #[c.val] 34)) w1.heap.size c.val (gK l N x) (by omega) (by simp) (by unfold World.cell?; rw [heap_alloc_new]; rfl) ⟨w1, hr2.1, by simp, (Below.refl _ _).alloc (zR _) _⟩;rw [hcf] at hset hen |-;obtain ⟨WV, hWV⟩ : ∃ WV, WV = w1.alloc (.cells #[.slice ca (gK l N x).length cc] 34) := ⟨_, rfl⟩
     have HBV := Bx.mk (show Below w1.heap.size w1 WV by rw [hWV]; exact (Below.refl _ _).alloc (zR _) _);rw [<- hWV] at hset;obtain ⟨S, hS⟩ : ∃ S, S = (gK l N x).mergeSort (fun x y => decide (x <= y)) := ⟨_, rfl⟩
     have HSL := Bx.mk (show S.length <= 1000000 by rw [hS, List.length_mergeSort]; omega);have HCS := Bx.mk (show Lib.compact S = setB (gK l N x) by rw [hS, compact_sort]);rw [<- hS] at hset;clear hS;have HFX := Bx.mk hfx;have HRG1 := Bx.mk hrg1;have HKEY := Bx.mk hkey;have HLT1 := Bx.mk hlt1;have HB1 := Bx.mk (show Below bm w w1 from hBw.out.grown hg1 (by have := hBw.out.size; have := HBM.out; omega) fun k hk => by simp only [zO] at hk; omega);have HRW := Bx.mk (show ∀ p s, f p = some s -> RdIn w1 (fun b => b ≠ bm /\ b ≠ r /\ bm < b) encS s.val (if left (.string p) then gK l N p else setB (gK l N p)) from fun p s hp => (hRd.out p s hp).keep hg1.size fun k hS hk => hg1.block k hk (by simp only [ne_eq, zO]; exact hS.2.1));have HRLT := Bx.mk (show r < w1.heap.size from hrg1.lt);have HBLT := Bx.mk (show bm < w1.heap.size by have := HRLT.out; omega);clear hr1 hr2 hcf hfx hrg1 hkey hlt1 hg1 hs1 hlx hBw hRd;obtain ⟨G, hG⟩ : ∃ G, G = gK l N x := ⟨_, rfl⟩
     have HG := Bx.mk hG;rw [<- hG] at hen hgl HCS hWV |-;clear hG;obtain ⟨X, hX⟩ : ∃ X, X = bstr x := ⟨_, rfl⟩
     have HX := Bx.mk hX;rw [<- hX] at hen |-;clear hX;go_wp2_with fail
     go_at_call 72;refine (hV _ _ _).mono ?_;rintro e w1' ⟨rfl, rfl⟩;rw [<- hWV];clear hV hWV;go_wp2_with fail
     go_at_call 63;refine hset.mono ?_;rintro e wS ⟨vS, rfl, hoS, hbS⟩;have h3 := compS_any wS WV.heap.size vS _ hoS HSL.out;rw [HCS.out] at h3;obtain ⟨avS, cvS, rfl, -⟩ := hoS.rd.form;have HOS := Bx.mk hoS;have HBS := Bx.mk hbS;clear hset hoS hbS;go_wp2_with fail
     go_at_call 71;refine h3.mono ?_;rintro e w2 ⟨v2, rfl, ho3, hg3⟩;have hsz1 := HBV.out.size;have ho2 : Slc.Own w2 w1.heap.size 9 1 encS v2 (setB G) := ho3.mono hsz1;have hb2 : Below w1.heap.size w1 w2 := (HBV.out.trans (HBS.out.mono hsz1)).grown hg3 (Nat.le_trans hsz1 HBS.out.size) fun k hk => Nat.le_trans hsz1 (HOS.out.lt k hk).1
     clear h3 ho3 hg3 hsz1;obtain ⟨s', hs'⟩ := own_sg ho2;rw [hs'] at ho2
     obtain ⟨w3, hrun, hrg3, hg3, hs3⟩ := ranges_put (HRG1.out.kept (grown_none hb2) (by simp) (by simp)) (Go.Maps.string_keyed u_str) u_mapSS hq1 (Tryz.zeroValue34 w2) HKEY.out (by
      have := hIs.out.has_ x
      rw [HFX.out] at this; exact this) (rdS_mk s')
     have hrun' : (Instr.mapUpdate 86 (.map (some bm)) (.string X) v2).run Tryz.prog w2 = .ok () w3 := (by rw [hs', HX.out]; exact hrun);obtain ⟨sa, sc, hsf, -⟩ := ho2.rd.form;rw [hs', hsf] at hrun' |-;have HIS' := Bx.mk (hIs.out.put x s')
     have HHAS' := Bx.mk (show ∀ p, ((fun j => if j = x then some s' else f j) p).isSome = true ↔ gK l N p ≠ [] from fun p => by
      by_cases e : p = x
      ·subst e;have := hHas.out p;rw [HFX.out] at this;simpa using this
      ·simp only [if_neg e]; exact hHas.out p)
     have HRD' := Bx.mk (show ∀ p s, (fun j => if j = x then some s' else f j) p = some s -> RdIn w3 (fun b => b ≠ bm /\ b ≠ r /\ bm < b) encS s.val (if (fun z : Lit => left z && !z.sameKey (.string x)) (.string p) then gK l N p else setB (gK l N p)) from fun p s hp => by
      by_cases e : p = x
      ·subst e;simp only [if_true, zO] at hp
       subst hp;simp only [sameS, decide_true, Bool.not_true, Bool.and_false, Bool.false_eq_true, if_false]
       have h1 : RdIn w2 (fun b => b ≠ bm /\ b ≠ r /\ bm < b) encS s'.val (setB (gK l N p)) := ⟨by rw [<- HG.out]; exact ho2.rd, fun b hb => by
        have := (ho2.lt b hb).1;have := HRLT.out;have := HBLT.out
        omega⟩
       exact h1.keep hg3.size fun k hS hk => hg3.block k hk (by simp only [ne_eq, zO]; exact hS.1)
      ·simp only [if_neg e] at hp
       simp only [sameS, zF e, Bool.not_false, Bool.and_true]
       exact (RdIn.below (HRW.out p s hp) hb2).keep hg3.size fun k hS hk => hg3.block k hk (by simp only [ne_eq, zO]; exact hS.1))
     have HRG3 := Bx.mk hrg3;have HB3 := Bx.mk (show Below bm w w3 from (HB1.out.trans (hb2.mono (by have := HBLT.out; omega))).grown hg3 (by have := HBLT.out; have := hb2.size; omega) fun k hk => by simp only [zO] at hk; omega);clear hen ho2 hb2 hrg3 hg3 hs3 hs' hsf hrun hHas;go_wp2_with fail
     go_roundw
     case rel => exact ⟨_, _, _, _, HRG3, HIS', HHAS', HRD', HB3⟩
     case measure => rw [HRG3.out.left_eq, hrg.out.left_eq]; exact HLT1.out
theorem mapF_any (w : World) (x : Vt) (qd bm q : Nat) (f : B -> Option Sg) (hm : OwnF w kS rdS edS bm q f) (hq : w.cell? ⟨qd, 0, none⟩ = some (.map (some bm))) (hql : qd < w.heap.size) (hp : x.n.pol.length <= 1000000) :
  Calls Tryz.prog 62 #[verV x, .pointer (some ⟨qd, 0, none⟩)] w fun e w' => e = .returned (.bool (f x.n.pol).isSome) /\ Below w.heap.size w w' := by
 have hba : Below w.heap.size w (w.alloc (.cells #[.string (bstr x.n.pol), x.u.val, x.q.val] 65)) := (Below.refl _ _).alloc (zR _) _;have hlk := ((hm.below hba).lookS u_mapSS Sg.val nilS (Tryz.zeroValue34 _) rdS_mk rdS_inv (k := x.n.pol) (by unfold maxLen; omega)).2;have hq1 := (hba.cell (p := ⟨qd, 0, none⟩) hql).trans hq;have HB := Bx.mk hba;unfold verV;have hlk' : (Instr.lookup 86 (.map (some bm)) (.string (bstr x.n.pol)) true).run Tryz.prog (w.alloc (.cells #[.string (bstr x.n.pol), x.u.val, x.q.val] 65)) = .ok (.tuple #[((f x.n.pol).getD nilS).val, .bool (f x.n.pol).isSome]) (w.alloc (.cells #[.string (bstr x.n.pol), x.u.val, x.q.val] 65)) := hlk;clear hba hlk hq;generalize (f x.n.pol).isSome = R at *;generalize ((f x.n.pol).getD nilS).val = V at *;generalize x.u.val = U1 at *;generalize x.q.val = U2 at *;generalize bstr x.n.pol = S at *;go_enter Tryz.func62, Tryz.ntmps62;go_wp2_with fail
 go_ret;exact ⟨rfl, HB.out⟩
theorem idxM_any (w : World) (v : Value) (l : List Vt) (h : VL w v l) (hn : l.length <= 100000) (qd bm q : Nat) (f : B -> Option Sg) (hm : OwnF w kS rdS edS bm q f) (hq : w.cell? ⟨qd, 0, none⟩ = some (.map (some bm))) (hql : qd < w.heap.size) :
  Calls Tryz.prog 94 #[v, .func (.func 62) #[] #[.pointer (some ⟨qd, 0, none⟩)]] w fun e w' => e = .returned (.int .i64 (idxG (vxs l) fun n => (f n.pol).isSome)) /\ Below w.heap.size w w' := by
 obtain ⟨ad, c, rfl, -⟩ := h.rd.form;have HC := Bx.mk h.at3;obtain ⟨R, hR⟩ : ∃ R, R = idxG (vxs l) fun n => (f n.pol).isSome := ⟨_, rfl⟩
 rw [<- hR];have HR := Bx.mk hR;obtain ⟨N, hN⟩ : ∃ N, N = l.length := ⟨_, rfl⟩
 have HN := Bx.mk hN;rw [<- hN] at hn |-;clear hR hN;have HQ := Bx.mk hq;have HQL := Bx.mk hql;have HM := Bx.mk hm;have HPL := Bx.mk (show ∀ x ∈ l, x.n.pol.length <= 1000000 from fun x hx => (h.at_ x hx).2.2.2.1);clear hq hql hm h;have eg : ∀ args W, (callFunc 62 args).run Tryz.prog W = .ok (.enter 62 args) W := enters_of Tryz.func62 (by kernel_rfl) rfl
 go_enter Tryz.func94, Tryz.ntmps94;go_wp2_with fail
 go_loopw [8] (fun i wr => ∃ k : Nat, k <= N /\ i = .int .i64 k /\ Bx (∀ j, j < k -> (f ((vxs l)[j]!).pol).isSome = false) /\ Bx (Below w.heap.size w wr)) (fun i _ => N - (intOf i).toNat)
 case atStart => exact ⟨0, by omega, rfl, ⟨fun j hj => by omega⟩, ⟨Below.refl _ _⟩⟩
 case round =>
  obtain ⟨k, hk, rfl, hF, hBw⟩ := hrel;by_cases hlt : k < N
  ·have hkl : k < l.length := by rw [<- HN.out]; exact hlt
   obtain ⟨b, o, rfl, hbl, c0, c1, c2⟩ := HC.out wr hBw.out k hkl;have HX := Bx.mk (show (vxs l)[k]! = (l[k]).n from vxs_at l k hkl);have HXP := Bx.mk (HPL.out _ (zM hkl));obtain ⟨x, hx⟩ : ∃ x, x = l[k] := ⟨_, rfl⟩
   rw [<- hx] at c0 c1 c2 HX HXP;simp only [Sl.val] at c1 c2
   have hcf := mapF_any wr x qd bm q f (HM.out.below hBw.out) ((hBw.out.cell (p := ⟨qd, 0, none⟩) HQL.out).trans HQ.out) (Nat.lt_of_lt_of_le HQL.out hBw.out.size) HXP.out;unfold verV at hcf;simp only [Sl.val] at hcf
   obtain ⟨r, hr⟩ : ∃ r, r = (f x.n.pol).isSome := ⟨_, rfl⟩
   rw [<- hr] at hcf;have HRX := Bx.mk hr;clear hx hbl hr;go_wp2_with fail
   go_at_call 62;refine hcf.mono ?_;rintro e w2 ⟨rfl, hb2⟩;have HB2 := Bx.mk (hBw.out.trans (hb2.mono hBw.out.size));clear hcf hb2 c0 c1 c2
   cases r with
   | true =>
    have HF2 := Bx.mk (show R = (k : Int) by rw [HR.out]; exact idxG_eq (by rw [vxs_len]; exact hkl) (by rw [HX.out]; exact HRX.out.symm) hF.out);clear hkl;go_wp2_with fail
    go_ret
    exact ⟨by rw [HF2.out]; rfl, HB2.out⟩
   | false =>
    clear hkl;go_wp2_with fail
    go_roundw
    case rel => exact ⟨k + 1, by omega, by go_num, ⟨fun j hj => by
     by_cases e : j = k
     ·subst e; rw [HX.out]; exact HRX.out.symm
     ·exact hF.out j (by omega)⟩, HB2⟩
    case measure => simp [intOf]; omega
  ·obtain rfl : N = k := by omega
   have HF2 := Bx.mk (show R = -1 by rw [HR.out]; exact idxG_no fun i hi => hF.out i (by rw [vxs_len, <- HN.out] at hi; exact hi));go_wp2_with fail
   go_ret;exact ⟨by rw [HF2.out]; rfl, hBw.out⟩
end Go.Proofs.YtmagjdocondmhaaGreat.Tr.Gr
