/- packed -/
import Derived.Test.YtmagjdocondmhaaGreatPkRe19
set_option linter.unusedVariables false
set_option linter.unusedSimpArgs false
set_option maxRecDepth 100000
set_option maxHeartbeats 64000000
namespace Go.Proofs.YtmagjdocondmhaaGreat.Tr.Gr
open Go Go.RowKit Slc St Mp Tr Rg
attribute [local go_sem] Oper.semAt_some
theorem rgroot_any (w : World) : Calls Tryz.prog 21 #[] w fun e w' => ∃ v' g', e = .returned v' /\ GO w' w.heap.size v' g' /\ gxs g' = rootG /\ Below w.heap.size w w' /\ NQ w.heap.size g' := by
 have hal := alone_any w;go_enter Tryz.func21, Tryz.ntmps21;go_wp2_with fail
 go_at_call 44;refine hal.mono ?_;rintro e W1 ⟨v1, rfl, ho1, hb1⟩;obtain ⟨a1, c1, rfl, -⟩ := ho1.rd.form;have HO1 := Bx.mk ho1;have HB1 := Bx.mk hb1;clear hal ho1 hb1;go_wp2_with fail
 go_ret;have ho1 : Slc.Own W1 w.heap.size 9 1 encS (.slice a1 1 c1) [anyP] := HO1.out;have hb1 := HB1.out;obtain ⟨W2, hW2⟩ : ∃ W2, W2 = W1.alloc (.cells #[.string ⟨#[50, 46, 53, 46, 50, 57, 46, 51, 50, 46, 48]⟩, .slice a1 1 c1, .slice none 0 0] 65) := ⟨_, rfl⟩
 have ho2 : Slc.Own W2 w.heap.size 65 3 encV (.slice (some ⟨W1.heap.size, 0, none⟩) 1 1) [⟨⟨anyP, [anyP], []⟩, ⟨a1, 1, c1⟩, ⟨none, 0, 0⟩⟩] := by
  rw [hW2]; exact own_alloc encV_ok W1 [⟨⟨anyP, [anyP], []⟩, ⟨a1, 1, c1⟩, ⟨none, 0, 0⟩⟩] _ rfl hb1.size (by unfold maxLen; simp)
 have hs2 : W2.heap.size = W1.heap.size + 1 := by rw [hW2]; simp
 have hb12 : Below W1.heap.size W1 W2 := by rw [hW2]; exact (Below.refl _ _).alloc (zR _) _
 have hb2 : Below w.heap.size w W2 := hb1.trans (hb12.mono hb1.size);have ho12 : Slc.Own W2 w.heap.size 9 1 encS (.slice a1 1 c1) [anyP] := ho1.below hb12;obtain ⟨W3, hW3⟩ : ∃ W3, W3 = W2.alloc (.cells #[.slice (some ⟨W1.heap.size, 0, none⟩) 1 1] 63) := ⟨_, rfl⟩
 have hba : Below W2.heap.size W2 W3 := by rw [hW3]; exact (Below.refl _ _).alloc (zR _) _
 have ho3 : Slc.Own W3 w.heap.size 63 1 encL (.slice (some ⟨W2.heap.size, 0, none⟩) 1 1) [⟨[⟨⟨anyP, [anyP], []⟩, ⟨a1, 1, c1⟩, ⟨none, 0, 0⟩⟩], ⟨some ⟨W1.heap.size, 0, none⟩, 1, 1⟩⟩] := by
  rw [hW3]; exact own_alloc encL_ok W2 [⟨[⟨⟨anyP, [anyP], []⟩, ⟨a1, 1, c1⟩, ⟨none, 0, 0⟩⟩], ⟨some ⟨W1.heap.size, 0, none⟩, 1, 1⟩⟩] _ rfl hb2.size (by unfold maxLen; simp)
 have hfin : GO W3 w.heap.size (.slice (some ⟨W2.heap.size, 0, none⟩) 1 1) [⟨[⟨⟨anyP, [anyP], []⟩, ⟨a1, 1, c1⟩, ⟨none, 0, 0⟩⟩], ⟨some ⟨W1.heap.size, 0, none⟩, 1, 1⟩⟩] := by
  refine ⟨ho3, fun L hL => ?_, fun i j hi hj hij => ?_, fun L hL k hk => ?_, fun L hL x hx => ?_⟩
  ·rw [zS] at hL; subst hL; exact ho2.below hba
  ·simp only [List.length_singleton] at hi hj; omega
  ·rw [zS] at hL; subst hL
   have hk' : some W1.heap.size = some k := hk;simp only [zO] at hk'
   intro hn;have hn' : some W2.heap.size = some k := hn;simp only [zO] at hn'
   omega
  ·rw [zS] at hL; subst hL
   rw [zS] at hx; subst hx
   refine ⟨⟨(ho12.below hba).rd, fun k hk hn => ?_⟩, .inl ⟨rfl, _, _, rfl⟩, ⟨by simp, fun b hb => ?_⟩, by show 11 <= 1000000; omega, by simp, fun p hp => by cases hp⟩
   ·have hk1 := (ho1.lt k hk).2;rcases hn with hn | ⟨L, hL, hn⟩
    ·have : some W2.heap.size = some k := hn;simp only [zO] at this; omega
    ·rw [zS] at hL; subst hL
     have : some W1.heap.size = some k := hn;simp only [zO] at this; omega
   ·simp only [zS] at hb
    subst hb
    show 11 <= 1000000
    omega
 have hnq : NQ w.heap.size [(⟨[⟨⟨anyP, [anyP], []⟩, ⟨a1, 1, c1⟩, ⟨none, 0, 0⟩⟩], ⟨some ⟨W1.heap.size, 0, none⟩, 1, 1⟩⟩ : Lv)] := fun L hL x hx k hk => by
  rw [zS] at hL; subst hL
  rw [zS] at hx; subst hx
  rcases hk with e | e
  ·exact (HO1.out.lt k e).1
  ·simp [Sl.val, Value.ownBlock] at e
 have hbf : Below w.heap.size w W3 := hb2.trans (hba.mono hb2.size);rw [hW3, hs2, hW2] at hfin;rw [hW3, hW2] at hbf;exact ⟨_, _, by first | rfl | simp, hfin, rfl, hbf, hnq⟩
end Go.Proofs.YtmagjdocondmhaaGreat.Tr.Gr
namespace Go.Proofs.YtmagjdocondmhaaGreat.Tr
open Go Go.RowKit Slc St Mp
attribute [local go_sem] Oper.semAt_some
theorem grown_below {w w' : World} {g : Option Nat} (h : Below w.heap.size w w') : w.grownBy w' g := ⟨h.os, h.tape, h.output, h.size, fun k hk _ => h.block k hk⟩
theorem deck_keep {W0 : World} {v : Value} {zs : List Int} {w w' : World} {g B : Nat} (h : Deck W0 v zs w g) (hb : Below B w w') (hg : g < B) (hB : W0.heap.size <= B) : Deck W0 v zs w' g := by
 obtain ⟨k, hk, hc⟩ := h.c1;exact ⟨h.ints, h.bel.trans (hb.mono hB), h.ge, (hb.cell (p := ⟨g, 0, none⟩) hg).trans h.c0, ⟨k, hk, (hb.cell (p := ⟨g, 1, none⟩) hg).trans hc⟩, fun k => (hb.frozen (p := ⟨g, k, none⟩) hg).trans (h.fr k), Nat.lt_of_lt_of_le h.lt hb.size, fun j s e => h.ns j s ((hb.cell (p := ⟨g, j, none⟩) hg).symm.trans e)⟩
theorem own_grown {α : Type} {w w' : World} {B z g : Nat} {t : TypeId} {enc : α -> List Value} {v : Value} {l : List α} (h : Slc.Own w B t z enc v l) (hg : w.grownBy w' (some g)) (hgB : g < B) : Slc.Own w' B t z enc v l :=
 h.keep fun k hk hlt => hg.block k hlt (by simp only [ne_eq, zO]; intro e; have := (h.lt k hk).1; omega)
structure MSt {α : Type} (t : TypeId) (z : Nat) (enc : α -> List Value) (W0 : World) (v : Value) (zs : List Int) (w : World) (g : Nat) (hv : Value) (out : List α) (wr : World) : Prop where
 own : Slc.Own wr w.heap.size t z enc hv out
 dk : Deck W0 v zs wr g
 gr : w.grownBy wr (some g)
section
variable {α : Type} {t : TypeId} {z : Nat} {enc : α -> List Value} {W0 : World} {v : Value} {zs : List Int} {w : World} {g : Nat} {hv : Value} {out : List α} {wr w' : World}
theorem MSt.below (h : MSt t z enc W0 v zs w g hv out wr) (hb : Below wr.heap.size wr w') : MSt t z enc W0 v zs w g hv out w' :=
 ⟨h.own.below hb, h.dk.below hb, h.gr.trans (grown_below hb)⟩
theorem MSt.grow (h : MSt t z enc W0 v zs w g hv out wr) (hg : wr.grownBy w' (some g)) (hd : Deck W0 v zs w' g) (hgl : g < w.heap.size) : MSt t z enc W0 v zs w g hv out w' :=
 ⟨own_grown h.own hg hgl, hd, h.gr.trans hg⟩
theorem MSt.apd {a b : Nat} {xs news : List Value} {m : List α} {v' : Value} (h : MSt t z enc W0 v zs w g hv out wr) (hgl : g < w.heap.size) (hw0 : W0.heap.size <= w.heap.size) (hx : xs = out.flatMap enc) (hy : news = m.flatMap enc) (ha : a = out.length) (hb : b = m.length) (h' : Apd wr w.heap.size t z hv a b xs news v' w') : MSt t z enc W0 v zs w g v' (out ++ m) w' := by
 have hbb : Below w.heap.size wr w' := (Below.refl _ _).grown h'.grown h.gr.size fun k hk => (h.own.lt k hk).1
 exact ⟨h.own.apd hx hy ha hb h', deck_keep h.dk hbb hgl hw0, ⟨hbb.os.trans h.gr.os, hbb.tape.trans h.gr.tape, hbb.output.trans h.gr.output, Nat.le_trans h.gr.size hbb.size, fun k hk hne => (hbb.block k hk).trans (h.gr.block k hk hne)⟩⟩
end
theorem policy_any (w : World) (m : Nat) (hm : m < 9) : Calls Tryz.prog 35 #[.int .i64 m] w fun e w' => ∃ p : B, e = .returned (.string (bstr p)) /\ p.length <= 100 /\ Below w.heap.size w w' := by
 have hb : ∀ x, Below w.heap.size w (w.alloc x) := fun x => (Below.refl _ _).alloc (zR _) _
 have HB := Bx.mk hb;clear hb;obtain rfl | rfl | rfl | rfl | rfl | rfl | rfl | rfl | rfl : m = 0 \/ m = 1 \/ m = 2 \/ m = 3 \/ m = 4 \/ m = 5 \/ m = 6 \/ m = 7 \/ m = 8 := by omega
 all_goals
  clear hm;go_enter Tryz.func35, Tryz.ntmps35;go_wp2_with fail
  go_ret
 ·exact ⟨[49, 46, 50, 46, 51, 46, 49], rfl, by decide, HB.out _⟩
 ·exact ⟨[49, 46, 50, 46, 51, 46, 50], rfl, by decide, HB.out _⟩
 ·exact ⟨[49, 46, 50, 46, 51, 46, 51], rfl, by decide, HB.out _⟩
 ·exact ⟨[49, 46, 50, 46, 51, 46, 52], rfl, by decide, HB.out _⟩
 ·exact ⟨[49, 46, 50, 46, 51, 46, 53], rfl, by decide, HB.out _⟩
 ·exact ⟨[50, 46, 57, 57, 57, 46, 49], rfl, by decide, HB.out _⟩
 ·exact ⟨[50, 46, 57, 57, 57, 46, 50], rfl, by decide, HB.out _⟩
 ·exact ⟨[49, 46, 50, 46, 51], rfl, by decide, HB.out _⟩
 ·exact ⟨anyP, rfl, by decide, HB.out _⟩
theorem info_map2 : (Tryz.prog.info? 49).map (fun i => (i.zero, i.size, i.bytes)) = some (some (.agg #[.string ⟨#[]⟩, .string ⟨#[]⟩]), 2, 32) := by kernel_rfl
theorem und_maps : Tryz.prog.underlying 40 = some (.slice 49) := by kernel_rfl
theorem src_map (w : World) (x y : B) : SrcV (w.alloc (.cells #[.string (bstr x), .string (bstr y)] 49)) 2 (.slice (some ⟨w.heap.size, 0, none⟩) 1 1) 1 ([(x, y)].flatMap encP) := src_new encP_ok (heap_alloc_new _ _)
theorem policies_any (W0 : World) (v : Value) (zs : List Int) (w : World) (g n : Nat) (h : Deck W0 v zs w g) (hn : n <= 1000) :
  Calls Tryz.prog 22 #[.pointer (some ⟨g, 0, none⟩), .int .i64 n] w fun e w' => ∃ (rv : Value) (out : List B), e = .returned rv /\ MSt 9 1 encS W0 v zs w g rv out w' /\ out.length <= n /\ ∀ p ∈ out, p.length <= 100 := by
 obtain ⟨i0, hi0, hz0, hz1, hz2⟩ := info_parts info_str;have hgl := h.lt;have hw0 := h.bel.size;have hnx := next_any W0 v zs w g ((n : Int) + 1) h (by omega) (by omega);go_enter Tryz.func22, Tryz.ntmps22;go_wp2_with fail
 refine hnx.mono ?_;rintro e w1 ⟨r, rfl, a1, b1, hD1, hg1⟩;have HS1 := Bx.mk (show MSt 9 1 encS W0 v zs w g (.slice none 0 0) [] w1 from ⟨Slc.Own.nil _ _, hD1, hg1⟩);clear hnx hD1 hg1 h;go_wp2_with fail
 go_loopw [5, 6] (fun hv i wr => ∃ (k : Int) (out : List B), 0 <= k /\ i = .int .i64 k /\ out.length + k <= n /\ Bx (MSt 9 1 encS W0 v zs w g hv out wr) /\ Bx (∀ p ∈ out, p.length <= 100)) (fun _ i _ => (intOf i).toNat)
 case atStart => exact ⟨r, [], a1, rfl, by simp; omega, HS1, ⟨fun p hp => by cases hp⟩⟩
 case round =>
  clear HS1;obtain ⟨k, out, hk, rfl, hlen, hS, hP⟩ := hrel;obtain ⟨av, cv, rfl, -⟩ := hS.out.own.rd.form;by_cases hlt : 0 < k
  ·have tk : decide (k > 0) = true := zT hlt;have tk2 : decide (0 < k) = true := zT hlt;have hwk : IntKind.i64.wrap (k - 1) = k - 1 := IntWalk.i64_in _ (by omega);obtain ⟨W2, hW2⟩ : ∃ W2, W2 = wr.alloc (.cells #[.int .i64 0, .int .i64 1, .int .i64 2, .int .i64 3, .int .i64 8] 3) := ⟨_, rfl⟩
   have hb2 : Below wr.heap.size wr W2 := by rw [hW2]; exact (Below.refl _ _).alloc (zR _) _
   have hq2 : W2.heap[wr.heap.size]? = some (.cells #[.int .i64 0, .int .i64 1, .int .i64 2, .int .i64 3, .int .i64 8] 3 (0, 0)) := by rw [hW2]; exact heap_alloc_new _ _
   have HS2 := Bx.mk (hS.out.below hb2);have hnx := next_any W0 v zs W2 g 5 HS2.out.dk (by omega) (by omega);have hsz : w.heap.size <= wr.heap.size := hS.out.gr.size;have HQ2 := Bx.mk hq2;clear hb2 hq2;go_upto_if 20 with fail
   rw [<- hW2];clear hW2;refine hnx.mono ?_;rintro e w3 ⟨r3, rfl, a3, b3, hD3, hg3⟩;clear hnx;have HS3 := Bx.mk (HS2.out.grow hg3 hD3 hgl);have hq3 := (hg3.block wr.heap.size (lt_of_some HQ2.out) (by simp only [ne_eq, zO]; omega)).trans HQ2.out;obtain ⟨m, rfl⟩ : ∃ m : Nat, r3 = (m : Int) := ⟨r3.toNat, by omega⟩
   obtain ⟨c, hc9, hx⟩ : ∃ c : Nat, c < 9 /\ w3.cell? ⟨wr.heap.size, m, none⟩ = some (.int .i64 (c : Int)) := by
    have hm5 : m = 0 \/ m = 1 \/ m = 2 \/ m = 3 \/ m = 4 := (by omega);rcases hm5 with rfl | rfl | rfl | rfl | rfl
    ·exact ⟨0, by omega, cell_of_row _ _ 0 _ _ _ hq3⟩
    ·exact ⟨1, by omega, cell_of_row _ _ 1 _ _ _ hq3⟩
    ·exact ⟨2, by omega, cell_of_row _ _ 2 _ _ _ hq3⟩
    ·exact ⟨3, by omega, cell_of_row _ _ 3 _ _ _ hq3⟩
    ·exact ⟨8, by omega, cell_of_row _ _ 4 _ _ _ hq3⟩
   have hm5 : m < 5 := by omega
   have hpl := policy_any w3 c hc9;clear hD3 hg3 hq3 HS2 HQ2 a3 b3;go_upto_if 20 with fail
   go_at_call 35;refine hpl.mono ?_;rintro e w4 ⟨p, rfl, hp, hb4⟩;clear hpl;have HS4 := Bx.mk (HS3.out.below hb4);have HS5 := Bx.mk (HS4.out.below ((Below.refl w4.heap.size w4).alloc (zR _) (.cells #[.string (bstr p)] 9)))
   have HP5 := Bx.mk (show ∀ q ∈ out ++ [p], q.length <= 100 from fun q hq => by
    rcases List.mem_append.1 hq with e | e
    ·exact hP.out q e
    ·rw [zS] at e; subst e; exact hp)
   have HSRC := Bx.mk (src_str w4 p);have hm1 : out.length + 1 <= maxLen := by unfold maxLen; omega
   have hm2 : (out.length + 1) * 16 <= 140737488355328 := by omega
   have hbz : w.heap.size <= (w4.alloc (.cells #[.string (bstr p)] 9)).heap.size := HS5.out.gr.size;clear hb4 hx HS3 hc9 hm5 hp;go_wp2_with (at_builtin; refine wpList_append_any rfl _ _ _ rfl w.heap.size 9 i0 _ 1 16 und_strs hi0 hz0 hz1 hz2 rfl (by decide) _ out.length (out.flatMap encS) rfl HS5.out.own _ 1 ([p].flatMap encS) rfl HSRC.out hm1 hm2 hbz ?_)
   intro v9 w9 hapd;have HS9 := Bx.mk (HS5.out.apd (m := [p]) hgl hw0 rfl rfl rfl rfl hapd);clear hapd hm1 hm2 hbz HS5 HS4;go_wp2_with fail
   go_roundw
   case rel => exact ⟨k - 1, out ++ [p], by omega, by go_num, by simp; omega, HS9, HP5⟩
   case measure => simp [intOf]; omega
  ·go_wp2_with fail
   go_ret;exact ⟨_, rfl, out, hS.out, by omega, hP.out⟩
theorem mappings_any (W0 : World) (v : Value) (zs : List Int) (w : World) (g n : Nat) (h : Deck W0 v zs w g) (hn : n <= 1000) :
  Calls Tryz.prog 25 #[.pointer (some ⟨g, 0, none⟩), .int .i64 n] w fun e w' => ∃ (rv : Value) (out : List (B × B)), e = .returned rv /\ MSt 49 2 encP W0 v zs w g rv out w' /\ out.length <= n + 1 /\ ∀ p ∈ out, p.1.length <= 100 /\ p.2.length <= 100 := by
 obtain ⟨i0, hi0, hz0, hz1, hz2⟩ := info_parts info_map2;have hgl := h.lt;have hw0 := h.bel.size;have hnx := next_any W0 v zs w g ((n : Int) + 1) h (by omega) (by omega);go_enter Tryz.func25, Tryz.ntmps25;go_wp2_with fail
 refine hnx.mono ?_;rintro e w1 ⟨r, rfl, a1, b1, hD1, hg1⟩;have HS1 := Bx.mk (show MSt 49 2 encP W0 v zs w g (.slice none 0 0) [] w1 from ⟨Slc.Own.nil _ _, hD1, hg1⟩);clear hnx hD1 hg1 h;go_wp2_with fail
 go_loopw [5, 6] (fun hv i wr => ∃ (k : Int) (out : List (B × B)), 0 <= k /\ i = .int .i64 k /\ out.length + k <= n /\ Bx (MSt 49 2 encP W0 v zs w g hv out wr) /\ Bx (∀ p ∈ out, p.1.length <= 100 /\ p.2.length <= 100)) (fun _ i _ => (intOf i).toNat)
 case atStart => exact ⟨r, [], a1, rfl, by simp; omega, HS1, ⟨fun p hp => by cases hp⟩⟩
 case round =>
  clear HS1;obtain ⟨k, out, hk, rfl, hlen, hS, hP⟩ := hrel;obtain ⟨av, cv, rfl, -⟩ := hS.out.own.rd.form;by_cases hlt : 0 < k
  ·have tk : decide (k > 0) = true := zT hlt;have tk2 : decide (0 < k) = true := zT hlt;have hwk : IntKind.i64.wrap (k - 1) = k - 1 := IntWalk.i64_in _ (by omega);have hnx := next_any W0 v zs wr g 4 hS.out.dk (by omega) (by omega);go_upto_if 20 with fail
   refine hnx.mono ?_;rintro e w3 ⟨r3, rfl, a3, b3, hD3, hg3⟩;clear hnx;have HS3 := Bx.mk (hS.out.grow hg3 hD3 hgl);obtain ⟨m, rfl⟩ : ∃ m : Nat, r3 = (m : Int) := ⟨r3.toNat, by omega⟩
   have hpl := policy_any w3 m (by omega);clear hD3 hg3 hS a3 b3;go_upto_if 20 with fail
   go_at_call 35;refine hpl.mono ?_;rintro e w4 ⟨p, rfl, hp, hb4⟩;clear hpl;have HS4 := Bx.mk (HS3.out.below hb4);have hnx := next_any W0 v zs w4 g 4 HS4.out.dk (by omega) (by omega);clear hb4 HS3;go_upto_if 20 with fail
   refine hnx.mono ?_;rintro e w5 ⟨r5, rfl, a5, b5, hD5, hg5⟩;clear hnx;have HS5 := Bx.mk (HS4.out.grow hg5 hD5 hgl);obtain ⟨m2, rfl⟩ : ∃ m : Nat, r5 = (m : Int) := ⟨r5.toNat, by omega⟩
   have hpl := policy_any w5 m2 (by omega);clear hD5 hg5 HS4 a5 b5;go_upto_if 20 with fail
   go_at_call 35;refine hpl.mono ?_;rintro e w6 ⟨p2, rfl, hp2, hb6⟩;clear hpl;have HS6 := Bx.mk (HS5.out.below hb6);have HS7 := Bx.mk (HS6.out.below ((Below.refl w6.heap.size w6).alloc (zR _) (.cells #[.string (bstr p), .string (bstr p2)] 49)))
   have HP7 := Bx.mk (show ∀ q ∈ out ++ [(p, p2)], q.1.length <= 100 /\ q.2.length <= 100 from fun q hq => by
    rcases List.mem_append.1 hq with e | e
    ·exact hP.out q e
    ·rw [zS] at e; subst e; exact ⟨hp, hp2⟩)
   have HSRC := Bx.mk (src_map w6 p p2);have hm1 : out.length + 1 <= maxLen := by unfold maxLen; omega
   have hm2 : (out.length + 1) * 32 <= 140737488355328 := by omega
   have hbz : w.heap.size <= (w6.alloc (.cells #[.string (bstr p), .string (bstr p2)] 49)).heap.size := HS7.out.gr.size;clear hb6 HS5 hp hp2;go_wp2_with (at_builtin; refine wpList_append_any rfl _ _ _ rfl w.heap.size 49 i0 _ 2 32 und_maps hi0 hz0 hz1 hz2 rfl (by decide) _ out.length (out.flatMap encP) rfl HS7.out.own _ 1 ([(p, p2)].flatMap encP) rfl HSRC.out hm1 hm2 hbz ?_)
   intro v9 w9 hapd;have HS9 := Bx.mk (HS7.out.apd (m := [(p, p2)]) hgl hw0 rfl rfl rfl rfl hapd);clear hapd hm1 hm2 hbz HS7 HS6;go_wp2_with fail
   go_roundw
   case rel => exact ⟨k - 1, out ++ [(p, p2)], by omega, by go_num, by simp; omega, HS9, HP7⟩
   case measure => simp [intOf]; omega
  ·have hnx := next_any W0 v zs wr g 12 hS.out.dk (by omega) (by omega);go_wp2_with fail
   refine hnx.mono ?_;rintro e w3 ⟨r3, rfl, a3, b3, hD3, hg3⟩;clear hnx;have HS3 := Bx.mk (hS.out.grow hg3 hD3 hgl);clear hD3 hg3;by_cases h1 : r3 = 1
   ·have t1 : (r3 == 1) = true := by simp [h1]
    have hpl := policy_any w3 0 (by omega);clear a3 b3;go_wp2_with fail
    go_at_call 35;refine hpl.mono ?_;rintro e w6 ⟨p2, rfl, hp2, hb6⟩;clear hpl;have HS6 := Bx.mk (HS3.out.below hb6);have HS7 := Bx.mk (HS6.out.below ((Below.refl w6.heap.size w6).alloc (zR _) (.cells #[.string (bstr anyP), .string (bstr p2)] 49)))
    have HP7 := Bx.mk (show ∀ q ∈ out ++ [(anyP, p2)], q.1.length <= 100 /\ q.2.length <= 100 from fun q hq => by
     rcases List.mem_append.1 hq with e | e
     ·exact hP.out q e
     ·rw [zS] at e; subst e; exact ⟨(by decide : anyP.length <= 100), hp2⟩)
    have HSRC := Bx.mk (src_map w6 anyP p2);have hm1 : out.length + 1 <= maxLen := (by unfold maxLen; omega);have hm2 : (out.length + 1) * 32 <= 140737488355328 := (by omega);have hbz : w.heap.size <= (w6.alloc (.cells #[.string (bstr anyP), .string (bstr p2)] 49)).heap.size := HS7.out.gr.size;clear hb6 HS3 hp2;go_wp2_with (at_builtin; refine wpList_append_any rfl _ _ _ rfl w.heap.size 49 i0 _ 2 32 und_maps hi0 hz0 hz1 hz2 rfl (by decide) _ out.length (out.flatMap encP) rfl HS7.out.own _ 1 ([(anyP, p2)].flatMap encP) rfl HSRC.out hm1 hm2 hbz ?_)
    intro v9 w9 hapd;have HS9 := Bx.mk (HS7.out.apd (m := [(anyP, p2)]) hgl hw0 rfl rfl rfl rfl hapd);clear hapd hm1 hm2 hbz HS7 HS6;go_wp2_with fail
    go_ret;exact ⟨_, out ++ [(anyP, p2)], rfl, HS9.out, by simp; omega, HP7.out⟩
   ·have t1 : (r3 == 1) = false := by simp [h1]
    go_wp2_with fail
    go_ret;exact ⟨_, out, rfl, HS3.out, by omega, hP.out⟩
end Go.Proofs.YtmagjdocondmhaaGreat.Tr
namespace Go.Proofs.YtmagjdocondmhaaGreat.Tr.Gr
open Go Go.RowKit Slc St Mp Tr Rg
attribute [local go_sem] Oper.semAt_some
structure GI (G : List (List Vx)) (n b : Nat) : Prop where
 val : gvalidB G = true
 len : G.length <= n + 1
 lev : ∀ l ∈ G, l.length <= b /\ ∀ v ∈ l, v.ex.length <= 5
theorem GI.at_ {G : List (List Vx)} {n b : Nat} (h : GI G n b) (k : Nat) : (G[k]!).length <= b /\ ∀ v ∈ G[k]!, v.ex.length <= 5 := by
 by_cases hk : k < G.length
 ·rw [getElem!_pos G k hk]; exact h.lev _ (zM hk)
 ·rw [getElem!_neg G k hk]; exact ⟨Nat.zero_le _, fun v hv => by cases hv⟩
theorem GI.mono {G : List (List Vx)} {n b n' b' : Nat} (h : GI G n b) (hn : n <= n') (hb : b <= b') : GI G n' b' := ⟨h.val, Nat.le_trans h.len (by omega), fun l hl => ⟨Nat.le_trans (h.lev l hl).1 hb, (h.lev l hl).2⟩⟩
theorem GI.nil (n b : Nat) : GI [] n b := ⟨rfl, Nat.zero_le _, fun l hl => by cases hl⟩
theorem GI.root (n b : Nat) (hb : 1 <= b) : GI rootG n b := ⟨by kernel_rfl, by show 1 <= n + 1; omega, fun l hl => by
 unfold rootG at hl;rw [zS] at hl;subst hl;refine ⟨hb, fun v hv => ?_⟩;rw [zS] at hv;subst hv
 show 1 <= 5
 omega⟩
theorem GI.prune {g : List (List Vx)} {n b : Nat} (hv : gvalidB (pruneG g) = true) (hl : g.length <= n + 1) (h : ∀ (k : Nat), (g[k]!).length <= b /\ ∀ v ∈ g[k]!, v.ex.length <= 5) : GI (pruneG g) n b := by
 rcases pruneG_sub g with e | ⟨e1, e2⟩
 ·rw [e]; exact GI.nil _ _
 ·refine ⟨hv, by omega, fun l hm => ?_⟩;obtain ⟨k, hk, rfl⟩ := List.getElem_of_mem hm;have hs := e2 k;rw [getElem!_pos _ k hk] at hs;refine ⟨Nat.le_trans hs.1 (h k).1, fun v hv => ?_⟩;obtain ⟨u, hu, -, e⟩ := hs.2 v hv;rw [e]; exact (h k).2 u hu
theorem allJ_five {l : List Vx} (h : ∀ v ∈ l, v.ex.length <= 5) : ∀ k, k <= l.length -> (allJ l k).length <= 5 * k
 | 0, _ => by simp [allJ]
 | k + 1, hk => by
  rw [allJ_succ];have h1 := allJ_five h k (by omega);have h2 := h l[k]! (by rw [getElem!_pos l k (by omega)]; exact zM _);omega
theorem GI.enter {G : List (List Vx)} {n b : Nat} (h : GI G n b) (ps : List B) (hp : ps.length <= 5) (cnt : Bool) : GI (genterP G ps cnt).1 (n + 1) (5 * b + 5) := by
 have hv := enter_valid h.val ps cnt;unfold genterP at hv |-;rw [h.val] at hv |-;simp only [if_true] at hv |-
 split
 ·exact GI.nil _ _
 ·rename_i h0
  rw [if_neg h0] at hv;refine GI.prune hv (by rw [List.length_append, List.length_singleton]; have := h.len; omega) fun k => ?_
  by_cases hk : k < G.length
  ·rw [getElem!_pos _ k (by rw [List.length_append]; omega), List.getElem_append_left hk];have := h.lev _ (zM hk);exact ⟨by omega, this.2⟩
  ·by_cases hk2 : k = G.length
   ·subst hk2;rw [getElem!_pos _ _ (by rw [List.length_append]; simp), List.getElem_append_right (zR _)];simp only [Nat.sub_self, List.getElem_cons_zero]
    have hL := h.at_ (G.length - 1);have h1 := keyL_len G[G.length - 1]! ps cnt;have h2 := allJ_five hL.2 _ (zR _);unfold levP;rw [List.length_map];refine ⟨by omega, fun v hv' => ?_⟩;obtain ⟨p, -, rfl⟩ := List.mem_map.1 hv'
    show 1 <= 5
    omega
   ·rw [getElem!_neg _ k (by rw [List.length_append, List.length_singleton]; omega)];exact ⟨Nat.zero_le _, fun v hv' => by cases hv'⟩
theorem mapS_ex {ms : List (B × B)} {star above : Int} {l : List Vx} {p : B} {E : Nat} (h : ∀ v ∈ l, v.ex.length <= E) (hs : ∀ q, (subL ms q).length <= E) : ∀ v ∈ mapS ms star above l p, v.ex.length <= E := by
 intro v hv;unfold mapS at hv;split at hv
 ·rcases List.mem_or_eq_of_mem_set hv with q | rfl
  ·exact h v q
  ·exact hs p
 ·split at hv
  ·rcases insV_mem hv with q | rfl
   ·exact h v q
   ·exact hs p
  ·exact h v hv
theorem mapL_ex {ms : List (B × B)} {star above : Int} {E : Nat} (hs : ∀ q, (subL ms q).length <= E) : ∀ (ks : List B) {l : List Vx}, (∀ v ∈ l, v.ex.length <= E) -> ∀ v ∈ mapL ms star above l ks, v.ex.length <= E
 | [], _, h => h
 | p :: ks, _, h => mapL_ex hs ks (mapS_ex (p := p) h hs)
theorem GI.map {G : List (List Vx)} {n b : Nat} (h : GI G n b) (ms : List (B × B)) (hm : ms.length <= 5) (ok : Bool) : GI (gmapP G ms ok).1 n (b + 5) := by
 have hv := map_valid h.val ms ok;unfold gmapP at hv |-;split
 ·rename_i h1
  rw [if_pos h1] at hv;split
  ·exact GI.nil _ _
  ·rename_i h0
   rw [if_neg h0] at hv;refine GI.prune hv (by rw [zL]; exact h.len) fun k => ?_
   by_cases hk : k = G.length - 1
   ·subst hk;rw [getElem!_pos _ _ (by rw [zL]; omega), List.getElem_set_self];have hL := h.at_ (G.length - 1);unfold gmapL;split
    ·have h1 := mapL_len ms (fndP G[G.length - 1]! anyP) (fndP G[G.length - 2]! anyP) (srcL ms) G[G.length - 1]!;have h2 := srcL_len ms;exact ⟨by omega, mapL_ex (fun q => Nat.le_trans (subL_le ms q) hm) _ hL.2⟩
    ·exact ⟨Nat.le_trans (List.length_filter_le _ _) (by omega), fun v hv' => hL.2 v (List.mem_filter.1 hv').1⟩
   ·have e : (G.set (G.length - 1) (gmapL G ms ok))[k]! = G[k]! := by
     by_cases hk2 : k < G.length
     ·rw [getElem!_pos _ k (by rw [zL]; exact hk2), getElem!_pos G k hk2, List.getElem_set_ne (by omega)]
     ·rw [getElem!_neg _ k (by rw [zL]; exact hk2), getElem!_neg G k hk2]
    rw [e];have := h.at_ k;exact ⟨by omega, this.2⟩
 ·exact GI.nil _ _
def bndG : Nat -> Nat
 | 0 => 1
 | k + 1 => 5 * bndG k + 10
structure TDG (w : World) (v : Value) (zs : List Int) (g : Nat) (wr : World) (tv : Value) (l : List Lv) : Prop where
 tr : GO wr (g + 1) tv l
 nq : NQ (g + 1) l
 dk : Deck w v zs wr g
 bel : Below w.heap.size w wr
theorem GO.deck {w w' : World} {g Bk : Nat} {tv : Value} {l : List Lv} (h : GO w Bk tv l) (hq : NQ Bk l) (hg : w.grownBy w' (some g)) (hgB : g < Bk) : GO w' Bk tv l :=
 h.keep hg.size fun k hk hkk => hg.block k hk fun e => by
  simp only [zO] at e
  rcases hkk with q | ⟨L, hL, x, hx, q⟩
  ·have := (h.lt q).1; omega
  ·have := hq L hL x hx k q; omega
section
variable {w : World} {v : Value} {zs : List Int} {g : Nat} {wr w' : World} {tv tv' : Value} {l l' : List Lv}
theorem TDG.grow (h : TDG w v zs g wr tv l) (hg : wr.grownBy w' (some g)) (hd : Deck w v zs w' g) : TDG w v zs g w' tv l :=
 ⟨h.tr.deck h.nq hg (Nat.lt_succ_self g), h.nq, hd, h.bel.grown hg h.bel.size fun k hk => by simp only [zO] at hk; have := h.dk.ge; omega⟩
theorem TDG.next (h : TDG w v zs g wr tv l) (ht : GO w' wr.heap.size tv' l') (hq : NQ wr.heap.size l') (hb : Below wr.heap.size wr w') : TDG w v zs g w' tv' l' :=
 ⟨ht.mono h.dk.lt, hq.mono h.dk.lt, h.dk.below hb, h.bel.trans (hb.mono h.bel.size)⟩
end
theorem GI.lens {l : List Lv} {n b : Nat} (h : GI (gxs l) n b) : l.length <= n + 1 /\ ∀ L ∈ l, L.vs.length <= b /\ (allJ (vxs L.vs) L.vs.length).length <= 5 * b := by
 refine ⟨by have := h.len; rwa [gxs_len] at this, fun L hL => ?_⟩;have h1 := h.lev (vxs L.vs) (List.mem_map.2 ⟨L, hL, rfl⟩);rw [vxs_len] at h1;have h2 := allJ_five h1.2 L.vs.length (by rw [vxs_len]; exact zR _);exact ⟨h1.1, by omega⟩
theorem ggrown_any (w : World) (v : Value) (zs : List Int) (w1 : World) (g : Nat) (hd : Deck w v zs w1 g) (hb : Below w.heap.size w w1) :
  Calls Tryz.prog 13 #[.pointer (some ⟨g, 0, none⟩), .int .i64 4] w1 fun e w' => ∃ (tv : Value) (l : List Lv), e = .returned tv /\ TDG w v zs g w' tv l /\ GI (gxs l) 4 2200 := by
 have hroot := rgroot_any w1;have HD1 := Bx.mk hd;have HB1 := Bx.mk hb;clear hd hb;go_enter Tryz.func13, Tryz.ntmps13;go_wp2_with fail
 go_at_call 21;refine hroot.mono ?_;rintro e w2 ⟨tv, l, rfl, ho, hn, hb, hq⟩;clear hroot;have HT2 := Bx.mk (show TDG w v zs g w2 tv l from ⟨ho.mono HD1.out.lt, hq.mono HD1.out.lt, HD1.out.below hb, HB1.out.trans (hb.mono HB1.out.size)⟩);have HI2 := Bx.mk (show GI (gxs l) 0 (bndG 0) by rw [hn]; exact GI.root 0 1 (zR _));have hnx := next_any w v zs w2 g 5 HT2.out.dk (by omega) (by omega);obtain ⟨a2, c2, hv2, -⟩ := ho.own.rd.form;subst hv2;clear ho hn hb hq HD1 HB1;go_wp2_with fail
 refine hnx.mono ?_;rintro e w3 ⟨r, rfl, hr0, hr1, hD3, hg3⟩;clear hnx;have HT3 := Bx.mk (HT2.out.grow hg3 hD3);clear hD3 hg3 HT2;obtain ⟨n, rfl⟩ : ∃ n : Nat, r = (n : Int) := ⟨r.toNat, by omega⟩
 have hn4 : n <= 4 := by omega
 clear hr0 hr1;obtain ⟨LN, hLN⟩ : ∃ LN, LN = l.length := ⟨_, rfl⟩
 have HLN := Bx.mk hLN;rw [<- hLN] at HT3 |-;clear hLN;go_wp2_with fail
 go_loopw [5, 6] (fun tv iv wr => ∃ (l : List Lv) (k m : Nat), k + m = n /\ iv = .int .i64 m /\ Bx (TDG w v zs g wr tv l) /\ Bx (GI (gxs l) k (bndG k))) (fun _ iv _ => (intOf iv).toNat)
 case atStart => exact ⟨l, 0, n, by omega, rfl, HT3, HI2⟩
 case round =>
  clear HT3 HI2 HLN;obtain ⟨l, k, m, hkm, rfl, hT, hI⟩ := hrel;obtain ⟨ta, tc, htv, -⟩ := hT.out.tr.own.rd.form;obtain ⟨LN, hLN⟩ : ∃ LN, LN = l.length := ⟨_, rfl⟩
  rw [<- hLN] at htv;subst htv;have HLN := Bx.mk hLN;clear hLN
  have HBK := Bx.mk (show bndG k <= 2200 from by
   have : k = 0 \/ k = 1 \/ k = 2 \/ k = 3 \/ k = 4 := by omega
   rcases this with rfl | rfl | rfl | rfl | rfl <;> decide)
  cases m with
  | zero =>
   have t1 : decide (((0 : Nat) : Int) > 0) = false := rfl;have HIF := Bx.mk (hI.out.mono (n' := 4) (b' := 2200) (by omega) HBK.out);go_wp2_with fail
   go_ret
   exact ⟨_, l, rfl, hT.out, HIF.out⟩
  | succ m =>
   have hk3 : k < 4 := by omega
   have hm4 : m <= 4 := by omega
   have t1 : decide (((m + 1 : Nat) : Int) > 0) = true := zT (by omega)
   have HBS := Bx.mk (show 5 * bndG k + 10 <= 2200 from by
    have : k = 0 \/ k = 1 \/ k = 2 \/ k = 3 := by omega
    rcases this with rfl | rfl | rfl | rfl <;> decide)
   have hpo := policies_any w v zs wr g 4 hT.out.dk (by omega);go_wp2_with fail
   go_at_call 22;refine hpo.mono ?_;rintro e w4 ⟨pv, ps, rfl, hM, hpl, hpx⟩;clear hpo;have HT4 := Bx.mk (hT.out.grow hM.gr hM.dk);have hnx := next_any w v zs w4 g 3 hM.dk (by omega) (by omega);have hgl : g < wr.heap.size := hT.out.dk.lt;have HM4 := Bx.mk hM.own;have HPX := Bx.mk (show ∀ p ∈ ps, p.length <= 1000000 from fun p hp => by have := hpx p hp; omega);obtain ⟨pa, pc, rfl, -⟩ := hM.own.rd.form;clear hM hpx hT;go_wp2_with fail
   refine hnx.mono ?_;rintro e w5 ⟨r5, rfl, a5, b5, hD5, hg5⟩;clear hnx;have HT5 := Bx.mk (HT4.out.grow hg5 hD5);have hlens := hI.out.lens;have hent := fun cb => rgenter_any w5 _ (.slice pa ps.length pc) l ps HT5.out.tr.gl.q (own_grown HM4.out hg5 hgl).rd (by omega) (fun L hL => by have := (hlens.2 L hL).1; have := HBK.out; omega) (fun L hL => by have := (hlens.2 L hL).2; have := HBK.out; omega) (by omega) HPX.out cb
   have HGI := Bx.mk (fun cb => hI.out.enter ps (by omega) cb);clear hD5 hg5 HM4 HT4 HPX hpl hgl hlens;go_wp2_with fail
   go_at_call 24;refine (hent _).mono ?_;rintro e w6 ⟨v6, l6, rfl, ho6, hx6, hb6, hq6⟩;have HI6 := Bx.mk (show GI (gxs l6) (k + 1) (5 * bndG k + 5) by rw [hx6]; exact HGI.out _);have HT6 := Bx.mk (HT5.out.next ho6 hq6 hb6);obtain ⟨a6, c6, hv6, -⟩ := ho6.own.rd.form;obtain ⟨L6, hL6⟩ : ∃ L6, L6 = l6.length := ⟨_, rfl⟩
   rw [<- hL6] at hv6;subst hv6;have hnx := next_any w v zs w6 g 2 HT6.out.dk (by omega) (by omega);generalize (genterP (gxs l) ps _).2 = EE at *;clear hent HGI ho6 hx6 hb6 hq6 HT5 hI hL6 a5 b5;go_wp2_with fail
   refine hnx.mono ?_;rintro e w7 ⟨r7, rfl, a7, b7, hD7, hg7⟩;clear hnx;have HT7 := Bx.mk (HT6.out.grow hg7 hD7);clear hD7 hg7 HT6;by_cases h7 : r7 = 1
   ·have t7 : (r7 == 1) = true := by simpa using h7
    have hpo := mappings_any w v zs w7 g 4 HT7.out.dk (by omega);clear h7 a7 b7;go_wp2_with fail
    go_at_call 25;refine hpo.mono ?_;rintro e w8 ⟨mv, ms, rfl, hM, hml, hmx⟩;clear hpo;have HT8 := Bx.mk (HT7.out.grow hM.gr hM.dk);have hnx := next_any w v zs w8 g 5 hM.dk (by omega) (by omega);have hgl : g < w7.heap.size := HT7.out.dk.lt;have HM8 := Bx.mk hM.own;have HMX := Bx.mk (show ∀ m ∈ ms, m.1.length <= 1000000 /\ m.2.length <= 1000000 from fun m hm => by have := hmx m hm; omega);obtain ⟨ma, mc, rfl, -⟩ := hM.own.rd.form;clear hM hmx HT7;go_wp2_with fail
    refine hnx.mono ?_;rintro e w9 ⟨r9, rfl, a9, b9, hD9, hg9⟩;clear hnx;have HT9 := Bx.mk (HT8.out.grow hg9 hD9);have hlens := HI6.out.lens;have hmap := fun cb => rgmap_any w9 _ (.slice ma ms.length mc) l6 ms HT9.out.tr.gl.q (own_grown HM8.out hg9 hgl).rd (by omega) (fun L hL => by have := (hlens.2 L hL).1; have := HBS.out; omega) (by omega) HMX.out cb
    have HGI := Bx.mk (fun cb => HI6.out.map ms (by omega) cb);clear hD9 hg9 HM8 HT8 HMX hml hgl hlens;go_wp2_with fail
    go_at_call 27;refine (hmap _).mono ?_;rintro e w10 ⟨v10, l10, rfl, ho10, hx10, hb10, hq10⟩;have HI10 := Bx.mk (show GI (gxs l10) (k + 1) (bndG (k + 1)) by rw [hx10]; exact (HGI.out _).mono (zR _) (by show _ <= 5 * bndG k + 10; omega));have HT10 := Bx.mk (HT9.out.next ho10 hq10 hb10);obtain ⟨a10, c10, hv10, -⟩ := ho10.own.rd.form;obtain ⟨L10, hL10⟩ : ∃ L10, L10 = l10.length := ⟨_, rfl⟩
    rw [<- hL10] at hv10;subst hv10;generalize (gmapP (gxs l6) ms _).2 = EF at *;clear hmap HGI ho10 hx10 hb10 hq10 HT9 HI6 hL10 a9 b9;go_wp2_with fail
    go_roundw
    case rel => exact ⟨l10, k + 1, m, by omega, by go_num, HT10, HI10⟩
    case measure => simp [intOf]; try omega
   ·have t7 : (r7 == 1) = false := by simpa using h7
    have HI7 := Bx.mk (show GI (gxs l6) (k + 1) (bndG (k + 1)) from HI6.out.mono (zR _) (by show _ <= 5 * bndG k + 10; omega));clear h7 a7 b7;go_wp2_with fail
    go_roundw
    case rel => exact ⟨l6, k + 1, m, by omega, by go_num, HT7, HI7⟩
    case measure => simp [intOf]; try omega
end Go.Proofs.YtmagjdocondmhaaGreat.Tr.Gr
