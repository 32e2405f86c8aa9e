/- packed -/
import Derived.Test.YtmagjdocondmhaaGreatPkAn13
set_option linter.unusedVariables false
set_option linter.unusedSimpArgs false
set_option maxRecDepth 100000
set_option maxHeartbeats 64000000
namespace Go.Proofs.YtmagjdocondmhaaGreat.Tr.Gr
open Go Go.RowKit Slc St Mp Tr Rg
attribute [local go_sem] Oper.semAt_some
def risB (l : List Int) (n : Int) : Bool := decide (l.Pairwise (· < ·)) && l.all fun p => decide (0 <= p) && decide (p < n)
theorem risB_bad {l : List Int} {n : Int} {i : Nat} (hi : i < l.length) (h : ¬ (0 <= l[i] /\ l[i] < n)) : risB l n = false := by
 unfold risB
 have : (l.all fun p => decide (0 <= p) && decide (p < n)) = false := by
  rw [List.all_eq_false];exact ⟨l[i], zM hi, by simpa using h⟩
 rw [this, Bool.and_false]
theorem risB_bad2 {l : List Int} {n : Int} {i : Nat} (hi : i + 1 < l.length) (h : ¬ l[i] < l[i + 1]) : risB l n = false := by
 unfold risB;rw [zF (fun hp => h (List.pairwise_iff_getElem.1 hp i (i + 1) (by omega) hi (by omega))), Bool.false_and]
theorem risB_good {l : List Int} {n : Int} (h1 : ∀ k (hk : k < l.length), 0 <= l[k] /\ l[k] < n) (h2 : ∀ k (hk : k + 1 < l.length), l[k] < l[k + 1]) : risB l n = true := by
 unfold risB;rw [zT (pairI_chain l h2), Bool.true_and, List.all_eq_true];intro p hp;obtain ⟨k, hk, rfl⟩ := List.getElem_of_mem hp;simpa using h1 k hk
theorem ris_bad (v : Vx) (n : Nat) : badV v n = (!ascB v.ex || (decide (v.par.length = 0) || !risB v.par n)) := by
 unfold badV;congr 1
 by_cases hz : v.par.length = 0
 ·have : v.par = [] := List.length_eq_zero_iff.1 hz;rw [this]; simp [ascI]
 ·rw [zF hz, Bool.false_or];have hp : 0 < v.par.length := by omega
  by_cases ha : ascI v.par = true
  ·have hpw : v.par.Pairwise (· < ·) := by
    unfold ascI at ha;simp only [Bool.and_eq_true, decide_eq_true_eq] at ha
    exact ha.1
   rw [ha, Bool.not_true, Bool.false_or];by_cases h0 : v.par[0]! < 0
   ·rw [zT h0, Bool.true_or, risB_bad hp (by rw [getElem!_pos v.par 0 hp] at h0; omega)]; rfl
   ·rw [zF h0, Bool.false_or];by_cases h1 : v.par[v.par.length - 1]! >= (n : Int)
    ·rw [zT h1, risB_bad (i := v.par.length - 1) (by omega) (by rw [getElem!_pos v.par _ (by omega)] at h1; omega)]; rfl
    ·rw [zF h1, risB_good (fun k hk => par_in ha h0 h1 _ (zM hk)) (fun k hk => List.pairwise_iff_getElem.1 hpw k (k + 1) (by omega) hk (by omega))]; rfl
  ·have hf : ascI v.par = false := by simpa using ha
   rw [hf]
   have : risB v.par n = false := by
    unfold risB;unfold ascI at hf;rw [Bool.and_eq_false_iff] at hf;rcases hf with e | e
    ·rw [e, Bool.false_and]
    ·cases hv : v.par with
     | nil => rw [hv] at hp; simp at hp
     | cons a b => rw [hv] at e; simp at e
   rw [this]; rfl
theorem rris_any (w : World) (v : Value) (l : List Int) (h : Ri w v l) (hn : l.length <= 1000000) (n : Nat) : Calls Tryz.prog 46 #[v, .int .i64 n] w fun e w' => e = .returned (.bool (risB l n)) /\ Below w.heap.size w w' := by
 obtain ⟨ad, c, rfl, -⟩ := RqIn.form h;have HC := Bx.mk h.cells;obtain ⟨R, hR⟩ : ∃ R, R = risB l n := ⟨_, rfl⟩
 rw [<- hR];have HR := Bx.mk hR;obtain ⟨N, hN⟩ : ∃ N, N = l.length := ⟨_, rfl⟩
 have HN := Bx.mk hN;have hNb : N <= 1000000 := by omega
 rw [<- hN];clear hR hN h hn;go_enter Tryz.func46, Tryz.ntmps46;go_wp2_with fail
 go_loopw [5] (fun iv wr => ∃ i : Nat, iv = .int .i64 (i : Nat) /\ i <= N /\ Bx (∀ k (hk : k < l.length), k < i -> 0 <= l[k] /\ l[k] < (n : Int)) /\ Bx (∀ k (hk : k + 1 < l.length), k + 1 < i -> l[k] < l[k + 1]) /\ Below w.heap.size w wr) (fun iv _ => N - (intOf iv).toNat)
 case atStart => exact ⟨0, rfl, by omega, ⟨fun k hk h => by omega⟩, ⟨fun k hk h => by omega⟩, Below.refl _ _⟩
 case round =>
  obtain ⟨i, rfl, h2, hA, hB, hbel⟩ := hrel;by_cases hlt : i < N
  ·have hil : i < l.length := by rw [<- HN.out]; exact hlt
   obtain ⟨b, o, rfl, hbl, hx⟩ := HC.out wr hbel i hil;have HBEL := Bx.mk hbel;obtain ⟨X, hX⟩ : ∃ X, X = l[i] := ⟨_, rfl⟩
   have HX := Bx.mk hX;rw [<- hX] at hx;by_cases c1 : X < 0
   ·have t1 : decide (X < 0) = true := zT c1;have HF := Bx.mk (show R = false by rw [HR.out]; exact risB_bad hil (by rw [<- HX.out]; omega));clear hbel hX c1;go_wp2_with fail
    go_quiet (fail)
    go_wp2_with fail
    go_ret;exact ⟨by rw [HF.out]; rfl, below_drawn HBEL.out _⟩
   have t1 : decide (X < 0) = false := zF c1;by_cases c2 : X < (n : Int)
   rotate_left
   ·have t2 : decide (X >= (n : Int)) = true := zT (by omega);have t3 : decide ((n : Int) <= X) = true := zT (by omega);have HF := Bx.mk (show R = false by rw [HR.out]; exact risB_bad hil (by rw [<- HX.out]; omega));clear hbel hX c1 c2;go_wp2_with fail
    go_quiet (fail)
    go_wp2_with fail
    go_ret;exact ⟨by rw [HF.out]; rfl, below_drawn HBEL.out _⟩
   have t2 : decide (X >= (n : Int)) = false := zF (by omega);have t3 : decide ((n : Int) <= X) = false := zF (by omega)
   have HA2 := Bx.mk (show ∀ k (hk : k < l.length), k < i + 1 -> 0 <= l[k] /\ l[k] < (n : Int) from fun k hk hki => by
    rcases Nat.lt_or_ge k i with q | q
    ·exact hA.out k hk q
    ·obtain rfl : k = i := by omega
     rw [<- HX.out]; omega)
   by_cases hz : i = 0
   ·subst hz;have HB2 := Bx.mk (show ∀ k (hk : k + 1 < l.length), k + 1 < 0 + 1 -> l[k] < l[k + 1] from fun k hk h => by omega);simp only [Nat.add_zero] at hx
    clear hbel hX c1 c2;go_wp2_with fail
    go_quiet (fail)
    go_wp2_with fail
    go_roundw
    case rel => exact ⟨0 + 1, by go_num, by omega, HA2, HB2, below_drawn HBEL.out _⟩
    case measure => simp [intOf]; omega
   obtain ⟨j, rfl⟩ : ∃ j, i = j + 1 := ⟨i - 1, by omega⟩
   obtain ⟨b', o', hbo, -, hy⟩ := HC.out wr hbel j (by omega);simp only [zO, Addr.mk.injEq, and_true] at hbo
   obtain ⟨rfl, rfl⟩ := hbo;have wj : IntKind.i64.wrap (((j + 1 : Nat) : Int) - 1) = (j : Int) := by rw [IntWalk.i64_in _ (by omega)]; omega
   have ej : ((j : Int) + 1).toNat = j + 1 := by omega
   have t4 : decide (((j + 1 : Nat) : Int) > 0) = true := zT (by omega);have hjl : j < l.length := by omega
   obtain ⟨Y, hY⟩ : ∃ Y, Y = l[j]'hjl := ⟨_, rfl⟩
   have HY := Bx.mk hY;rw [<- hY] at hy;by_cases hc : Y < X
   ·have HB2 := Bx.mk (show ∀ k (hk : k + 1 < l.length), k + 1 < j + 1 + 1 -> l[k] < l[k + 1] by
     intro k hk hkj;rcases Nat.lt_or_ge (k + 1) (j + 1) with q | q
     ·exact hB.out k hk q
     ·obtain rfl : k = j := by omega
      rw [<- HX.out, <- HY.out]; exact hc)
    have t5 : decide (Y >= X) = false := zF (by omega);have t6 : decide (X <= Y) = false := zF (by omega);clear hbel hc hX hY c1 c2 hz;go_wp2_with fail
    go_quiet (fail)
    go_wp2_with fail
    go_roundw
    case rel => exact ⟨j + 2, by go_num, by omega, HA2, HB2, below_drawn HBEL.out _⟩
    case measure => simp [intOf]; omega
   ·have HF := Bx.mk (show R = false by rw [HR.out]; exact risB_bad2 hil (by rw [<- HX.out, <- HY.out]; exact hc));have t5 : decide (Y >= X) = true := zT (by omega);have t6 : decide (X <= Y) = true := zT (by omega);clear hbel hc hX hY c1 c2 hz;go_wp2_with fail
    go_quiet (fail)
    go_wp2_with fail
    go_ret;exact ⟨by rw [HF.out]; rfl, below_drawn HBEL.out _⟩
  ·have HE := Bx.mk (show R = true by
    rw [HR.out];have := HN.out
    exact risB_good (fun k hk => hA.out k hk (by omega)) (fun k hk => hB.out k hk (by omega)))
   have HBEL := Bx.mk hbel;clear hbel;go_wp2_with fail
   go_ret;exact ⟨by rw [HE.out]; rfl, HBEL.out⟩
variable {W2 a0 a1 a2 a3 a4 a5 a6 a7 a8 a9 b0 b1 b2 b3 b4 b5 b6 b7 b8 b9 c1 c2 c3 c4 c5 c6 c7 c8 c9 d0 d1 d2 d3 d4 d5 d6 d7 d8 d9 e0 e2 e3 e4 e5 e6 e7 e8 e9 f0 f1 f2 f3 f4 f5 f6 f7 f8 f9 g0 g1 g2 g3 g4 g5 g6 g7 g8 g9 h0 h1 h2 h3 h4 h5 h6 h7 h8 h9 i0 i1 i2 i3 i4 i5 i6 i7 i8 i9 j0 j1 j2 j3 j4 j5 j6 j7 j8 j9 k0 k1 k2 k3 k4 k5 k6 k7 k8 k9 l0 l1 l2 l4 l5 l6 l7 l8 l9 m0 m1 m2 m3 m4 m5 m6 m7 m8 m9 n3 n4 n5 n6 n7 n8 n9 o0 o1 o2 o3 o4 o5 o6 o7 o8 o9 p0 p1 p2 p3 p4 p5 p6 p7 p8 p9 q0 q1 q2 q3 q4 q5 q6 q7 q8 q9 r0 r1 r2 r3 r4 r5 r6 r7 r8 r9 s0 s3 t0 t3 t4 t5 t6 t7 t8 t9 u0 u1 u2 u3 u4 u5 u6 u7 u8 u9 v0 v1 v2 v3 v4 v5 v6 c0 n0 n1 n2 s5 s6 s7 t1 t2 s4 s8 : Value}
theorem reg4_a {Q : Exit -> Act -> World -> Prop} {W2 : World} {gb go : Nat} {GN gc M rc : Nat} {ra : Option Addr}
  (t1 : ((M : Int) != 1) = true) (t2 : ((M : Int) == 1) = false)
  (hQ : ∀ (W' : World), Below W2.heap.size W2 W' -> ∀ (o18 o19 o20 o21 o22 o23 o24 o25 o26 o27 o28 o29 o30 o31 o32 o33 o34 o35 o36 o37 o38 o39 o40 o41 o42 o43 : Value), Q .normal { tmps := List.toArray (.slice (some ⟨gb, go, none⟩) GN gc::a0::a1::.slice ra M rc::a2::a3::a4::a5::a6::a7::a8::a9::b0::b1::b2::b3::b4::b5::o18::o19::o20::o21::o22::o23::o24::o25::o26::o27::o28::o29::o30::o31::o32::o33::o34::o35::o36::o37::o38::o39::o40::o41::o42::o43::.bool (true)::b6::b7::b8::b9::c1::c2::c3::c4::c5::c6::c7::c8::c9::d0::d1::d2::d3::d4::d5::d6::d7::d8::d9::e0::e2::e3::e4::e5::e6::e7::e8::e9::f0::f1::f2::f3::f4::f5::f6::f7::f8::f9::g0::g1::g2::g3::g4::g5::g6::g7::g8::g9::h0::h1::h2::h3::h4::h5::h6::h7::h8::h9::i0::i1::i2::i3::i4::i5::i6::i7::i8::i9::j0::j1::j2::j3::j4::j5::j6::j7::j8::j9::k0::k1::k2::k3::k4::k5::k6::k7::k8::k9::l0::l1::l2::l4::l5::l6::l7::l8::l9::m0::m1::m2::m3::m4::m5::m6::m7::m8::m9::n3::n4::n5::n6::n7::n8::n9::o0::o1::o2::o3::o4::o5::o6::o7::o8::o9::p0::p1::p2::p3::p4::p5::p6::p7::p8::p9::q0::q1::q2::q3::q4::q5::q6::q7::q8::q9::r0::r1::r2::r3::r4::r5::r6::r7::r8::r9::[]), defers := [] } W') :
  (regC 4 (Tryz.f16.body.getD .skip)).wp Tryz.prog Q { tmps := List.toArray (.slice (some ⟨gb, go, none⟩) GN gc::a0::a1::.slice ra M rc::a2::a3::a4::a5::a6::a7::a8::a9::b0::b1::b2::b3::b4::b5::s0::s3::t0::t3::t4::t5::t6::t7::t8::t9::u0::u1::u2::u3::u4::u5::u6::u7::u8::u9::v0::v1::v2::v3::v4::v5::v6::b6::b7::b8::b9::c1::c2::c3::c4::c5::c6::c7::c8::c9::d0::d1::d2::d3::d4::d5::d6::d7::d8::d9::e0::e2::e3::e4::e5::e6::e7::e8::e9::f0::f1::f2::f3::f4::f5::f6::f7::f8::f9::g0::g1::g2::g3::g4::g5::g6::g7::g8::g9::h0::h1::h2::h3::h4::h5::h6::h7::h8::h9::i0::i1::i2::i3::i4::i5::i6::i7::i8::i9::j0::j1::j2::j3::j4::j5::j6::j7::j8::j9::k0::k1::k2::k3::k4::k5::k6::k7::k8::k9::l0::l1::l2::l4::l5::l6::l7::l8::l9::m0::m1::m2::m3::m4::m5::m6::m7::m8::m9::n3::n4::n5::n6::n7::n8::n9::o0::o1::o2::o3::o4::o5::o6::o7::o8::o9::p0::p1::p2::p3::p4::p5::p6::p7::p8::p9::q0::q1::q2::q3::q4::q5::q6::q7::q8::q9::r0::r1::r2::r3::r4::r5::r6::r7::r8::r9::[]), defers := [] } W2 := by
 rw [show regC 4 (Tryz.f16.body.getD .skip) = Code.region 4 _ true from rfl];refine wp_region_self (by kernel_rfl) (by kernel_rfl) ?_
 repeat (go_big_quiet_step (fail))
 refine wpQuiet_nil ?_;rintro _ ⟨e1, rfl⟩;exact hQ _ e1.bel _ _ _ _ _ _ _ _ _ _ _ _ _ _ _ _ _ _ _ _ _ _ _ _ _ _
theorem reg4_b {Q : Exit -> Act -> World -> Prop} {W2 : World} {gb go b o : Nat} {GN gc rc : Nat} {X : ByteArray}
  (n0 : ∀ (e : Ext W2), e.out.cell? ⟨b, o, none⟩ = some (.string X)) (l3 : (X.toList == ([50, 46, 53, 46, 50, 57, 46, 51, 50, 46, 48] : List UInt8)) = false)
  (hQ : ∀ (W' : World), Below W2.heap.size W2 W' -> ∀ (o18 o19 o20 o21 o22 o23 o24 o25 o26 o27 o28 o29 o30 o31 o32 o33 o34 o35 o36 o37 o38 o39 o40 o41 o42 o43 : Value), Q .normal { tmps := List.toArray (.slice (some ⟨gb, go, none⟩) GN gc::a0::a1::.slice (some ⟨b, o, none⟩) 1 rc::a2::a3::a4::a5::a6::a7::a8::a9::b0::b1::b2::b3::b4::b5::o18::o19::o20::o21::o22::o23::o24::o25::o26::o27::o28::o29::o30::o31::o32::o33::o34::o35::o36::o37::o38::o39::o40::o41::o42::o43::.bool (true)::b6::b7::b8::b9::c1::c2::c3::c4::c5::c6::c7::c8::c9::d0::d1::d2::d3::d4::d5::d6::d7::d8::d9::e0::e2::e3::e4::e5::e6::e7::e8::e9::f0::f1::f2::f3::f4::f5::f6::f7::f8::f9::g0::g1::g2::g3::g4::g5::g6::g7::g8::g9::h0::h1::h2::h3::h4::h5::h6::h7::h8::h9::i0::i1::i2::i3::i4::i5::i6::i7::i8::i9::j0::j1::j2::j3::j4::j5::j6::j7::j8::j9::k0::k1::k2::k3::k4::k5::k6::k7::k8::k9::l0::l1::l2::l4::l5::l6::l7::l8::l9::m0::m1::m2::m3::m4::m5::m6::m7::m8::m9::n3::n4::n5::n6::n7::n8::n9::o0::o1::o2::o3::o4::o5::o6::o7::o8::o9::p0::p1::p2::p3::p4::p5::p6::p7::p8::p9::q0::q1::q2::q3::q4::q5::q6::q7::q8::q9::r0::r1::r2::r3::r4::r5::r6::r7::r8::r9::[]), defers := [] } W') :
  (regC 4 (Tryz.f16.body.getD .skip)).wp Tryz.prog Q { tmps := List.toArray (.slice (some ⟨gb, go, none⟩) GN gc::a0::a1::.slice (some ⟨b, o, none⟩) 1 rc::a2::a3::a4::a5::a6::a7::a8::a9::b0::b1::b2::b3::b4::b5::s0::s3::t0::t3::t4::t5::t6::t7::t8::t9::u0::u1::u2::u3::u4::u5::u6::u7::u8::u9::v0::v1::v2::v3::v4::v5::v6::b6::b7::b8::b9::c1::c2::c3::c4::c5::c6::c7::c8::c9::d0::d1::d2::d3::d4::d5::d6::d7::d8::d9::e0::e2::e3::e4::e5::e6::e7::e8::e9::f0::f1::f2::f3::f4::f5::f6::f7::f8::f9::g0::g1::g2::g3::g4::g5::g6::g7::g8::g9::h0::h1::h2::h3::h4::h5::h6::h7::h8::h9::i0::i1::i2::i3::i4::i5::i6::i7::i8::i9::j0::j1::j2::j3::j4::j5::j6::j7::j8::j9::k0::k1::k2::k3::k4::k5::k6::k7::k8::k9::l0::l1::l2::l4::l5::l6::l7::l8::l9::m0::m1::m2::m3::m4::m5::m6::m7::m8::m9::n3::n4::n5::n6::n7::n8::n9::o0::o1::o2::o3::o4::o5::o6::o7::o8::o9::p0::p1::p2::p3::p4::p5::p6::p7::p8::p9::q0::q1::q2::q3::q4::q5::q6::q7::q8::q9::r0::r1::r2::r3::r4::r5::r6::r7::r8::r9::[]), defers := [] } W2 := by
 rw [show regC 4 (Tryz.f16.body.getD .skip) = Code.region 4 _ true from rfl];refine wp_region_self (by kernel_rfl) (by kernel_rfl) ?_
 repeat (go_big_quiet_step (fail))
 refine wpQuiet_nil ?_;rintro _ ⟨e1, rfl⟩;exact hQ _ e1.bel _ _ _ _ _ _ _ _ _ _ _ _ _ _ _ _ _ _ _ _ _ _ _ _ _ _
def VgN (W0 : World) (lv uv pv : Value) (b o PN : Nat) (X : ByteArray) (PG : Bool) : Nat -> Value -> World -> Prop
 | 0, v, _ => v = lv
 | 1, v, _ => v = .int .i64 1
 | 2, v, _ => v = .bool false
 | 3, v, _ => v = .bool false
 | 4, v, _ => v = lv
 | 5, v, _ => v = .pointer (some ⟨b, o, none⟩)
 | 6, v, _ => v = .pointer (some ⟨b, o, none⟩)
 | 7, v, _ => v = .string X
 | 8, v, _ => v = .bool false
 | 9, v, _ => v = .bool false
 | 10, v, _ => v = .bool false
 | 11, v, _ => v = lv
 | 12, v, _ => v = .pointer (some ⟨b, o, none⟩)
 | 13, v, _ => v = .pointer (some ⟨b, o + 1, none⟩)
 | 14, v, _ => v = uv
 | 15, v, w => Slc.Own w W0.heap.size 9 1 encS v [anyP]
 | 16, v, _ => v = .bool false
 | 17, v, _ => v = .bool true
 | 18, v, _ => v = .bool true
 | 19, v, _ => v = .bool true
 | 26, v, _ => v = .bool true
 | _, _, _ => True
theorem VgN.stable (W0 : World) (lv uv pv : Value) (b o PN : Nat) (X : ByteArray) (PG : Bool) (i : Nat) (v : Value) (w w' : World) (h : VgN W0 lv uv pv b o PN X PG i v w) (hb : Below w.heap.size w w') : VgN W0 lv uv pv b o PN X PG i v w' := by
 match i with
 | 0 | 1 | 2 | 3 | 4 | 5 | 6 | 7 | 8 | 9 | 10 | 11 | 12 | 13 | 14 | 16 | 17 | 18 | 19 | 26 => exact h
 | 15 => exact Slc.Own.below (t := 9) h hb
 | 20 | 21 | 22 | 23 | 24 | 25 => exact trivial
 | _ + 27 => exact trivial
theorem reg4_c {Q : Exit -> Act -> World -> Prop} {W2 : World} {gb go b o : Nat} {GN gc rc : Nat} {X : ByteArray} {ua : Option Addr} {un uc : Nat}
  (n0 : W2.cell? ⟨b, o, none⟩ = some (.string X)) (n1 : W2.cell? ⟨b, o + 1, none⟩ = some (.slice ua un uc)) (hbl : b < W2.heap.size)
  (l3 : (X.toList == ([50, 46, 53, 46, 50, 57, 46, 51, 50, 46, 48] : List UInt8)) = true) (hsm : ∀ W, Below W2.heap.size W2 W -> ∀ u, Rd W encS u [anyP] -> Calls Tryz.prog 30 #[.slice ua un uc, u] W fun e w' => e = .returned (.bool false) /\ Below W.heap.size W w')
  (hQ : ∀ (W' : World), Below W2.heap.size W2 W' -> ∀ (o18 o19 o20 o21 o22 o23 o24 o25 o26 o27 o28 o29 o30 o31 o32 o33 o34 o35 o36 o37 o38 o39 o40 o41 o42 o43 : Value), Q .normal { tmps := List.toArray (.slice (some ⟨gb, go, none⟩) GN gc::a0::a1::.slice (some ⟨b, o, none⟩) 1 rc::a2::a3::a4::a5::a6::a7::a8::a9::b0::b1::b2::b3::b4::b5::o18::o19::o20::o21::o22::o23::o24::o25::o26::o27::o28::o29::o30::o31::o32::o33::o34::o35::o36::o37::o38::o39::o40::o41::o42::o43::.bool (true)::b6::b7::b8::b9::c1::c2::c3::c4::c5::c6::c7::c8::c9::d0::d1::d2::d3::d4::d5::d6::d7::d8::d9::e0::e2::e3::e4::e5::e6::e7::e8::e9::f0::f1::f2::f3::f4::f5::f6::f7::f8::f9::g0::g1::g2::g3::g4::g5::g6::g7::g8::g9::h0::h1::h2::h3::h4::h5::h6::h7::h8::h9::i0::i1::i2::i3::i4::i5::i6::i7::i8::i9::j0::j1::j2::j3::j4::j5::j6::j7::j8::j9::k0::k1::k2::k3::k4::k5::k6::k7::k8::k9::l0::l1::l2::l4::l5::l6::l7::l8::l9::m0::m1::m2::m3::m4::m5::m6::m7::m8::m9::n3::n4::n5::n6::n7::n8::n9::o0::o1::o2::o3::o4::o5::o6::o7::o8::o9::p0::p1::p2::p3::p4::p5::p6::p7::p8::p9::q0::q1::q2::q3::q4::q5::q6::q7::q8::q9::r0::r1::r2::r3::r4::r5::r6::r7::r8::r9::[]), defers := [] } W') :
  (regC 4 (Tryz.f16.body.getD .skip)).wp Tryz.prog Q { tmps := List.toArray (.slice (some ⟨gb, go, none⟩) GN gc::a0::a1::.slice (some ⟨b, o, none⟩) 1 rc::a2::a3::a4::a5::a6::a7::a8::a9::b0::b1::b2::b3::b4::b5::s0::s3::t0::t3::t4::t5::t6::t7::t8::t9::u0::u1::u2::u3::u4::u5::u6::u7::u8::u9::v0::v1::v2::v3::v4::v5::v6::b6::b7::b8::b9::c1::c2::c3::c4::c5::c6::c7::c8::c9::d0::d1::d2::d3::d4::d5::d6::d7::d8::d9::e0::e2::e3::e4::e5::e6::e7::e8::e9::f0::f1::f2::f3::f4::f5::f6::f7::f8::f9::g0::g1::g2::g3::g4::g5::g6::g7::g8::g9::h0::h1::h2::h3::h4::h5::h6::h7::h8::h9::i0::i1::i2::i3::i4::i5::i6::i7::i8::i9::j0::j1::j2::j3::j4::j5::j6::j7::j8::j9::k0::k1::k2::k3::k4::k5::k6::k7::k8::k9::l0::l1::l2::l4::l5::l6::l7::l8::l9::m0::m1::m2::m3::m4::m5::m6::m7::m8::m9::n3::n4::n5::n6::n7::n8::n9::o0::o1::o2::o3::o4::o5::o6::o7::o8::o9::p0::p1::p2::p3::p4::p5::p6::p7::p8::p9::q0::q1::q2::q3::q4::q5::q6::q7::q8::q9::r0::r1::r2::r3::r4::r5::r6::r7::r8::r9::[]), defers := [] } W2 := by
 rw [show regC 4 (Tryz.f16.body.getD .skip) = Code.region 4 _ true from rfl];have HQB := Bx.mk hQ;clear hQ;have HC4 := Bx.mk (And.intro n0 (And.intro n1 trivial));have HBB4 := Bx.mk hbl;have HSM := Bx.mk hsm;clear n0 n1 hbl hsm;refine wp_region_facts 27 (VgN W2 (.slice (some ⟨b, o, none⟩) 1 rc) (.slice ua un uc) undef b o 0 X false) (by kernel_rfl) (by kernel_rfl) (by rfl) (VgN.stable _ _ _ _ _ _ _ _ _) ?_ ?_
 ·intro i oo hi ho xs w7 hb hd;have hcs : i = 0 \/ i = 1 \/ i = 2 \/ i = 3 \/ i = 4 \/ i = 5 \/ i = 6 \/ i = 7 \/ i = 8 \/ i = 9 \/ i = 10 \/ i = 11 \/ i = 12 \/ i = 13 \/ i = 14 \/ i = 15 \/ i = 16 \/ i = 17 \/ i = 18 \/ i = 19 \/ i = 20 \/ i = 21 \/ i = 22 \/ i = 23 \/ i = 24 \/ i = 25 \/ i = 26 := by omega
  simp only [List.take_succ_cons, List.take_zero, putFrom, Act.put, List.setIfInBounds_toArray, List.set_cons_succ, List.set_cons_zero, Nat.zero_add, Nat.reduceAdd]
  have HB7 := Bx.mk hb;have hal := alone_any w7;have hsm := HSM.out w7 hb;clear hb;rcases hcs with rfl | rfl | rfl | rfl | rfl | rfl | rfl | rfl | rfl | rfl | rfl | rfl | rfl | rfl | rfl | rfl | rfl | rfl | rfl | rfl | rfl | rfl | rfl | rfl | rfl | rfl | rfl
  all_goals
   simp only [List.getElem?_cons_succ, List.getElem?_cons_zero, zO] at ho
   subst ho;simp [Needs, Region.binds, VgN] at hd
  all_goals clear hi
  case inr.inr.inr.inr.inr.inr.inr.inl =>
   have c0 := (HB7.out.cell (p := ⟨b, o, none⟩) HBB4.out).trans HC4.out.1;go_wp2_with fail
   exact ⟨rfl, rfl, rfl, Below.refl _ _⟩
  case inr.inr.inr.inr.inr.inr.inr.inr.inr.inr.inr.inr.inr.inr.inl =>
   have c0 := (HB7.out.cell (p := ⟨b, o + 1, none⟩) HBB4.out).trans HC4.out.2.1;go_wp2_with fail
   exact ⟨rfl, rfl, rfl, Below.refl _ _⟩
  case inr.inr.inr.inr.inr.inr.inr.inr.inr.inr.inr.inr.inr.inr.inr.inl =>
   have HS7 := Bx.mk HB7.out.size;go_wp2_with (go_at_call 44; refine hal.mono ?_; rintro e w8 ⟨v8, rfl, ho8, hb8⟩)
   exact ⟨rfl, rfl, ho8.mono HS7.out, hb8⟩
  case inr.inr.inr.inr.inr.inr.inr.inr.inr.inr.inr.inr.inr.inr.inr.inr.inl =>
   have h24 : Slc.Own w7 W2.heap.size 9 1 encS (xs 15) [anyP] := by first | exact hd.2.1 | exact hd.1 | exact hd.2.2 | exact hd.2
   have hs := hsm _ h24.rd;clear h24;go_wp2_with (go_at_call 30; refine hs.mono ?_; rintro e w8 ⟨rfl, hb8⟩)
   exact ⟨rfl, rfl, rfl, hb8⟩
  all_goals
   go_wp2_with fail
   first | exact ⟨rfl, rfl, rfl, Below.refl _ _⟩ | exact ⟨rfl, rfl, trivial, Below.refl _ _⟩
 ·intro xs w7 hb hf;have f26 := hf 26 (by omega);simp only [VgN] at f26
  have HB7 := Bx.mk hb;clear hb;simp only [List.take_succ_cons, List.take_zero, List.drop_succ_cons, List.drop_zero, putFrom, Act.put, List.setIfInBounds_toArray, List.set_cons_succ, List.set_cons_zero, Nat.zero_add, Nat.reduceAdd, f26]
  clear f26 hf;go_wp2_with fail
  exact HQB.out _ HB7.out _ _ _ _ _ _ _ _ _ _ _ _ _ _ _ _ _ _ _ _ _ _ _ _ _ _
def VgT (W0 : World) (lv uv pv : Value) (b o PN : Nat) (X : ByteArray) (PG : Bool) : Nat -> Value -> World -> Prop
 | 0, v, _ => v = lv
 | 1, v, _ => v = .int .i64 1
 | 2, v, _ => v = .bool false
 | 3, v, _ => v = .bool false
 | 4, v, _ => v = lv
 | 5, v, _ => v = .pointer (some ⟨b, o, none⟩)
 | 6, v, _ => v = .pointer (some ⟨b, o, none⟩)
 | 7, v, _ => v = .string X
 | 8, v, _ => v = .bool false
 | 9, v, _ => v = .bool false
 | 10, v, _ => v = .bool false
 | 11, v, _ => v = lv
 | 12, v, _ => v = .pointer (some ⟨b, o, none⟩)
 | 13, v, _ => v = .pointer (some ⟨b, o + 1, none⟩)
 | 14, v, _ => v = uv
 | 15, v, w => Slc.Own w W0.heap.size 9 1 encS v [anyP]
 | 16, v, _ => v = .bool true
 | 17, v, _ => v = .bool false
 | 18, v, _ => v = .bool false
 | 19, v, _ => v = .bool false
 | 20, v, _ => v = lv
 | 21, v, _ => v = .pointer (some ⟨b, o, none⟩)
 | 22, v, _ => v = .pointer (some ⟨b, o + 2, none⟩)
 | 23, v, _ => v = pv
 | 24, v, _ => v = .int .i64 (PN : Nat)
 | 25, v, _ => v = .bool PG
 | 26, v, _ => v = .bool PG
 | _, _, _ => True
theorem VgT.stable (W0 : World) (lv uv pv : Value) (b o PN : Nat) (X : ByteArray) (PG : Bool) (i : Nat) (v : Value) (w w' : World) (h : VgT W0 lv uv pv b o PN X PG i v w) (hb : Below w.heap.size w w') : VgT W0 lv uv pv b o PN X PG i v w' := by
 match i with
 | 0 | 1 | 2 | 3 | 4 | 5 | 6 | 7 | 8 | 9 | 10 | 11 | 12 | 13 | 14 | 16 | 17 | 18 | 19 | 20 | 21 | 22 | 23 | 24 | 25 | 26 => exact h
 | 15 => exact Slc.Own.below (t := 9) h hb
 | _ + 27 => exact trivial
theorem reg4_d {Q : Exit -> Act -> World -> Prop} {W2 : World} {gb go b o : Nat} {GN gc rc : Nat} {X : ByteArray} {ua pa : Option Addr} {un uc PN pc : Nat}
  (n0 : W2.cell? ⟨b, o, none⟩ = some (.string X)) (n1 : W2.cell? ⟨b, o + 1, none⟩ = some (.slice ua un uc)) (n2 : W2.cell? ⟨b, o + 2, none⟩ = some (.slice pa PN pc)) (hbl : b < W2.heap.size)
  (l3 : (X.toList == ([50, 46, 53, 46, 50, 57, 46, 51, 50, 46, 48] : List UInt8)) = true) (hsm : ∀ W, Below W2.heap.size W2 W -> ∀ u, Rd W encS u [anyP] -> Calls Tryz.prog 30 #[.slice ua un uc, u] W fun e w' => e = .returned (.bool true) /\ Below W.heap.size W w')
  (hQ : ∀ (W' : World), Below W2.heap.size W2 W' -> ∀ (o18 o19 o20 o21 o22 o23 o24 o25 o26 o27 o28 o29 o30 o31 o32 o33 o34 o35 o36 o37 o38 o39 o40 o41 o42 o43 : Value), Q .normal { tmps := List.toArray (.slice (some ⟨gb, go, none⟩) GN gc::a0::a1::.slice (some ⟨b, o, none⟩) 1 rc::a2::a3::a4::a5::a6::a7::a8::a9::b0::b1::b2::b3::b4::b5::o18::o19::o20::o21::o22::o23::o24::o25::o26::o27::o28::o29::o30::o31::o32::o33::o34::o35::o36::o37::o38::o39::o40::o41::o42::o43::.bool (decide ((PN : Int) > 0))::b6::b7::b8::b9::c1::c2::c3::c4::c5::c6::c7::c8::c9::d0::d1::d2::d3::d4::d5::d6::d7::d8::d9::e0::e2::e3::e4::e5::e6::e7::e8::e9::f0::f1::f2::f3::f4::f5::f6::f7::f8::f9::g0::g1::g2::g3::g4::g5::g6::g7::g8::g9::h0::h1::h2::h3::h4::h5::h6::h7::h8::h9::i0::i1::i2::i3::i4::i5::i6::i7::i8::i9::j0::j1::j2::j3::j4::j5::j6::j7::j8::j9::k0::k1::k2::k3::k4::k5::k6::k7::k8::k9::l0::l1::l2::l4::l5::l6::l7::l8::l9::m0::m1::m2::m3::m4::m5::m6::m7::m8::m9::n3::n4::n5::n6::n7::n8::n9::o0::o1::o2::o3::o4::o5::o6::o7::o8::o9::p0::p1::p2::p3::p4::p5::p6::p7::p8::p9::q0::q1::q2::q3::q4::q5::q6::q7::q8::q9::r0::r1::r2::r3::r4::r5::r6::r7::r8::r9::[]), defers := [] } W') :
  (regC 4 (Tryz.f16.body.getD .skip)).wp Tryz.prog Q { tmps := List.toArray (.slice (some ⟨gb, go, none⟩) GN gc::a0::a1::.slice (some ⟨b, o, none⟩) 1 rc::a2::a3::a4::a5::a6::a7::a8::a9::b0::b1::b2::b3::b4::b5::s0::s3::t0::t3::t4::t5::t6::t7::t8::t9::u0::u1::u2::u3::u4::u5::u6::u7::u8::u9::v0::v1::v2::v3::v4::v5::v6::b6::b7::b8::b9::c1::c2::c3::c4::c5::c6::c7::c8::c9::d0::d1::d2::d3::d4::d5::d6::d7::d8::d9::e0::e2::e3::e4::e5::e6::e7::e8::e9::f0::f1::f2::f3::f4::f5::f6::f7::f8::f9::g0::g1::g2::g3::g4::g5::g6::g7::g8::g9::h0::h1::h2::h3::h4::h5::h6::h7::h8::h9::i0::i1::i2::i3::i4::i5::i6::i7::i8::i9::j0::j1::j2::j3::j4::j5::j6::j7::j8::j9::k0::k1::k2::k3::k4::k5::k6::k7::k8::k9::l0::l1::l2::l4::l5::l6::l7::l8::l9::m0::m1::m2::m3::m4::m5::m6::m7::m8::m9::n3::n4::n5::n6::n7::n8::n9::o0::o1::o2::o3::o4::o5::o6::o7::o8::o9::p0::p1::p2::p3::p4::p5::p6::p7::p8::p9::q0::q1::q2::q3::q4::q5::q6::q7::q8::q9::r0::r1::r2::r3::r4::r5::r6::r7::r8::r9::[]), defers := [] } W2 := by
 rw [show regC 4 (Tryz.f16.body.getD .skip) = Code.region 4 _ true from rfl];have HQB := Bx.mk hQ;clear hQ;have HC4 := Bx.mk (And.intro n0 (And.intro n1 n2));have HBB4 := Bx.mk hbl;have HSM := Bx.mk hsm;clear n0 n1 n2 hbl hsm;refine wp_region_facts 27 (VgT W2 (.slice (some ⟨b, o, none⟩) 1 rc) (.slice ua un uc) (.slice pa PN pc) b o PN X (decide ((PN : Int) > 0))) (by kernel_rfl) (by kernel_rfl) (by rfl) (VgT.stable _ _ _ _ _ _ _ _ _) ?_ ?_
 ·intro i oo hi ho xs w7 hb hd;have hcs : i = 0 \/ i = 1 \/ i = 2 \/ i = 3 \/ i = 4 \/ i = 5 \/ i = 6 \/ i = 7 \/ i = 8 \/ i = 9 \/ i = 10 \/ i = 11 \/ i = 12 \/ i = 13 \/ i = 14 \/ i = 15 \/ i = 16 \/ i = 17 \/ i = 18 \/ i = 19 \/ i = 20 \/ i = 21 \/ i = 22 \/ i = 23 \/ i = 24 \/ i = 25 \/ i = 26 := by omega
  simp only [List.take_succ_cons, List.take_zero, putFrom, Act.put, List.setIfInBounds_toArray, List.set_cons_succ, List.set_cons_zero, Nat.zero_add, Nat.reduceAdd]
  have HB7 := Bx.mk hb;have hal := alone_any w7;have hsm := HSM.out w7 hb;clear hb;rcases hcs with rfl | rfl | rfl | rfl | rfl | rfl | rfl | rfl | rfl | rfl | rfl | rfl | rfl | rfl | rfl | rfl | rfl | rfl | rfl | rfl | rfl | rfl | rfl | rfl | rfl | rfl | rfl
  all_goals
   simp only [List.getElem?_cons_succ, List.getElem?_cons_zero, zO] at ho
   subst ho;simp [Needs, Region.binds, VgT] at hd
  all_goals clear hi
  case inr.inr.inr.inr.inr.inr.inr.inl =>
   have c0 := (HB7.out.cell (p := ⟨b, o, none⟩) HBB4.out).trans HC4.out.1;go_wp2_with fail
   exact ⟨rfl, rfl, rfl, Below.refl _ _⟩
  case inr.inr.inr.inr.inr.inr.inr.inr.inr.inr.inr.inr.inr.inr.inl =>
   have c0 := (HB7.out.cell (p := ⟨b, o + 1, none⟩) HBB4.out).trans HC4.out.2.1;go_wp2_with fail
   exact ⟨rfl, rfl, rfl, Below.refl _ _⟩
  case inr.inr.inr.inr.inr.inr.inr.inr.inr.inr.inr.inr.inr.inr.inr.inr.inr.inr.inr.inr.inr.inr.inr.inl =>
   have c0 := (HB7.out.cell (p := ⟨b, o + 2, none⟩) HBB4.out).trans HC4.out.2.2;go_wp2_with fail
   exact ⟨rfl, rfl, rfl, Below.refl _ _⟩
  case inr.inr.inr.inr.inr.inr.inr.inr.inr.inr.inr.inr.inr.inr.inr.inl =>
   have HS7 := Bx.mk HB7.out.size;go_wp2_with (go_at_call 44; refine hal.mono ?_; rintro e w8 ⟨v8, rfl, ho8, hb8⟩)
   exact ⟨rfl, rfl, ho8.mono HS7.out, hb8⟩
  case inr.inr.inr.inr.inr.inr.inr.inr.inr.inr.inr.inr.inr.inr.inr.inr.inl =>
   have h24 : Slc.Own w7 W2.heap.size 9 1 encS (xs 15) [anyP] := by first | exact hd.2.1 | exact hd.1 | exact hd.2.2 | exact hd.2
   have hs := hsm _ h24.rd;clear h24;go_wp2_with (go_at_call 30; refine hs.mono ?_; rintro e w8 ⟨rfl, hb8⟩)
   exact ⟨rfl, rfl, rfl, hb8⟩
  all_goals
   go_wp2_with fail
   first | exact ⟨rfl, rfl, rfl, Below.refl _ _⟩ | exact ⟨rfl, rfl, trivial, Below.refl _ _⟩
 ·intro xs w7 hb hf;have f26 := hf 26 (by omega);simp only [VgT] at f26
  have HB7 := Bx.mk hb;clear hb;simp only [List.take_succ_cons, List.take_zero, List.drop_succ_cons, List.drop_zero, putFrom, Act.put, List.setIfInBounds_toArray, List.set_cons_succ, List.set_cons_zero, Nat.zero_add, Nat.reduceAdd, f26]
  clear f26 hf;go_wp2_with fail
  exact HQB.out _ HB7.out _ _ _ _ _ _ _ _ _ _ _ _ _ _ _ _ _ _ _ _ _ _ _ _ _ _
theorem reg14_a {Q : Exit -> Act -> World -> Prop} {W2 : World} {gb go b o k j : Nat} {GN gc M c KN kc : Nat} {ka : Option Addr} {X Y : ByteArray}
  (hk : k < M) (hj : j < M) (tk : decide ((k : Int) > 0) = true) (tk2 : decide (0 < k) = true) (wj : IntKind.i64.wrap ((k : Int) - 1) = (j : Int))
  (x0 : ∀ (e : Ext W2), e.out.cell? ⟨b, o + k * 3, none⟩ = some (.string X)) (y0 : ∀ (e : Ext W2), e.out.cell? ⟨b, o + j * 3, none⟩ = some (.string Y)) (l1 : Op.bytesLess Y.toList X.toList = false) (l2 : Op.bytesLess X.toList Y.toList = true) (l3 : (Y.toList == X.toList) = false)
  (hQ : ∀ (W' : World), Below W2.heap.size W2 W' -> ∀ (o70 o71 o72 o73 o74 o75 o76 o77 o78 o79 o80 o81 o82 o83 o84 o85 o86 o87 o88 o89 o90 o91 o92 o93 o94 o95 o96 o97 o98 o99 o100 o101 o102 o103 o104 o105 o106 o107 o108 o109 o110 o111 o112 o113 : Value), Q .normal { tmps := List.toArray (.slice (some ⟨gb, go, none⟩) GN gc::a0::a1::a2::a3::.slice (some ⟨b, o, none⟩) M c::.slice ka KN kc::.int .i64 (k : Nat)::a4::a5::a6::a7::a8::a9::b0::b1::b2::b3::b4::b5::b6::b7::b8::b9::c0::c1::c2::c3::c4::c5::c6::c7::c8::c9::d0::d1::d2::d3::d4::d5::d6::d7::d8::d9::e0::e2::e3::e4::e5::e6::e7::e8::e9::f0::f1::f2::f3::f4::f5::f6::f7::f8::f9::g0::g1::g2::g3::g4::g5::g6::o70::o71::o72::o73::o74::o75::o76::o77::o78::o79::o80::o81::o82::o83::o84::o85::o86::o87::o88::o89::o90::o91::o92::o93::o94::o95::o96::o97::o98::o99::o100::o101::o102::o103::o104::o105::o106::o107::o108::o109::o110::o111::o112::o113::.bool (true)::g7::g8::g9::h0::h1::h2::h3::h4::h5::h6::h7::h8::h9::i0::i1::i2::i3::i4::i5::i6::i7::i8::i9::j0::j1::j2::j3::j4::j5::j6::j7::j8::j9::k0::k1::k2::k3::k4::k5::k6::k7::k8::k9::l0::l4::l5::l6::l7::l8::l9::m0::m1::m2::m3::m4::m5::m6::m7::m8::m9::n0::n1::n2::n3::n4::n5::n6::n7::n8::n9::o0::o1::o2::o3::o4::o5::o6::o7::o8::o9::p0::p1::p2::p3::p4::p5::p6::p7::[]), defers := [] } W') :
  (regC 14 (Tryz.f16.body.getD .skip)).wp Tryz.prog Q { tmps := List.toArray (.slice (some ⟨gb, go, none⟩) GN gc::a0::a1::a2::a3::.slice (some ⟨b, o, none⟩) M c::.slice ka KN kc::.int .i64 (k : Nat)::a4::a5::a6::a7::a8::a9::b0::b1::b2::b3::b4::b5::b6::b7::b8::b9::c0::c1::c2::c3::c4::c5::c6::c7::c8::c9::d0::d1::d2::d3::d4::d5::d6::d7::d8::d9::e0::e2::e3::e4::e5::e6::e7::e8::e9::f0::f1::f2::f3::f4::f5::f6::f7::f8::f9::g0::g1::g2::g3::g4::g5::g6::p8::p9::q0::q1::q2::q3::q4::q5::q6::q7::q8::q9::r0::r1::r2::r3::r4::r5::r6::r7::r8::r9::s0::s5::s6::s7::t0::t1::t2::t3::t4::t5::t6::t7::t8::t9::u0::u1::u2::u3::u4::u5::u6::u7::u8::g7::g8::g9::h0::h1::h2::h3::h4::h5::h6::h7::h8::h9::i0::i1::i2::i3::i4::i5::i6::i7::i8::i9::j0::j1::j2::j3::j4::j5::j6::j7::j8::j9::k0::k1::k2::k3::k4::k5::k6::k7::k8::k9::l0::l4::l5::l6::l7::l8::l9::m0::m1::m2::m3::m4::m5::m6::m7::m8::m9::n0::n1::n2::n3::n4::n5::n6::n7::n8::n9::o0::o1::o2::o3::o4::o5::o6::o7::o8::o9::p0::p1::p2::p3::p4::p5::p6::p7::[]), defers := [] } W2 := by
 rw [show regC 14 (Tryz.f16.body.getD .skip) = Code.region 14 _ true from rfl];refine wp_region_self (by kernel_rfl) (by kernel_rfl) ?_
 repeat (go_big_quiet_step (fail))
 refine wpQuiet_nil ?_;rintro _ ⟨e1, rfl⟩;exact hQ _ e1.bel _ _ _ _ _ _ _ _ _ _ _ _ _ _ _ _ _ _ _ _ _ _ _ _ _ _ _ _ _ _ _ _ _ _ _ _ _ _ _ _ _ _ _ _
theorem reg14_b {Q : Exit -> Act -> World -> Prop} {W2 : World} {gb go b o k j : Nat} {GN gc M c KN kc : Nat} {ka : Option Addr} {X Y : ByteArray}
  (hk : k < M) (hj : j < M) (tk : decide ((k : Int) > 0) = true) (tk2 : decide (0 < k) = true) (wj : IntKind.i64.wrap ((k : Int) - 1) = (j : Int))
  (x0 : ∀ (e : Ext W2), e.out.cell? ⟨b, o + k * 3, none⟩ = some (.string X)) (y0 : ∀ (e : Ext W2), e.out.cell? ⟨b, o + j * 3, none⟩ = some (.string Y)) (l1 : Op.bytesLess Y.toList X.toList = false) (l2 : Op.bytesLess X.toList Y.toList = false) (l3 : (Y.toList == X.toList) = true)
  (hQ : ∀ (W' : World), Below W2.heap.size W2 W' -> ∀ (o70 o71 o72 o73 o74 o75 o76 o77 o78 o79 o80 o81 o82 o83 o84 o85 o86 o87 o88 o89 o90 o91 o92 o93 o94 o95 o96 o97 o98 o99 o100 o101 o102 o103 o104 o105 o106 o107 o108 o109 o110 o111 o112 o113 : Value), Q .normal { tmps := List.toArray (.slice (some ⟨gb, go, none⟩) GN gc::a0::a1::a2::a3::.slice (some ⟨b, o, none⟩) M c::.slice ka KN kc::.int .i64 (k : Nat)::a4::a5::a6::a7::a8::a9::b0::b1::b2::b3::b4::b5::b6::b7::b8::b9::c0::c1::c2::c3::c4::c5::c6::c7::c8::c9::d0::d1::d2::d3::d4::d5::d6::d7::d8::d9::e0::e2::e3::e4::e5::e6::e7::e8::e9::f0::f1::f2::f3::f4::f5::f6::f7::f8::f9::g0::g1::g2::g3::g4::g5::g6::o70::o71::o72::o73::o74::o75::o76::o77::o78::o79::o80::o81::o82::o83::o84::o85::o86::o87::o88::o89::o90::o91::o92::o93::o94::o95::o96::o97::o98::o99::o100::o101::o102::o103::o104::o105::o106::o107::o108::o109::o110::o111::o112::o113::.bool (true)::g7::g8::g9::h0::h1::h2::h3::h4::h5::h6::h7::h8::h9::i0::i1::i2::i3::i4::i5::i6::i7::i8::i9::j0::j1::j2::j3::j4::j5::j6::j7::j8::j9::k0::k1::k2::k3::k4::k5::k6::k7::k8::k9::l0::l4::l5::l6::l7::l8::l9::m0::m1::m2::m3::m4::m5::m6::m7::m8::m9::n0::n1::n2::n3::n4::n5::n6::n7::n8::n9::o0::o1::o2::o3::o4::o5::o6::o7::o8::o9::p0::p1::p2::p3::p4::p5::p6::p7::[]), defers := [] } W') :
  (regC 14 (Tryz.f16.body.getD .skip)).wp Tryz.prog Q { tmps := List.toArray (.slice (some ⟨gb, go, none⟩) GN gc::a0::a1::a2::a3::.slice (some ⟨b, o, none⟩) M c::.slice ka KN kc::.int .i64 (k : Nat)::a4::a5::a6::a7::a8::a9::b0::b1::b2::b3::b4::b5::b6::b7::b8::b9::c0::c1::c2::c3::c4::c5::c6::c7::c8::c9::d0::d1::d2::d3::d4::d5::d6::d7::d8::d9::e0::e2::e3::e4::e5::e6::e7::e8::e9::f0::f1::f2::f3::f4::f5::f6::f7::f8::f9::g0::g1::g2::g3::g4::g5::g6::p8::p9::q0::q1::q2::q3::q4::q5::q6::q7::q8::q9::r0::r1::r2::r3::r4::r5::r6::r7::r8::r9::s0::s5::s6::s7::t0::t1::t2::t3::t4::t5::t6::t7::t8::t9::u0::u1::u2::u3::u4::u5::u6::u7::u8::g7::g8::g9::h0::h1::h2::h3::h4::h5::h6::h7::h8::h9::i0::i1::i2::i3::i4::i5::i6::i7::i8::i9::j0::j1::j2::j3::j4::j5::j6::j7::j8::j9::k0::k1::k2::k3::k4::k5::k6::k7::k8::k9::l0::l4::l5::l6::l7::l8::l9::m0::m1::m2::m3::m4::m5::m6::m7::m8::m9::n0::n1::n2::n3::n4::n5::n6::n7::n8::n9::o0::o1::o2::o3::o4::o5::o6::o7::o8::o9::p0::p1::p2::p3::p4::p5::p6::p7::[]), defers := [] } W2 := by
 rw [show regC 14 (Tryz.f16.body.getD .skip) = Code.region 14 _ true from rfl];refine wp_region_self (by kernel_rfl) (by kernel_rfl) ?_
 repeat (go_big_quiet_step (fail))
 refine wpQuiet_nil ?_;rintro _ ⟨e1, rfl⟩;exact hQ _ e1.bel _ _ _ _ _ _ _ _ _ _ _ _ _ _ _ _ _ _ _ _ _ _ _ _ _ _ _ _ _ _ _ _ _ _ _ _ _ _ _ _ _ _ _ _
theorem reg14_c0 {Q : Exit -> Act -> World -> Prop} {W2 : World} {gb go b o k : Nat} {GN gc M c KN kc : Nat} {ka : Option Addr} {ua : Option Addr} {un uc : Nat}
  (hk : k < M) (tk : decide ((k : Int) > 0) = false) (tk2 : decide (0 < k) = false)
  (x1 : ∀ (e : Ext W2), e.out.cell? ⟨b, o + k * 3 + 1, none⟩ = some (.slice ua un uc)) (hasc : ∀ (e : Ext W2), Calls Tryz.prog 45 #[.slice ua un uc] e.out fun r w' => r = .returned (.bool false) /\ Below e.out.heap.size e.out w')
  (hQ : ∀ (W' : World), Below W2.heap.size W2 W' -> ∀ (o70 o71 o72 o73 o74 o75 o76 o77 o78 o79 o80 o81 o82 o83 o84 o85 o86 o87 o88 o89 o90 o91 o92 o93 o94 o95 o96 o97 o98 o99 o100 o101 o102 o103 o104 o105 o106 o107 o108 o109 o110 o111 o112 o113 : Value), Q .normal { tmps := List.toArray (.slice (some ⟨gb, go, none⟩) GN gc::a0::a1::a2::a3::.slice (some ⟨b, o, none⟩) M c::.slice ka KN kc::.int .i64 (k : Nat)::a4::a5::a6::a7::a8::a9::b0::b1::b2::b3::b4::b5::b6::b7::b8::b9::c0::c1::c2::c3::c4::c5::c6::c7::c8::c9::d0::d1::d2::d3::d4::d5::d6::d7::d8::d9::e0::e2::e3::e4::e5::e6::e7::e8::e9::f0::f1::f2::f3::f4::f5::f6::f7::f8::f9::g0::g1::g2::g3::g4::g5::g6::o70::o71::o72::o73::o74::o75::o76::o77::o78::o79::o80::o81::o82::o83::o84::o85::o86::o87::o88::o89::o90::o91::o92::o93::o94::o95::o96::o97::o98::o99::o100::o101::o102::o103::o104::o105::o106::o107::o108::o109::o110::o111::o112::o113::.bool (true)::g7::g8::g9::h0::h1::h2::h3::h4::h5::h6::h7::h8::h9::i0::i1::i2::i3::i4::i5::i6::i7::i8::i9::j0::j1::j2::j3::j4::j5::j6::j7::j8::j9::k0::k1::k2::k3::k4::k5::k6::k7::k8::k9::l0::l4::l5::l6::l7::l8::l9::m0::m1::m2::m3::m4::m5::m6::m7::m8::m9::n0::n1::n2::n3::n4::n5::n6::n7::n8::n9::o0::o1::o2::o3::o4::o5::o6::o7::o8::o9::p0::p1::p2::p3::p4::p5::p6::p7::[]), defers := [] } W') :
  (regC 14 (Tryz.f16.body.getD .skip)).wp Tryz.prog Q { tmps := List.toArray (.slice (some ⟨gb, go, none⟩) GN gc::a0::a1::a2::a3::.slice (some ⟨b, o, none⟩) M c::.slice ka KN kc::.int .i64 (k : Nat)::a4::a5::a6::a7::a8::a9::b0::b1::b2::b3::b4::b5::b6::b7::b8::b9::c0::c1::c2::c3::c4::c5::c6::c7::c8::c9::d0::d1::d2::d3::d4::d5::d6::d7::d8::d9::e0::e2::e3::e4::e5::e6::e7::e8::e9::f0::f1::f2::f3::f4::f5::f6::f7::f8::f9::g0::g1::g2::g3::g4::g5::g6::p8::p9::q0::q1::q2::q3::q4::q5::q6::q7::q8::q9::r0::r1::r2::r3::r4::r5::r6::r7::r8::r9::s0::s5::s6::s7::t0::t1::t2::t3::t4::t5::t6::t7::t8::t9::u0::u1::u2::u3::u4::u5::u6::u7::u8::g7::g8::g9::h0::h1::h2::h3::h4::h5::h6::h7::h8::h9::i0::i1::i2::i3::i4::i5::i6::i7::i8::i9::j0::j1::j2::j3::j4::j5::j6::j7::j8::j9::k0::k1::k2::k3::k4::k5::k6::k7::k8::k9::l0::l4::l5::l6::l7::l8::l9::m0::m1::m2::m3::m4::m5::m6::m7::m8::m9::n0::n1::n2::n3::n4::n5::n6::n7::n8::n9::o0::o1::o2::o3::o4::o5::o6::o7::o8::o9::p0::p1::p2::p3::p4::p5::p6::p7::[]), defers := [] } W2 := by
 rw [show regC 14 (Tryz.f16.body.getD .skip) = Code.region 14 _ true from rfl];refine wp_region_self (by kernel_rfl) (by kernel_rfl) ?_
 repeat (go_big_quiet_step (first | (go_at_call 45; exact ext_of (hasc _)) | (go_at_call 46; exact ext_of (hris _))))
 refine wpQuiet_nil ?_;rintro _ ⟨e1, rfl⟩;exact hQ _ e1.bel _ _ _ _ _ _ _ _ _ _ _ _ _ _ _ _ _ _ _ _ _ _ _ _ _ _ _ _ _ _ _ _ _ _ _ _ _ _ _ _ _ _ _ _
theorem reg14_d0 {Q : Exit -> Act -> World -> Prop} {W2 : World} {gb go b o k : Nat} {GN gc M c KN kc : Nat} {ka : Option Addr} {ua pa : Option Addr} {un uc PN pc : Nat}
  (hk : k < M) (tk : decide ((k : Int) > 0) = false) (tk2 : decide (0 < k) = false)
  (x1 : ∀ (e : Ext W2), e.out.cell? ⟨b, o + k * 3 + 1, none⟩ = some (.slice ua un uc)) (hasc : ∀ (e : Ext W2), Calls Tryz.prog 45 #[.slice ua un uc] e.out fun r w' => r = .returned (.bool true) /\ Below e.out.heap.size e.out w')
  (x2 : ∀ (e : Ext W2), e.out.cell? ⟨b, o + k * 3 + 2, none⟩ = some (.slice pa PN pc)) (tp : ((PN : Int) == 0) = true)
  (hQ : ∀ (W' : World), Below W2.heap.size W2 W' -> ∀ (o70 o71 o72 o73 o74 o75 o76 o77 o78 o79 o80 o81 o82 o83 o84 o85 o86 o87 o88 o89 o90 o91 o92 o93 o94 o95 o96 o97 o98 o99 o100 o101 o102 o103 o104 o105 o106 o107 o108 o109 o110 o111 o112 o113 : Value), Q .normal { tmps := List.toArray (.slice (some ⟨gb, go, none⟩) GN gc::a0::a1::a2::a3::.slice (some ⟨b, o, none⟩) M c::.slice ka KN kc::.int .i64 (k : Nat)::a4::a5::a6::a7::a8::a9::b0::b1::b2::b3::b4::b5::b6::b7::b8::b9::c0::c1::c2::c3::c4::c5::c6::c7::c8::c9::d0::d1::d2::d3::d4::d5::d6::d7::d8::d9::e0::e2::e3::e4::e5::e6::e7::e8::e9::f0::f1::f2::f3::f4::f5::f6::f7::f8::f9::g0::g1::g2::g3::g4::g5::g6::o70::o71::o72::o73::o74::o75::o76::o77::o78::o79::o80::o81::o82::o83::o84::o85::o86::o87::o88::o89::o90::o91::o92::o93::o94::o95::o96::o97::o98::o99::o100::o101::o102::o103::o104::o105::o106::o107::o108::o109::o110::o111::o112::o113::.bool (true)::g7::g8::g9::h0::h1::h2::h3::h4::h5::h6::h7::h8::h9::i0::i1::i2::i3::i4::i5::i6::i7::i8::i9::j0::j1::j2::j3::j4::j5::j6::j7::j8::j9::k0::k1::k2::k3::k4::k5::k6::k7::k8::k9::l0::l4::l5::l6::l7::l8::l9::m0::m1::m2::m3::m4::m5::m6::m7::m8::m9::n0::n1::n2::n3::n4::n5::n6::n7::n8::n9::o0::o1::o2::o3::o4::o5::o6::o7::o8::o9::p0::p1::p2::p3::p4::p5::p6::p7::[]), defers := [] } W') :
  (regC 14 (Tryz.f16.body.getD .skip)).wp Tryz.prog Q { tmps := List.toArray (.slice (some ⟨gb, go, none⟩) GN gc::a0::a1::a2::a3::.slice (some ⟨b, o, none⟩) M c::.slice ka KN kc::.int .i64 (k : Nat)::a4::a5::a6::a7::a8::a9::b0::b1::b2::b3::b4::b5::b6::b7::b8::b9::c0::c1::c2::c3::c4::c5::c6::c7::c8::c9::d0::d1::d2::d3::d4::d5::d6::d7::d8::d9::e0::e2::e3::e4::e5::e6::e7::e8::e9::f0::f1::f2::f3::f4::f5::f6::f7::f8::f9::g0::g1::g2::g3::g4::g5::g6::p8::p9::q0::q1::q2::q3::q4::q5::q6::q7::q8::q9::r0::r1::r2::r3::r4::r5::r6::r7::r8::r9::s0::s5::s6::s7::t0::t1::t2::t3::t4::t5::t6::t7::t8::t9::u0::u1::u2::u3::u4::u5::u6::u7::u8::g7::g8::g9::h0::h1::h2::h3::h4::h5::h6::h7::h8::h9::i0::i1::i2::i3::i4::i5::i6::i7::i8::i9::j0::j1::j2::j3::j4::j5::j6::j7::j8::j9::k0::k1::k2::k3::k4::k5::k6::k7::k8::k9::l0::l4::l5::l6::l7::l8::l9::m0::m1::m2::m3::m4::m5::m6::m7::m8::m9::n0::n1::n2::n3::n4::n5::n6::n7::n8::n9::o0::o1::o2::o3::o4::o5::o6::o7::o8::o9::p0::p1::p2::p3::p4::p5::p6::p7::[]), defers := [] } W2 := by
 rw [show regC 14 (Tryz.f16.body.getD .skip) = Code.region 14 _ true from rfl];refine wp_region_self (by kernel_rfl) (by kernel_rfl) ?_
 repeat (go_big_quiet_step (first | (go_at_call 45; exact ext_of (hasc _)) | (go_at_call 46; exact ext_of (hris _))))
 refine wpQuiet_nil ?_;rintro _ ⟨e1, rfl⟩;exact hQ _ e1.bel _ _ _ _ _ _ _ _ _ _ _ _ _ _ _ _ _ _ _ _ _ _ _ _ _ _ _ _ _ _ _ _ _ _ _ _ _ _ _ _ _ _ _ _
theorem reg14_e0 {Q : Exit -> Act -> World -> Prop} {W2 : World} {gb go b o k : Nat} {GN gc M c KN kc : Nat} {ka : Option Addr} {RB : Bool} {ua pa : Option Addr} {un uc PN pc : Nat}
  (hk : k < M) (tk : decide ((k : Int) > 0) = false) (tk2 : decide (0 < k) = false)
  (x1 : ∀ (e : Ext W2), e.out.cell? ⟨b, o + k * 3 + 1, none⟩ = some (.slice ua un uc)) (hasc : ∀ (e : Ext W2), Calls Tryz.prog 45 #[.slice ua un uc] e.out fun r w' => r = .returned (.bool true) /\ Below e.out.heap.size e.out w')
  (x2 : ∀ (e : Ext W2), e.out.cell? ⟨b, o + k * 3 + 2, none⟩ = some (.slice pa PN pc)) (tp : ((PN : Int) == 0) = false)
  (hris : ∀ (e : Ext W2), Calls Tryz.prog 46 #[.slice pa PN pc, .int .i64 (KN : Nat)] e.out fun r w' => r = .returned (.bool RB) /\ Below e.out.heap.size e.out w')
  (hQ : ∀ (W' : World), Below W2.heap.size W2 W' -> ∀ (o70 o71 o72 o73 o74 o75 o76 o77 o78 o79 o80 o81 o82 o83 o84 o85 o86 o87 o88 o89 o90 o91 o92 o93 o94 o95 o96 o97 o98 o99 o100 o101 o102 o103 o104 o105 o106 o107 o108 o109 o110 o111 o112 o113 : Value), Q .normal { tmps := List.toArray (.slice (some ⟨gb, go, none⟩) GN gc::a0::a1::a2::a3::.slice (some ⟨b, o, none⟩) M c::.slice ka KN kc::.int .i64 (k : Nat)::a4::a5::a6::a7::a8::a9::b0::b1::b2::b3::b4::b5::b6::b7::b8::b9::c0::c1::c2::c3::c4::c5::c6::c7::c8::c9::d0::d1::d2::d3::d4::d5::d6::d7::d8::d9::e0::e2::e3::e4::e5::e6::e7::e8::e9::f0::f1::f2::f3::f4::f5::f6::f7::f8::f9::g0::g1::g2::g3::g4::g5::g6::o70::o71::o72::o73::o74::o75::o76::o77::o78::o79::o80::o81::o82::o83::o84::o85::o86::o87::o88::o89::o90::o91::o92::o93::o94::o95::o96::o97::o98::o99::o100::o101::o102::o103::o104::o105::o106::o107::o108::o109::o110::o111::o112::o113::.bool (!RB)::g7::g8::g9::h0::h1::h2::h3::h4::h5::h6::h7::h8::h9::i0::i1::i2::i3::i4::i5::i6::i7::i8::i9::j0::j1::j2::j3::j4::j5::j6::j7::j8::j9::k0::k1::k2::k3::k4::k5::k6::k7::k8::k9::l0::l4::l5::l6::l7::l8::l9::m0::m1::m2::m3::m4::m5::m6::m7::m8::m9::n0::n1::n2::n3::n4::n5::n6::n7::n8::n9::o0::o1::o2::o3::o4::o5::o6::o7::o8::o9::p0::p1::p2::p3::p4::p5::p6::p7::[]), defers := [] } W') :
  (regC 14 (Tryz.f16.body.getD .skip)).wp Tryz.prog Q { tmps := List.toArray (.slice (some ⟨gb, go, none⟩) GN gc::a0::a1::a2::a3::.slice (some ⟨b, o, none⟩) M c::.slice ka KN kc::.int .i64 (k : Nat)::a4::a5::a6::a7::a8::a9::b0::b1::b2::b3::b4::b5::b6::b7::b8::b9::c0::c1::c2::c3::c4::c5::c6::c7::c8::c9::d0::d1::d2::d3::d4::d5::d6::d7::d8::d9::e0::e2::e3::e4::e5::e6::e7::e8::e9::f0::f1::f2::f3::f4::f5::f6::f7::f8::f9::g0::g1::g2::g3::g4::g5::g6::p8::p9::q0::q1::q2::q3::q4::q5::q6::q7::q8::q9::r0::r1::r2::r3::r4::r5::r6::r7::r8::r9::s0::s5::s6::s7::t0::t1::t2::t3::t4::t5::t6::t7::t8::t9::u0::u1::u2::u3::u4::u5::u6::u7::u8::g7::g8::g9::h0::h1::h2::h3::h4::h5::h6::h7::h8::h9::i0::i1::i2::i3::i4::i5::i6::i7::i8::i9::j0::j1::j2::j3::j4::j5::j6::j7::j8::j9::k0::k1::k2::k3::k4::k5::k6::k7::k8::k9::l0::l4::l5::l6::l7::l8::l9::m0::m1::m2::m3::m4::m5::m6::m7::m8::m9::n0::n1::n2::n3::n4::n5::n6::n7::n8::n9::o0::o1::o2::o3::o4::o5::o6::o7::o8::o9::p0::p1::p2::p3::p4::p5::p6::p7::[]), defers := [] } W2 := by
 rw [show regC 14 (Tryz.f16.body.getD .skip) = Code.region 14 _ true from rfl];refine wp_region_self (by kernel_rfl) (by kernel_rfl) ?_
 repeat (go_big_quiet_step (first | (go_at_call 45; exact ext_of (hasc _)) | (go_at_call 46; exact ext_of (hris _))))
 refine wpQuiet_nil ?_;rintro _ ⟨e1, rfl⟩;exact hQ _ e1.bel _ _ _ _ _ _ _ _ _ _ _ _ _ _ _ _ _ _ _ _ _ _ _ _ _ _ _ _ _ _ _ _ _ _ _ _ _ _ _ _ _ _ _ _
theorem reg14_c1 {Q : Exit -> Act -> World -> Prop} {W2 : World} {gb go b o k j : Nat} {GN gc M c KN kc : Nat} {ka : Option Addr} {X Y : ByteArray} {ua : Option Addr} {un uc : Nat}
  (hk : k < M) (hj : j < M) (tk : decide ((k : Int) > 0) = true) (tk2 : decide (0 < k) = true) (wj : IntKind.i64.wrap ((k : Int) - 1) = (j : Int))
  (x0 : ∀ (e : Ext W2), e.out.cell? ⟨b, o + k * 3, none⟩ = some (.string X)) (y0 : ∀ (e : Ext W2), e.out.cell? ⟨b, o + j * 3, none⟩ = some (.string Y)) (l1 : Op.bytesLess Y.toList X.toList = true) (l2 : Op.bytesLess X.toList Y.toList = false) (l3 : (Y.toList == X.toList) = false)
  (x1 : ∀ (e : Ext W2), e.out.cell? ⟨b, o + k * 3 + 1, none⟩ = some (.slice ua un uc)) (hasc : ∀ (e : Ext W2), Calls Tryz.prog 45 #[.slice ua un uc] e.out fun r w' => r = .returned (.bool false) /\ Below e.out.heap.size e.out w')
  (hQ : ∀ (W' : World), Below W2.heap.size W2 W' -> ∀ (o70 o71 o72 o73 o74 o75 o76 o77 o78 o79 o80 o81 o82 o83 o84 o85 o86 o87 o88 o89 o90 o91 o92 o93 o94 o95 o96 o97 o98 o99 o100 o101 o102 o103 o104 o105 o106 o107 o108 o109 o110 o111 o112 o113 : Value), Q .normal { tmps := List.toArray (.slice (some ⟨gb, go, none⟩) GN gc::a0::a1::a2::a3::.slice (some ⟨b, o, none⟩) M c::.slice ka KN kc::.int .i64 (k : Nat)::a4::a5::a6::a7::a8::a9::b0::b1::b2::b3::b4::b5::b6::b7::b8::b9::c0::c1::c2::c3::c4::c5::c6::c7::c8::c9::d0::d1::d2::d3::d4::d5::d6::d7::d8::d9::e0::e2::e3::e4::e5::e6::e7::e8::e9::f0::f1::f2::f3::f4::f5::f6::f7::f8::f9::g0::g1::g2::g3::g4::g5::g6::o70::o71::o72::o73::o74::o75::o76::o77::o78::o79::o80::o81::o82::o83::o84::o85::o86::o87::o88::o89::o90::o91::o92::o93::o94::o95::o96::o97::o98::o99::o100::o101::o102::o103::o104::o105::o106::o107::o108::o109::o110::o111::o112::o113::.bool (true)::g7::g8::g9::h0::h1::h2::h3::h4::h5::h6::h7::h8::h9::i0::i1::i2::i3::i4::i5::i6::i7::i8::i9::j0::j1::j2::j3::j4::j5::j6::j7::j8::j9::k0::k1::k2::k3::k4::k5::k6::k7::k8::k9::l0::l4::l5::l6::l7::l8::l9::m0::m1::m2::m3::m4::m5::m6::m7::m8::m9::n0::n1::n2::n3::n4::n5::n6::n7::n8::n9::o0::o1::o2::o3::o4::o5::o6::o7::o8::o9::p0::p1::p2::p3::p4::p5::p6::p7::[]), defers := [] } W') :
  (regC 14 (Tryz.f16.body.getD .skip)).wp Tryz.prog Q { tmps := List.toArray (.slice (some ⟨gb, go, none⟩) GN gc::a0::a1::a2::a3::.slice (some ⟨b, o, none⟩) M c::.slice ka KN kc::.int .i64 (k : Nat)::a4::a5::a6::a7::a8::a9::b0::b1::b2::b3::b4::b5::b6::b7::b8::b9::c0::c1::c2::c3::c4::c5::c6::c7::c8::c9::d0::d1::d2::d3::d4::d5::d6::d7::d8::d9::e0::e2::e3::e4::e5::e6::e7::e8::e9::f0::f1::f2::f3::f4::f5::f6::f7::f8::f9::g0::g1::g2::g3::g4::g5::g6::p8::p9::q0::q1::q2::q3::q4::q5::q6::q7::q8::q9::r0::r1::r2::r3::r4::r5::r6::r7::r8::r9::s0::s5::s6::s7::t0::t1::t2::t3::t4::t5::t6::t7::t8::t9::u0::u1::u2::u3::u4::u5::u6::u7::u8::g7::g8::g9::h0::h1::h2::h3::h4::h5::h6::h7::h8::h9::i0::i1::i2::i3::i4::i5::i6::i7::i8::i9::j0::j1::j2::j3::j4::j5::j6::j7::j8::j9::k0::k1::k2::k3::k4::k5::k6::k7::k8::k9::l0::l4::l5::l6::l7::l8::l9::m0::m1::m2::m3::m4::m5::m6::m7::m8::m9::n0::n1::n2::n3::n4::n5::n6::n7::n8::n9::o0::o1::o2::o3::o4::o5::o6::o7::o8::o9::p0::p1::p2::p3::p4::p5::p6::p7::[]), defers := [] } W2 := by
 rw [show regC 14 (Tryz.f16.body.getD .skip) = Code.region 14 _ true from rfl];refine wp_region_self (by kernel_rfl) (by kernel_rfl) ?_
 repeat (go_big_quiet_step (first | (go_at_call 45; exact ext_of (hasc _)) | (go_at_call 46; exact ext_of (hris _))))
 refine wpQuiet_nil ?_;rintro _ ⟨e1, rfl⟩;exact hQ _ e1.bel _ _ _ _ _ _ _ _ _ _ _ _ _ _ _ _ _ _ _ _ _ _ _ _ _ _ _ _ _ _ _ _ _ _ _ _ _ _ _ _ _ _ _ _
theorem reg14_d1 {Q : Exit -> Act -> World -> Prop} {W2 : World} {gb go b o k j : Nat} {GN gc M c KN kc : Nat} {ka : Option Addr} {X Y : ByteArray} {ua pa : Option Addr} {un uc PN pc : Nat}
  (hk : k < M) (hj : j < M) (tk : decide ((k : Int) > 0) = true) (tk2 : decide (0 < k) = true) (wj : IntKind.i64.wrap ((k : Int) - 1) = (j : Int))
  (x0 : ∀ (e : Ext W2), e.out.cell? ⟨b, o + k * 3, none⟩ = some (.string X)) (y0 : ∀ (e : Ext W2), e.out.cell? ⟨b, o + j * 3, none⟩ = some (.string Y)) (l1 : Op.bytesLess Y.toList X.toList = true) (l2 : Op.bytesLess X.toList Y.toList = false) (l3 : (Y.toList == X.toList) = false)
  (x1 : ∀ (e : Ext W2), e.out.cell? ⟨b, o + k * 3 + 1, none⟩ = some (.slice ua un uc)) (hasc : ∀ (e : Ext W2), Calls Tryz.prog 45 #[.slice ua un uc] e.out fun r w' => r = .returned (.bool true) /\ Below e.out.heap.size e.out w')
  (x2 : ∀ (e : Ext W2), e.out.cell? ⟨b, o + k * 3 + 2, none⟩ = some (.slice pa PN pc)) (tp : ((PN : Int) == 0) = true)
  (hQ : ∀ (W' : World), Below W2.heap.size W2 W' -> ∀ (o70 o71 o72 o73 o74 o75 o76 o77 o78 o79 o80 o81 o82 o83 o84 o85 o86 o87 o88 o89 o90 o91 o92 o93 o94 o95 o96 o97 o98 o99 o100 o101 o102 o103 o104 o105 o106 o107 o108 o109 o110 o111 o112 o113 : Value), Q .normal { tmps := List.toArray (.slice (some ⟨gb, go, none⟩) GN gc::a0::a1::a2::a3::.slice (some ⟨b, o, none⟩) M c::.slice ka KN kc::.int .i64 (k : Nat)::a4::a5::a6::a7::a8::a9::b0::b1::b2::b3::b4::b5::b6::b7::b8::b9::c0::c1::c2::c3::c4::c5::c6::c7::c8::c9::d0::d1::d2::d3::d4::d5::d6::d7::d8::d9::e0::e2::e3::e4::e5::e6::e7::e8::e9::f0::f1::f2::f3::f4::f5::f6::f7::f8::f9::g0::g1::g2::g3::g4::g5::g6::o70::o71::o72::o73::o74::o75::o76::o77::o78::o79::o80::o81::o82::o83::o84::o85::o86::o87::o88::o89::o90::o91::o92::o93::o94::o95::o96::o97::o98::o99::o100::o101::o102::o103::o104::o105::o106::o107::o108::o109::o110::o111::o112::o113::.bool (true)::g7::g8::g9::h0::h1::h2::h3::h4::h5::h6::h7::h8::h9::i0::i1::i2::i3::i4::i5::i6::i7::i8::i9::j0::j1::j2::j3::j4::j5::j6::j7::j8::j9::k0::k1::k2::k3::k4::k5::k6::k7::k8::k9::l0::l4::l5::l6::l7::l8::l9::m0::m1::m2::m3::m4::m5::m6::m7::m8::m9::n0::n1::n2::n3::n4::n5::n6::n7::n8::n9::o0::o1::o2::o3::o4::o5::o6::o7::o8::o9::p0::p1::p2::p3::p4::p5::p6::p7::[]), defers := [] } W') :
  (regC 14 (Tryz.f16.body.getD .skip)).wp Tryz.prog Q { tmps := List.toArray (.slice (some ⟨gb, go, none⟩) GN gc::a0::a1::a2::a3::.slice (some ⟨b, o, none⟩) M c::.slice ka KN kc::.int .i64 (k : Nat)::a4::a5::a6::a7::a8::a9::b0::b1::b2::b3::b4::b5::b6::b7::b8::b9::c0::c1::c2::c3::c4::c5::c6::c7::c8::c9::d0::d1::d2::d3::d4::d5::d6::d7::d8::d9::e0::e2::e3::e4::e5::e6::e7::e8::e9::f0::f1::f2::f3::f4::f5::f6::f7::f8::f9::g0::g1::g2::g3::g4::g5::g6::p8::p9::q0::q1::q2::q3::q4::q5::q6::q7::q8::q9::r0::r1::r2::r3::r4::r5::r6::r7::r8::r9::s0::s5::s6::s7::t0::t1::t2::t3::t4::t5::t6::t7::t8::t9::u0::u1::u2::u3::u4::u5::u6::u7::u8::g7::g8::g9::h0::h1::h2::h3::h4::h5::h6::h7::h8::h9::i0::i1::i2::i3::i4::i5::i6::i7::i8::i9::j0::j1::j2::j3::j4::j5::j6::j7::j8::j9::k0::k1::k2::k3::k4::k5::k6::k7::k8::k9::l0::l4::l5::l6::l7::l8::l9::m0::m1::m2::m3::m4::m5::m6::m7::m8::m9::n0::n1::n2::n3::n4::n5::n6::n7::n8::n9::o0::o1::o2::o3::o4::o5::o6::o7::o8::o9::p0::p1::p2::p3::p4::p5::p6::p7::[]), defers := [] } W2 := by
 rw [show regC 14 (Tryz.f16.body.getD .skip) = Code.region 14 _ true from rfl];refine wp_region_self (by kernel_rfl) (by kernel_rfl) ?_
 repeat (go_big_quiet_step (first | (go_at_call 45; exact ext_of (hasc _)) | (go_at_call 46; exact ext_of (hris _))))
 refine wpQuiet_nil ?_;rintro _ ⟨e1, rfl⟩;exact hQ _ e1.bel _ _ _ _ _ _ _ _ _ _ _ _ _ _ _ _ _ _ _ _ _ _ _ _ _ _ _ _ _ _ _ _ _ _ _ _ _ _ _ _ _ _ _ _
theorem reg14_e1 {Q : Exit -> Act -> World -> Prop} {W2 : World} {gb go b o k j : Nat} {GN gc M c KN kc : Nat} {ka : Option Addr} {X Y : ByteArray} {RB : Bool} {ua pa : Option Addr} {un uc PN pc : Nat}
  (hk : k < M) (hj : j < M) (tk : decide ((k : Int) > 0) = true) (tk2 : decide (0 < k) = true) (wj : IntKind.i64.wrap ((k : Int) - 1) = (j : Int))
  (x0 : ∀ (e : Ext W2), e.out.cell? ⟨b, o + k * 3, none⟩ = some (.string X)) (y0 : ∀ (e : Ext W2), e.out.cell? ⟨b, o + j * 3, none⟩ = some (.string Y)) (l1 : Op.bytesLess Y.toList X.toList = true) (l2 : Op.bytesLess X.toList Y.toList = false) (l3 : (Y.toList == X.toList) = false)
  (x1 : ∀ (e : Ext W2), e.out.cell? ⟨b, o + k * 3 + 1, none⟩ = some (.slice ua un uc)) (hasc : ∀ (e : Ext W2), Calls Tryz.prog 45 #[.slice ua un uc] e.out fun r w' => r = .returned (.bool true) /\ Below e.out.heap.size e.out w')
  (x2 : ∀ (e : Ext W2), e.out.cell? ⟨b, o + k * 3 + 2, none⟩ = some (.slice pa PN pc)) (tp : ((PN : Int) == 0) = false)
  (hris : ∀ (e : Ext W2), Calls Tryz.prog 46 #[.slice pa PN pc, .int .i64 (KN : Nat)] e.out fun r w' => r = .returned (.bool RB) /\ Below e.out.heap.size e.out w')
  (hQ : ∀ (W' : World), Below W2.heap.size W2 W' -> ∀ (o70 o71 o72 o73 o74 o75 o76 o77 o78 o79 o80 o81 o82 o83 o84 o85 o86 o87 o88 o89 o90 o91 o92 o93 o94 o95 o96 o97 o98 o99 o100 o101 o102 o103 o104 o105 o106 o107 o108 o109 o110 o111 o112 o113 : Value), Q .normal { tmps := List.toArray (.slice (some ⟨gb, go, none⟩) GN gc::a0::a1::a2::a3::.slice (some ⟨b, o, none⟩) M c::.slice ka KN kc::.int .i64 (k : Nat)::a4::a5::a6::a7::a8::a9::b0::b1::b2::b3::b4::b5::b6::b7::b8::b9::c0::c1::c2::c3::c4::c5::c6::c7::c8::c9::d0::d1::d2::d3::d4::d5::d6::d7::d8::d9::e0::e2::e3::e4::e5::e6::e7::e8::e9::f0::f1::f2::f3::f4::f5::f6::f7::f8::f9::g0::g1::g2::g3::g4::g5::g6::o70::o71::o72::o73::o74::o75::o76::o77::o78::o79::o80::o81::o82::o83::o84::o85::o86::o87::o88::o89::o90::o91::o92::o93::o94::o95::o96::o97::o98::o99::o100::o101::o102::o103::o104::o105::o106::o107::o108::o109::o110::o111::o112::o113::.bool (!RB)::g7::g8::g9::h0::h1::h2::h3::h4::h5::h6::h7::h8::h9::i0::i1::i2::i3::i4::i5::i6::i7::i8::i9::j0::j1::j2::j3::j4::j5::j6::j7::j8::j9::k0::k1::k2::k3::k4::k5::k6::k7::k8::k9::l0::l4::l5::l6::l7::l8::l9::m0::m1::m2::m3::m4::m5::m6::m7::m8::m9::n0::n1::n2::n3::n4::n5::n6::n7::n8::n9::o0::o1::o2::o3::o4::o5::o6::o7::o8::o9::p0::p1::p2::p3::p4::p5::p6::p7::[]), defers := [] } W') :
  (regC 14 (Tryz.f16.body.getD .skip)).wp Tryz.prog Q { tmps := List.toArray (.slice (some ⟨gb, go, none⟩) GN gc::a0::a1::a2::a3::.slice (some ⟨b, o, none⟩) M c::.slice ka KN kc::.int .i64 (k : Nat)::a4::a5::a6::a7::a8::a9::b0::b1::b2::b3::b4::b5::b6::b7::b8::b9::c0::c1::c2::c3::c4::c5::c6::c7::c8::c9::d0::d1::d2::d3::d4::d5::d6::d7::d8::d9::e0::e2::e3::e4::e5::e6::e7::e8::e9::f0::f1::f2::f3::f4::f5::f6::f7::f8::f9::g0::g1::g2::g3::g4::g5::g6::p8::p9::q0::q1::q2::q3::q4::q5::q6::q7::q8::q9::r0::r1::r2::r3::r4::r5::r6::r7::r8::r9::s0::s5::s6::s7::t0::t1::t2::t3::t4::t5::t6::t7::t8::t9::u0::u1::u2::u3::u4::u5::u6::u7::u8::g7::g8::g9::h0::h1::h2::h3::h4::h5::h6::h7::h8::h9::i0::i1::i2::i3::i4::i5::i6::i7::i8::i9::j0::j1::j2::j3::j4::j5::j6::j7::j8::j9::k0::k1::k2::k3::k4::k5::k6::k7::k8::k9::l0::l4::l5::l6::l7::l8::l9::m0::m1::m2::m3::m4::m5::m6::m7::m8::m9::n0::n1::n2::n3::n4::n5::n6::n7::n8::n9::o0::o1::o2::o3::o4::o5::o6::o7::o8::o9::p0::p1::p2::p3::p4::p5::p6::p7::[]), defers := [] } W2 := by
 rw [show regC 14 (Tryz.f16.body.getD .skip) = Code.region 14 _ true from rfl];refine wp_region_self (by kernel_rfl) (by kernel_rfl) ?_
 repeat (go_big_quiet_step (first | (go_at_call 45; exact ext_of (hasc _)) | (go_at_call 46; exact ext_of (hris _))))
 refine wpQuiet_nil ?_;rintro _ ⟨e1, rfl⟩;exact hQ _ e1.bel _ _ _ _ _ _ _ _ _ _ _ _ _ _ _ _ _ _ _ _ _ _ _ _ _ _ _ _ _ _ _ _ _ _ _ _ _ _ _ _ _ _ _ _
theorem reg17_a {Q : Exit -> Act -> World -> Prop} {W2 : World} {gb go b o k i : Nat} {GN gc M c : Nat} {IN : Bool} {ua : Option Addr} {un uc : Nat}
  (hk : k < M) (x1 : ∀ (e : Ext W2), e.out.cell? ⟨b, o + k * 3 + 1, none⟩ = some (.slice ua un uc))
  (hin : ∀ (e : Ext W2), Calls Tryz.prog 47 #[.slice ua un uc, .string ⟨#[50, 46, 53, 46, 50, 57, 46, 51, 50, 46, 48]⟩] e.out fun r w' => r = .returned (.bool IN) /\ Below e.out.heap.size e.out w')
  (hQ : ∀ (W' : World), Below W2.heap.size W2 W' -> ∀ (o121 o122 o123 o124 o125 o126 o127 o128 o129 o130 o131 o132 o133 o134 o135 o136 o137 o138 o139 o140 o141 o142 o143 o144 o145 o146 o147 o148 o149 o150 o151 o152 o153 o154 o155 o156 o157 o158 o159 o160 o161 o162 o163 o164 o165 o166 o167 : Value), Q .normal { tmps := List.toArray (.slice (some ⟨gb, go, none⟩) GN gc::a1::a2::a3::.int .i64 (i : Nat)::.slice (some ⟨b, o, none⟩) M c::a4::.int .i64 (k : Nat)::.bool false::a5::a6::a7::a8::a9::b0::b1::b2::b3::b4::b5::b6::b7::b8::b9::c0::c1::c2::c3::c4::c5::c6::c7::c8::c9::d0::d1::d2::d3::d4::d5::d6::d7::d8::d9::e0::e2::e3::e4::e5::e6::e7::e8::e9::f0::f1::f2::f3::f4::f5::f6::f7::f8::f9::g0::g2::g3::g4::g5::g6::g7::g8::g9::h0::h1::h2::h3::h4::h5::h6::h7::h8::h9::i0::i1::i2::i3::i4::i5::i6::i7::i8::i9::j0::j1::j2::j3::j4::j5::j6::j7::j8::j9::k0::k1::k2::k3::k4::k5::k6::k7::k8::k9::l0::l1::l2::l4::l5::l6::l7::l8::l9::o121::o122::o123::o124::o125::o126::o127::o128::o129::o130::o131::o132::o133::o134::o135::o136::o137::o138::o139::o140::o141::o142::o143::o144::o145::o146::o147::o148::o149::o150::o151::o152::o153::o154::o155::o156::o157::o158::o159::o160::o161::o162::o163::o164::o165::o166::o167::.bool (IN)::m0::m1::m2::m3::m4::m5::m6::m7::m8::m9::n0::n1::n2::n3::n4::n5::n6::n7::n8::n9::o0::o1::o2::o3::o4::o5::o6::o7::o8::o9::p0::p1::p2::p3::[]), defers := [] } W') :
  (regC 17 (Tryz.f16.body.getD .skip)).wp Tryz.prog Q { tmps := List.toArray (.slice (some ⟨gb, go, none⟩) GN gc::a1::a2::a3::.int .i64 (i : Nat)::.slice (some ⟨b, o, none⟩) M c::a4::.int .i64 (k : Nat)::.bool false::a5::a6::a7::a8::a9::b0::b1::b2::b3::b4::b5::b6::b7::b8::b9::c0::c1::c2::c3::c4::c5::c6::c7::c8::c9::d0::d1::d2::d3::d4::d5::d6::d7::d8::d9::e0::e2::e3::e4::e5::e6::e7::e8::e9::f0::f1::f2::f3::f4::f5::f6::f7::f8::f9::g0::g2::g3::g4::g5::g6::g7::g8::g9::h0::h1::h2::h3::h4::h5::h6::h7::h8::h9::i0::i1::i2::i3::i4::i5::i6::i7::i8::i9::j0::j1::j2::j3::j4::j5::j6::j7::j8::j9::k0::k1::k2::k3::k4::k5::k6::k7::k8::k9::l0::l1::l2::l4::l5::l6::l7::l8::l9::p4::p5::p6::p7::p8::p9::q0::q1::q2::q3::q4::q5::q6::q7::q8::q9::r0::r1::r2::r3::r4::r5::r6::r7::r8::r9::s0::s4::s5::s7::s8::t0::t1::t2::t3::t4::t5::t6::t7::t8::t9::u0::u1::u2::u3::u4::u5::u6::m0::m1::m2::m3::m4::m5::m6::m7::m8::m9::n0::n1::n2::n3::n4::n5::n6::n7::n8::n9::o0::o1::o2::o3::o4::o5::o6::o7::o8::o9::p0::p1::p2::p3::[]), defers := [] } W2 := by
 rw [show regC 17 (Tryz.f16.body.getD .skip) = Code.region 17 _ true from rfl];refine wp_region_self (by kernel_rfl) (by kernel_rfl) ?_
 repeat (go_big_quiet_step (first | (go_at_call 47; exact ext_of (hin _))))
 refine wpQuiet_nil ?_;rintro _ ⟨e1, rfl⟩;exact hQ _ e1.bel _ _ _ _ _ _ _ _ _ _ _ _ _ _ _ _ _ _ _ _ _ _ _ _ _ _ _ _ _ _ _ _ _ _ _ _ _ _ _ _ _ _ _ _ _ _ _
theorem reg17_b {Q : Exit -> Act -> World -> Prop} {W2 : World} {gb go b o k i : Nat} {GN gc M c : Nat} {pa : Option Addr} {PN pc : Nat}
  (hk : k < M) (x2 : ∀ (e : Ext W2), e.out.cell? ⟨b, o + k * 3 + 2, none⟩ = some (.slice pa PN pc)) (tp : ((PN : Int) != 1) = true) (tp2 : ((PN : Int) == 1) = false)
  (hQ : ∀ (W' : World), Below W2.heap.size W2 W' -> ∀ (o121 o122 o123 o124 o125 o126 o127 o128 o129 o130 o131 o132 o133 o134 o135 o136 o137 o138 o139 o140 o141 o142 o143 o144 o145 o146 o147 o148 o149 o150 o151 o152 o153 o154 o155 o156 o157 o158 o159 o160 o161 o162 o163 o164 o165 o166 o167 : Value), Q .normal { tmps := List.toArray (.slice (some ⟨gb, go, none⟩) GN gc::a1::a2::a3::.int .i64 (i : Nat)::.slice (some ⟨b, o, none⟩) M c::a4::.int .i64 (k : Nat)::.bool true::a5::a6::a7::a8::a9::b0::b1::b2::b3::b4::b5::b6::b7::b8::b9::c0::c1::c2::c3::c4::c5::c6::c7::c8::c9::d0::d1::d2::d3::d4::d5::d6::d7::d8::d9::e0::e2::e3::e4::e5::e6::e7::e8::e9::f0::f1::f2::f3::f4::f5::f6::f7::f8::f9::g0::g2::g3::g4::g5::g6::g7::g8::g9::h0::h1::h2::h3::h4::h5::h6::h7::h8::h9::i0::i1::i2::i3::i4::i5::i6::i7::i8::i9::j0::j1::j2::j3::j4::j5::j6::j7::j8::j9::k0::k1::k2::k3::k4::k5::k6::k7::k8::k9::l0::l1::l2::l4::l5::l6::l7::l8::l9::o121::o122::o123::o124::o125::o126::o127::o128::o129::o130::o131::o132::o133::o134::o135::o136::o137::o138::o139::o140::o141::o142::o143::o144::o145::o146::o147::o148::o149::o150::o151::o152::o153::o154::o155::o156::o157::o158::o159::o160::o161::o162::o163::o164::o165::o166::o167::.bool (true)::m0::m1::m2::m3::m4::m5::m6::m7::m8::m9::n0::n1::n2::n3::n4::n5::n6::n7::n8::n9::o0::o1::o2::o3::o4::o5::o6::o7::o8::o9::p0::p1::p2::p3::[]), defers := [] } W') :
  (regC 17 (Tryz.f16.body.getD .skip)).wp Tryz.prog Q { tmps := List.toArray (.slice (some ⟨gb, go, none⟩) GN gc::a1::a2::a3::.int .i64 (i : Nat)::.slice (some ⟨b, o, none⟩) M c::a4::.int .i64 (k : Nat)::.bool true::a5::a6::a7::a8::a9::b0::b1::b2::b3::b4::b5::b6::b7::b8::b9::c0::c1::c2::c3::c4::c5::c6::c7::c8::c9::d0::d1::d2::d3::d4::d5::d6::d7::d8::d9::e0::e2::e3::e4::e5::e6::e7::e8::e9::f0::f1::f2::f3::f4::f5::f6::f7::f8::f9::g0::g2::g3::g4::g5::g6::g7::g8::g9::h0::h1::h2::h3::h4::h5::h6::h7::h8::h9::i0::i1::i2::i3::i4::i5::i6::i7::i8::i9::j0::j1::j2::j3::j4::j5::j6::j7::j8::j9::k0::k1::k2::k3::k4::k5::k6::k7::k8::k9::l0::l1::l2::l4::l5::l6::l7::l8::l9::p4::p5::p6::p7::p8::p9::q0::q1::q2::q3::q4::q5::q6::q7::q8::q9::r0::r1::r2::r3::r4::r5::r6::r7::r8::r9::s0::s4::s5::s7::s8::t0::t1::t2::t3::t4::t5::t6::t7::t8::t9::u0::u1::u2::u3::u4::u5::u6::m0::m1::m2::m3::m4::m5::m6::m7::m8::m9::n0::n1::n2::n3::n4::n5::n6::n7::n8::n9::o0::o1::o2::o3::o4::o5::o6::o7::o8::o9::p0::p1::p2::p3::[]), defers := [] } W2 := by
 rw [show regC 17 (Tryz.f16.body.getD .skip) = Code.region 17 _ true from rfl];refine wp_region_self (by kernel_rfl) (by kernel_rfl) ?_
 repeat (go_big_quiet_step (fail))
 refine wpQuiet_nil ?_;rintro _ ⟨e1, rfl⟩;exact hQ _ e1.bel _ _ _ _ _ _ _ _ _ _ _ _ _ _ _ _ _ _ _ _ _ _ _ _ _ _ _ _ _ _ _ _ _ _ _ _ _ _ _ _ _ _ _ _ _ _ _
theorem reg17_c {Q : Exit -> Act -> World -> Prop} {W2 : World} {gb go b o k i h : Nat} {GN gc M c : Nat} {X : ByteArray} {pc AN ac pb po ab ao pn : Nat}
  (hk : k < M) (x2 : ∀ (e : Ext W2), e.out.cell? ⟨b, o + k * 3 + 2, none⟩ = some (.slice (some ⟨pb, po, none⟩) 1 pc)) (x3 : ∀ (e : Ext W2), e.out.cell? ⟨pb, po, none⟩ = some (.int .i64 (pn : Nat)))
  (wi : IntKind.i64.wrap ((i : Int) - 1) = (h : Int)) (hh : h < GN) (g1 : ∀ (e : Ext W2), e.out.cell? ⟨gb, go + h, none⟩ = some (.slice (some ⟨ab, ao, none⟩) AN ac)) (hpn : pn < AN) (a0 : ∀ (e : Ext W2), e.out.cell? ⟨ab, ao + pn * 3, none⟩ = some (.string X))
  (l3 : (X.toList == ([50, 46, 53, 46, 50, 57, 46, 51, 50, 46, 48] : List UInt8)) = false)
  (hQ : ∀ (W' : World), Below W2.heap.size W2 W' -> ∀ (o121 o122 o123 o124 o125 o126 o127 o128 o129 o130 o131 o132 o133 o134 o135 o136 o137 o138 o139 o140 o141 o142 o143 o144 o145 o146 o147 o148 o149 o150 o151 o152 o153 o154 o155 o156 o157 o158 o159 o160 o161 o162 o163 o164 o165 o166 o167 : Value), Q .normal { tmps := List.toArray (.slice (some ⟨gb, go, none⟩) GN gc::a1::a2::a3::.int .i64 (i : Nat)::.slice (some ⟨b, o, none⟩) M c::a4::.int .i64 (k : Nat)::.bool true::a5::a6::a7::a8::a9::b0::b1::b2::b3::b4::b5::b6::b7::b8::b9::c0::c1::c2::c3::c4::c5::c6::c7::c8::c9::d0::d1::d2::d3::d4::d5::d6::d7::d8::d9::e0::e2::e3::e4::e5::e6::e7::e8::e9::f0::f1::f2::f3::f4::f5::f6::f7::f8::f9::g0::g2::g3::g4::g5::g6::g7::g8::g9::h0::h1::h2::h3::h4::h5::h6::h7::h8::h9::i0::i1::i2::i3::i4::i5::i6::i7::i8::i9::j0::j1::j2::j3::j4::j5::j6::j7::j8::j9::k0::k1::k2::k3::k4::k5::k6::k7::k8::k9::l0::l1::l2::l4::l5::l6::l7::l8::l9::o121::o122::o123::o124::o125::o126::o127::o128::o129::o130::o131::o132::o133::o134::o135::o136::o137::o138::o139::o140::o141::o142::o143::o144::o145::o146::o147::o148::o149::o150::o151::o152::o153::o154::o155::o156::o157::o158::o159::o160::o161::o162::o163::o164::o165::o166::o167::.bool (true)::m0::m1::m2::m3::m4::m5::m6::m7::m8::m9::n0::n1::n2::n3::n4::n5::n6::n7::n8::n9::o0::o1::o2::o3::o4::o5::o6::o7::o8::o9::p0::p1::p2::p3::[]), defers := [] } W') :
  (regC 17 (Tryz.f16.body.getD .skip)).wp Tryz.prog Q { tmps := List.toArray (.slice (some ⟨gb, go, none⟩) GN gc::a1::a2::a3::.int .i64 (i : Nat)::.slice (some ⟨b, o, none⟩) M c::a4::.int .i64 (k : Nat)::.bool true::a5::a6::a7::a8::a9::b0::b1::b2::b3::b4::b5::b6::b7::b8::b9::c0::c1::c2::c3::c4::c5::c6::c7::c8::c9::d0::d1::d2::d3::d4::d5::d6::d7::d8::d9::e0::e2::e3::e4::e5::e6::e7::e8::e9::f0::f1::f2::f3::f4::f5::f6::f7::f8::f9::g0::g2::g3::g4::g5::g6::g7::g8::g9::h0::h1::h2::h3::h4::h5::h6::h7::h8::h9::i0::i1::i2::i3::i4::i5::i6::i7::i8::i9::j0::j1::j2::j3::j4::j5::j6::j7::j8::j9::k0::k1::k2::k3::k4::k5::k6::k7::k8::k9::l0::l1::l2::l4::l5::l6::l7::l8::l9::p4::p5::p6::p7::p8::p9::q0::q1::q2::q3::q4::q5::q6::q7::q8::q9::r0::r1::r2::r3::r4::r5::r6::r7::r8::r9::s0::s4::s5::s7::s8::t0::t1::t2::t3::t4::t5::t6::t7::t8::t9::u0::u1::u2::u3::u4::u5::u6::m0::m1::m2::m3::m4::m5::m6::m7::m8::m9::n0::n1::n2::n3::n4::n5::n6::n7::n8::n9::o0::o1::o2::o3::o4::o5::o6::o7::o8::o9::p0::p1::p2::p3::[]), defers := [] } W2 := by
 rw [show regC 17 (Tryz.f16.body.getD .skip) = Code.region 17 _ true from rfl];refine wp_region_self (by kernel_rfl) (by kernel_rfl) ?_
 repeat (go_big_quiet_step (fail))
 refine wpQuiet_nil ?_;rintro _ ⟨e1, rfl⟩;exact hQ _ e1.bel _ _ _ _ _ _ _ _ _ _ _ _ _ _ _ _ _ _ _ _ _ _ _ _ _ _ _ _ _ _ _ _ _ _ _ _ _ _ _ _ _ _ _ _ _ _ _
theorem reg17_d {Q : Exit -> Act -> World -> Prop} {W2 : World} {gb go b o k i h : Nat} {GN gc M c : Nat} {X : ByteArray} {ua : Option Addr} {un uc pc AN ac pb po ab ao pn : Nat}
  (hk : k < M) (x2 : ∀ (e : Ext W2), e.out.cell? ⟨b, o + k * 3 + 2, none⟩ = some (.slice (some ⟨pb, po, none⟩) 1 pc)) (x3 : ∀ (e : Ext W2), e.out.cell? ⟨pb, po, none⟩ = some (.int .i64 (pn : Nat)))
  (wi : IntKind.i64.wrap ((i : Int) - 1) = (h : Int)) (hh : h < GN) (g1 : ∀ (e : Ext W2), e.out.cell? ⟨gb, go + h, none⟩ = some (.slice (some ⟨ab, ao, none⟩) AN ac)) (hpn : pn < AN) (a0 : ∀ (e : Ext W2), e.out.cell? ⟨ab, ao + pn * 3, none⟩ = some (.string X))
  (l3 : (X.toList == ([50, 46, 53, 46, 50, 57, 46, 51, 50, 46, 48] : List UInt8)) = true) (x1 : ∀ (e : Ext W2), e.out.cell? ⟨b, o + k * 3 + 1, none⟩ = some (.slice ua un uc)) (tu : ((un : Int) != 1) = true) (tu2 : ((un : Int) == 1) = false)
  (hQ : ∀ (W' : World), Below W2.heap.size W2 W' -> ∀ (o121 o122 o123 o124 o125 o126 o127 o128 o129 o130 o131 o132 o133 o134 o135 o136 o137 o138 o139 o140 o141 o142 o143 o144 o145 o146 o147 o148 o149 o150 o151 o152 o153 o154 o155 o156 o157 o158 o159 o160 o161 o162 o163 o164 o165 o166 o167 : Value), Q .normal { tmps := List.toArray (.slice (some ⟨gb, go, none⟩) GN gc::a1::a2::a3::.int .i64 (i : Nat)::.slice (some ⟨b, o, none⟩) M c::a4::.int .i64 (k : Nat)::.bool true::a5::a6::a7::a8::a9::b0::b1::b2::b3::b4::b5::b6::b7::b8::b9::c0::c1::c2::c3::c4::c5::c6::c7::c8::c9::d0::d1::d2::d3::d4::d5::d6::d7::d8::d9::e0::e2::e3::e4::e5::e6::e7::e8::e9::f0::f1::f2::f3::f4::f5::f6::f7::f8::f9::g0::g2::g3::g4::g5::g6::g7::g8::g9::h0::h1::h2::h3::h4::h5::h6::h7::h8::h9::i0::i1::i2::i3::i4::i5::i6::i7::i8::i9::j0::j1::j2::j3::j4::j5::j6::j7::j8::j9::k0::k1::k2::k3::k4::k5::k6::k7::k8::k9::l0::l1::l2::l4::l5::l6::l7::l8::l9::o121::o122::o123::o124::o125::o126::o127::o128::o129::o130::o131::o132::o133::o134::o135::o136::o137::o138::o139::o140::o141::o142::o143::o144::o145::o146::o147::o148::o149::o150::o151::o152::o153::o154::o155::o156::o157::o158::o159::o160::o161::o162::o163::o164::o165::o166::o167::.bool (true)::m0::m1::m2::m3::m4::m5::m6::m7::m8::m9::n0::n1::n2::n3::n4::n5::n6::n7::n8::n9::o0::o1::o2::o3::o4::o5::o6::o7::o8::o9::p0::p1::p2::p3::[]), defers := [] } W') :
  (regC 17 (Tryz.f16.body.getD .skip)).wp Tryz.prog Q { tmps := List.toArray (.slice (some ⟨gb, go, none⟩) GN gc::a1::a2::a3::.int .i64 (i : Nat)::.slice (some ⟨b, o, none⟩) M c::a4::.int .i64 (k : Nat)::.bool true::a5::a6::a7::a8::a9::b0::b1::b2::b3::b4::b5::b6::b7::b8::b9::c0::c1::c2::c3::c4::c5::c6::c7::c8::c9::d0::d1::d2::d3::d4::d5::d6::d7::d8::d9::e0::e2::e3::e4::e5::e6::e7::e8::e9::f0::f1::f2::f3::f4::f5::f6::f7::f8::f9::g0::g2::g3::g4::g5::g6::g7::g8::g9::h0::h1::h2::h3::h4::h5::h6::h7::h8::h9::i0::i1::i2::i3::i4::i5::i6::i7::i8::i9::j0::j1::j2::j3::j4::j5::j6::j7::j8::j9::k0::k1::k2::k3::k4::k5::k6::k7::k8::k9::l0::l1::l2::l4::l5::l6::l7::l8::l9::p4::p5::p6::p7::p8::p9::q0::q1::q2::q3::q4::q5::q6::q7::q8::q9::r0::r1::r2::r3::r4::r5::r6::r7::r8::r9::s0::s4::s5::s7::s8::t0::t1::t2::t3::t4::t5::t6::t7::t8::t9::u0::u1::u2::u3::u4::u5::u6::m0::m1::m2::m3::m4::m5::m6::m7::m8::m9::n0::n1::n2::n3::n4::n5::n6::n7::n8::n9::o0::o1::o2::o3::o4::o5::o6::o7::o8::o9::p0::p1::p2::p3::[]), defers := [] } W2 := by
 rw [show regC 17 (Tryz.f16.body.getD .skip) = Code.region 17 _ true from rfl];refine wp_region_self (by kernel_rfl) (by kernel_rfl) ?_
 repeat (go_big_quiet_step (fail))
 refine wpQuiet_nil ?_;rintro _ ⟨e1, rfl⟩;exact hQ _ e1.bel _ _ _ _ _ _ _ _ _ _ _ _ _ _ _ _ _ _ _ _ _ _ _ _ _ _ _ _ _ _ _ _ _ _ _ _ _ _ _ _ _ _ _ _ _ _ _
theorem reg17_e {Q : Exit -> Act -> World -> Prop} {W2 : World} {gb go b o k i h : Nat} {GN gc M c : Nat} {X : ByteArray} {IN : Bool} {ua : Option Addr} {un uc pc AN ac pb po ab ao pn : Nat}
  (hk : k < M) (x2 : ∀ (e : Ext W2), e.out.cell? ⟨b, o + k * 3 + 2, none⟩ = some (.slice (some ⟨pb, po, none⟩) 1 pc)) (x3 : ∀ (e : Ext W2), e.out.cell? ⟨pb, po, none⟩ = some (.int .i64 (pn : Nat)))
  (wi : IntKind.i64.wrap ((i : Int) - 1) = (h : Int)) (hh : h < GN) (g1 : ∀ (e : Ext W2), e.out.cell? ⟨gb, go + h, none⟩ = some (.slice (some ⟨ab, ao, none⟩) AN ac)) (hpn : pn < AN) (a0 : ∀ (e : Ext W2), e.out.cell? ⟨ab, ao + pn * 3, none⟩ = some (.string X))
  (l3 : (X.toList == ([50, 46, 53, 46, 50, 57, 46, 51, 50, 46, 48] : List UInt8)) = true) (x1 : ∀ (e : Ext W2), e.out.cell? ⟨b, o + k * 3 + 1, none⟩ = some (.slice ua un uc)) (tu : ((un : Int) != 1) = false) (tu2 : ((un : Int) == 1) = true)
  (hin : ∀ (e : Ext W2), Calls Tryz.prog 47 #[.slice ua un uc, .string ⟨#[50, 46, 53, 46, 50, 57, 46, 51, 50, 46, 48]⟩] e.out fun r w' => r = .returned (.bool IN) /\ Below e.out.heap.size e.out w')
  (hQ : ∀ (W' : World), Below W2.heap.size W2 W' -> ∀ (o121 o122 o123 o124 o125 o126 o127 o128 o129 o130 o131 o132 o133 o134 o135 o136 o137 o138 o139 o140 o141 o142 o143 o144 o145 o146 o147 o148 o149 o150 o151 o152 o153 o154 o155 o156 o157 o158 o159 o160 o161 o162 o163 o164 o165 o166 o167 : Value), Q .normal { tmps := List.toArray (.slice (some ⟨gb, go, none⟩) GN gc::a1::a2::a3::.int .i64 (i : Nat)::.slice (some ⟨b, o, none⟩) M c::a4::.int .i64 (k : Nat)::.bool true::a5::a6::a7::a8::a9::b0::b1::b2::b3::b4::b5::b6::b7::b8::b9::c0::c1::c2::c3::c4::c5::c6::c7::c8::c9::d0::d1::d2::d3::d4::d5::d6::d7::d8::d9::e0::e2::e3::e4::e5::e6::e7::e8::e9::f0::f1::f2::f3::f4::f5::f6::f7::f8::f9::g0::g2::g3::g4::g5::g6::g7::g8::g9::h0::h1::h2::h3::h4::h5::h6::h7::h8::h9::i0::i1::i2::i3::i4::i5::i6::i7::i8::i9::j0::j1::j2::j3::j4::j5::j6::j7::j8::j9::k0::k1::k2::k3::k4::k5::k6::k7::k8::k9::l0::l1::l2::l4::l5::l6::l7::l8::l9::o121::o122::o123::o124::o125::o126::o127::o128::o129::o130::o131::o132::o133::o134::o135::o136::o137::o138::o139::o140::o141::o142::o143::o144::o145::o146::o147::o148::o149::o150::o151::o152::o153::o154::o155::o156::o157::o158::o159::o160::o161::o162::o163::o164::o165::o166::o167::.bool (!IN)::m0::m1::m2::m3::m4::m5::m6::m7::m8::m9::n0::n1::n2::n3::n4::n5::n6::n7::n8::n9::o0::o1::o2::o3::o4::o5::o6::o7::o8::o9::p0::p1::p2::p3::[]), defers := [] } W') :
  (regC 17 (Tryz.f16.body.getD .skip)).wp Tryz.prog Q { tmps := List.toArray (.slice (some ⟨gb, go, none⟩) GN gc::a1::a2::a3::.int .i64 (i : Nat)::.slice (some ⟨b, o, none⟩) M c::a4::.int .i64 (k : Nat)::.bool true::a5::a6::a7::a8::a9::b0::b1::b2::b3::b4::b5::b6::b7::b8::b9::c0::c1::c2::c3::c4::c5::c6::c7::c8::c9::d0::d1::d2::d3::d4::d5::d6::d7::d8::d9::e0::e2::e3::e4::e5::e6::e7::e8::e9::f0::f1::f2::f3::f4::f5::f6::f7::f8::f9::g0::g2::g3::g4::g5::g6::g7::g8::g9::h0::h1::h2::h3::h4::h5::h6::h7::h8::h9::i0::i1::i2::i3::i4::i5::i6::i7::i8::i9::j0::j1::j2::j3::j4::j5::j6::j7::j8::j9::k0::k1::k2::k3::k4::k5::k6::k7::k8::k9::l0::l1::l2::l4::l5::l6::l7::l8::l9::p4::p5::p6::p7::p8::p9::q0::q1::q2::q3::q4::q5::q6::q7::q8::q9::r0::r1::r2::r3::r4::r5::r6::r7::r8::r9::s0::s4::s5::s7::s8::t0::t1::t2::t3::t4::t5::t6::t7::t8::t9::u0::u1::u2::u3::u4::u5::u6::m0::m1::m2::m3::m4::m5::m6::m7::m8::m9::n0::n1::n2::n3::n4::n5::n6::n7::n8::n9::o0::o1::o2::o3::o4::o5::o6::o7::o8::o9::p0::p1::p2::p3::[]), defers := [] } W2 := by
 rw [show regC 17 (Tryz.f16.body.getD .skip) = Code.region 17 _ true from rfl];refine wp_region_self (by kernel_rfl) (by kernel_rfl) ?_
 repeat (go_big_quiet_step (first | (go_at_call 47; exact ext_of (hin _))))
 refine wpQuiet_nil ?_;rintro _ ⟨e1, rfl⟩;exact hQ _ e1.bel _ _ _ _ _ _ _ _ _ _ _ _ _ _ _ _ _ _ _ _ _ _ _ _ _ _ _ _ _ _ _ _ _ _ _ _ _ _ _ _ _ _ _ _ _ _ _
end Go.Proofs.YtmagjdocondmhaaGreat.Tr.Gr
