/- packed -/
import Derived.Test.YtmagjdocondmhaaGreatPkRe14
set_option linter.unusedVariables false
set_option linter.unusedSimpArgs false
set_option maxRecDepth 100000
set_option maxHeartbeats 64000000
namespace Go.Proofs.YtmagjdocondmhaaGreat.Tr.Gr
open Go Go.RowKit Slc St Mp Tr Rg
attribute [local go_sem] Oper.semAt_some
variable {W2 a1 a2 a3 a4 a5 a6 a7 a8 a9 b0 b1 b2 b3 b4 b5 b6 b7 b8 b9 c0 c1 c2 c3 c4 c5 c6 c7 c8 c9 d0 d1 d2 d3 d4 d5 d6 d7 d8 d9 e0 e2 e3 e4 e5 e6 e7 e8 e9 f0 f1 f2 f3 f4 f5 f6 f7 f8 f9 g0 g2 g3 g4 g5 g6 g7 g8 g9 h0 h1 h2 h3 h4 h5 h6 h7 h8 h9 i0 i1 i2 i3 i4 i5 i6 i7 i8 i9 j0 j1 j2 j3 j4 j5 j6 j7 j8 j9 k0 k1 k2 k3 k4 k5 k6 k7 k8 k9 l0 l1 l2 l4 l5 l6 l7 l8 l9 m0 m1 m2 m3 m4 m5 m6 m7 m8 m9 n0 n1 n2 n3 n4 n5 n6 n7 n8 n9 o0 o1 o2 o3 o4 o5 o6 o7 o8 o9 p0 p1 p2 p3 p4 p5 p6 p7 p8 p9 q0 q1 q2 q3 q4 q5 q6 q7 q8 q9 r0 r1 r2 r3 r4 r5 r6 r7 r8 r9 s0 s4 s5 s7 s8 t0 t1 t2 t3 t4 t5 t6 t7 t8 t9 u0 u1 u2 u3 u4 u5 u6 : Value}
theorem reg17_a {Q : Exit -> Act -> World -> Prop} {W2 : World} {gb go b o k i : Nat} {GN gc M c : Nat} {IN : Bool} {ua : Option Addr} {un uc : Nat}
  (hk : k < M) (x1 : ∀ (e : Ext W2), e.out.cell? ⟨b, o + k * 3 + 1, none⟩ = some (.slice ua un uc))
  (hin : ∀ (e : Ext W2), Calls Tryz.prog 47 #[.slice ua un uc, .string ⟨#[50, 46, 53, 46, 50, 57, 46, 51, 50, 46, 48]⟩] e.out fun r w' => r = .returned (.bool IN) /\ Below e.out.heap.size e.out w')
  (hQ : ∀ (W' : World), Below W2.heap.size W2 W' -> ∀ (o121 o122 o123 o124 o125 o126 o127 o128 o129 o130 o131 o132 o133 o134 o135 o136 o137 o138 o139 o140 o141 o142 o143 o144 o145 o146 o147 o148 o149 o150 o151 o152 o153 o154 o155 o156 o157 o158 o159 o160 o161 o162 o163 o164 o165 o166 o167 : Value), Q .normal { tmps := List.toArray (.slice (some ⟨gb, go, none⟩) GN gc::a1::a2::a3::.int .i64 (i : Nat)::.slice (some ⟨b, o, none⟩) M c::a4::.int .i64 (k : Nat)::.bool false::a5::a6::a7::a8::a9::b0::b1::b2::b3::b4::b5::b6::b7::b8::b9::c0::c1::c2::c3::c4::c5::c6::c7::c8::c9::d0::d1::d2::d3::d4::d5::d6::d7::d8::d9::e0::e2::e3::e4::e5::e6::e7::e8::e9::f0::f1::f2::f3::f4::f5::f6::f7::f8::f9::g0::g2::g3::g4::g5::g6::g7::g8::g9::h0::h1::h2::h3::h4::h5::h6::h7::h8::h9::i0::i1::i2::i3::i4::i5::i6::i7::i8::i9::j0::j1::j2::j3::j4::j5::j6::j7::j8::j9::k0::k1::k2::k3::k4::k5::k6::k7::k8::k9::l0::l1::l2::l4::l5::l6::l7::l8::l9::o121::o122::o123::o124::o125::o126::o127::o128::o129::o130::o131::o132::o133::o134::o135::o136::o137::o138::o139::o140::o141::o142::o143::o144::o145::o146::o147::o148::o149::o150::o151::o152::o153::o154::o155::o156::o157::o158::o159::o160::o161::o162::o163::o164::o165::o166::o167::.bool (IN)::m0::m1::m2::m3::m4::m5::m6::m7::m8::m9::n0::n1::n2::n3::n4::n5::n6::n7::n8::n9::o0::o1::o2::o3::o4::o5::o6::o7::o8::o9::p0::p1::p2::p3::[]), defers := [] } W') :
  (regC 17 (Tryz.f16.body.getD .skip)).wp Tryz.prog Q { tmps := List.toArray (.slice (some ⟨gb, go, none⟩) GN gc::a1::a2::a3::.int .i64 (i : Nat)::.slice (some ⟨b, o, none⟩) M c::a4::.int .i64 (k : Nat)::.bool false::a5::a6::a7::a8::a9::b0::b1::b2::b3::b4::b5::b6::b7::b8::b9::c0::c1::c2::c3::c4::c5::c6::c7::c8::c9::d0::d1::d2::d3::d4::d5::d6::d7::d8::d9::e0::e2::e3::e4::e5::e6::e7::e8::e9::f0::f1::f2::f3::f4::f5::f6::f7::f8::f9::g0::g2::g3::g4::g5::g6::g7::g8::g9::h0::h1::h2::h3::h4::h5::h6::h7::h8::h9::i0::i1::i2::i3::i4::i5::i6::i7::i8::i9::j0::j1::j2::j3::j4::j5::j6::j7::j8::j9::k0::k1::k2::k3::k4::k5::k6::k7::k8::k9::l0::l1::l2::l4::l5::l6::l7::l8::l9::p4::p5::p6::p7::p8::p9::q0::q1::q2::q3::q4::q5::q6::q7::q8::q9::r0::r1::r2::r3::r4::r5::r6::r7::r8::r9::s0::s4::s5::s7::s8::t0::t1::t2::t3::t4::t5::t6::t7::t8::t9::u0::u1::u2::u3::u4::u5::u6::m0::m1::m2::m3::m4::m5::m6::m7::m8::m9::n0::n1::n2::n3::n4::n5::n6::n7::n8::n9::o0::o1::o2::o3::o4::o5::o6::o7::o8::o9::p0::p1::p2::p3::[]), defers := [] } W2 := by
 rw [show regC 17 (Tryz.f16.body.getD .skip) = Code.region 17 _ true from rfl];refine wp_region_self (by kernel_rfl) (by kernel_rfl) ?_
 repeat (go_big_quiet_step (first | (go_at_call 47; exact ext_of (hin _))))
 refine wpQuiet_nil ?_;rintro _ ⟨e1, rfl⟩;exact hQ _ e1.bel _ _ _ _ _ _ _ _ _ _ _ _ _ _ _ _ _ _ _ _ _ _ _ _ _ _ _ _ _ _ _ _ _ _ _ _ _ _ _ _ _ _ _ _ _ _ _
theorem reg17_b {Q : Exit -> Act -> World -> Prop} {W2 : World} {gb go b o k i : Nat} {GN gc M c : Nat} {pa : Option Addr} {PN pc : Nat}
  (hk : k < M) (x2 : ∀ (e : Ext W2), e.out.cell? ⟨b, o + k * 3 + 2, none⟩ = some (.slice pa PN pc)) (tp : ((PN : Int) != 1) = true) (tp2 : ((PN : Int) == 1) = false)
  (hQ : ∀ (W' : World), Below W2.heap.size W2 W' -> ∀ (o121 o122 o123 o124 o125 o126 o127 o128 o129 o130 o131 o132 o133 o134 o135 o136 o137 o138 o139 o140 o141 o142 o143 o144 o145 o146 o147 o148 o149 o150 o151 o152 o153 o154 o155 o156 o157 o158 o159 o160 o161 o162 o163 o164 o165 o166 o167 : Value), Q .normal { tmps := List.toArray (.slice (some ⟨gb, go, none⟩) GN gc::a1::a2::a3::.int .i64 (i : Nat)::.slice (some ⟨b, o, none⟩) M c::a4::.int .i64 (k : Nat)::.bool true::a5::a6::a7::a8::a9::b0::b1::b2::b3::b4::b5::b6::b7::b8::b9::c0::c1::c2::c3::c4::c5::c6::c7::c8::c9::d0::d1::d2::d3::d4::d5::d6::d7::d8::d9::e0::e2::e3::e4::e5::e6::e7::e8::e9::f0::f1::f2::f3::f4::f5::f6::f7::f8::f9::g0::g2::g3::g4::g5::g6::g7::g8::g9::h0::h1::h2::h3::h4::h5::h6::h7::h8::h9::i0::i1::i2::i3::i4::i5::i6::i7::i8::i9::j0::j1::j2::j3::j4::j5::j6::j7::j8::j9::k0::k1::k2::k3::k4::k5::k6::k7::k8::k9::l0::l1::l2::l4::l5::l6::l7::l8::l9::o121::o122::o123::o124::o125::o126::o127::o128::o129::o130::o131::o132::o133::o134::o135::o136::o137::o138::o139::o140::o141::o142::o143::o144::o145::o146::o147::o148::o149::o150::o151::o152::o153::o154::o155::o156::o157::o158::o159::o160::o161::o162::o163::o164::o165::o166::o167::.bool (true)::m0::m1::m2::m3::m4::m5::m6::m7::m8::m9::n0::n1::n2::n3::n4::n5::n6::n7::n8::n9::o0::o1::o2::o3::o4::o5::o6::o7::o8::o9::p0::p1::p2::p3::[]), defers := [] } W') :
  (regC 17 (Tryz.f16.body.getD .skip)).wp Tryz.prog Q { tmps := List.toArray (.slice (some ⟨gb, go, none⟩) GN gc::a1::a2::a3::.int .i64 (i : Nat)::.slice (some ⟨b, o, none⟩) M c::a4::.int .i64 (k : Nat)::.bool true::a5::a6::a7::a8::a9::b0::b1::b2::b3::b4::b5::b6::b7::b8::b9::c0::c1::c2::c3::c4::c5::c6::c7::c8::c9::d0::d1::d2::d3::d4::d5::d6::d7::d8::d9::e0::e2::e3::e4::e5::e6::e7::e8::e9::f0::f1::f2::f3::f4::f5::f6::f7::f8::f9::g0::g2::g3::g4::g5::g6::g7::g8::g9::h0::h1::h2::h3::h4::h5::h6::h7::h8::h9::i0::i1::i2::i3::i4::i5::i6::i7::i8::i9::j0::j1::j2::j3::j4::j5::j6::j7::j8::j9::k0::k1::k2::k3::k4::k5::k6::k7::k8::k9::l0::l1::l2::l4::l5::l6::l7::l8::l9::p4::p5::p6::p7::p8::p9::q0::q1::q2::q3::q4::q5::q6::q7::q8::q9::r0::r1::r2::r3::r4::r5::r6::r7::r8::r9::s0::s4::s5::s7::s8::t0::t1::t2::t3::t4::t5::t6::t7::t8::t9::u0::u1::u2::u3::u4::u5::u6::m0::m1::m2::m3::m4::m5::m6::m7::m8::m9::n0::n1::n2::n3::n4::n5::n6::n7::n8::n9::o0::o1::o2::o3::o4::o5::o6::o7::o8::o9::p0::p1::p2::p3::[]), defers := [] } W2 := by
 rw [show regC 17 (Tryz.f16.body.getD .skip) = Code.region 17 _ true from rfl];refine wp_region_self (by kernel_rfl) (by kernel_rfl) ?_
 repeat (go_big_quiet_step (fail))
 refine wpQuiet_nil ?_;rintro _ ⟨e1, rfl⟩;exact hQ _ e1.bel _ _ _ _ _ _ _ _ _ _ _ _ _ _ _ _ _ _ _ _ _ _ _ _ _ _ _ _ _ _ _ _ _ _ _ _ _ _ _ _ _ _ _ _ _ _ _
theorem reg17_c {Q : Exit -> Act -> World -> Prop} {W2 : World} {gb go b o k i h : Nat} {GN gc M c : Nat} {X : ByteArray} {pc AN ac pb po ab ao pn : Nat}
  (hk : k < M) (x2 : ∀ (e : Ext W2), e.out.cell? ⟨b, o + k * 3 + 2, none⟩ = some (.slice (some ⟨pb, po, none⟩) 1 pc)) (x3 : ∀ (e : Ext W2), e.out.cell? ⟨pb, po, none⟩ = some (.int .i64 (pn : Nat)))
  (wi : IntKind.i64.wrap ((i : Int) - 1) = (h : Int)) (hh : h < GN) (g1 : ∀ (e : Ext W2), e.out.cell? ⟨gb, go + h, none⟩ = some (.slice (some ⟨ab, ao, none⟩) AN ac)) (hpn : pn < AN) (a0 : ∀ (e : Ext W2), e.out.cell? ⟨ab, ao + pn * 3, none⟩ = some (.string X))
  (l3 : (X.toList == ([50, 46, 53, 46, 50, 57, 46, 51, 50, 46, 48] : List UInt8)) = false)
  (hQ : ∀ (W' : World), Below W2.heap.size W2 W' -> ∀ (o121 o122 o123 o124 o125 o126 o127 o128 o129 o130 o131 o132 o133 o134 o135 o136 o137 o138 o139 o140 o141 o142 o143 o144 o145 o146 o147 o148 o149 o150 o151 o152 o153 o154 o155 o156 o157 o158 o159 o160 o161 o162 o163 o164 o165 o166 o167 : Value), Q .normal { tmps := List.toArray (.slice (some ⟨gb, go, none⟩) GN gc::a1::a2::a3::.int .i64 (i : Nat)::.slice (some ⟨b, o, none⟩) M c::a4::.int .i64 (k : Nat)::.bool true::a5::a6::a7::a8::a9::b0::b1::b2::b3::b4::b5::b6::b7::b8::b9::c0::c1::c2::c3::c4::c5::c6::c7::c8::c9::d0::d1::d2::d3::d4::d5::d6::d7::d8::d9::e0::e2::e3::e4::e5::e6::e7::e8::e9::f0::f1::f2::f3::f4::f5::f6::f7::f8::f9::g0::g2::g3::g4::g5::g6::g7::g8::g9::h0::h1::h2::h3::h4::h5::h6::h7::h8::h9::i0::i1::i2::i3::i4::i5::i6::i7::i8::i9::j0::j1::j2::j3::j4::j5::j6::j7::j8::j9::k0::k1::k2::k3::k4::k5::k6::k7::k8::k9::l0::l1::l2::l4::l5::l6::l7::l8::l9::o121::o122::o123::o124::o125::o126::o127::o128::o129::o130::o131::o132::o133::o134::o135::o136::o137::o138::o139::o140::o141::o142::o143::o144::o145::o146::o147::o148::o149::o150::o151::o152::o153::o154::o155::o156::o157::o158::o159::o160::o161::o162::o163::o164::o165::o166::o167::.bool (true)::m0::m1::m2::m3::m4::m5::m6::m7::m8::m9::n0::n1::n2::n3::n4::n5::n6::n7::n8::n9::o0::o1::o2::o3::o4::o5::o6::o7::o8::o9::p0::p1::p2::p3::[]), defers := [] } W') :
  (regC 17 (Tryz.f16.body.getD .skip)).wp Tryz.prog Q { tmps := List.toArray (.slice (some ⟨gb, go, none⟩) GN gc::a1::a2::a3::.int .i64 (i : Nat)::.slice (some ⟨b, o, none⟩) M c::a4::.int .i64 (k : Nat)::.bool true::a5::a6::a7::a8::a9::b0::b1::b2::b3::b4::b5::b6::b7::b8::b9::c0::c1::c2::c3::c4::c5::c6::c7::c8::c9::d0::d1::d2::d3::d4::d5::d6::d7::d8::d9::e0::e2::e3::e4::e5::e6::e7::e8::e9::f0::f1::f2::f3::f4::f5::f6::f7::f8::f9::g0::g2::g3::g4::g5::g6::g7::g8::g9::h0::h1::h2::h3::h4::h5::h6::h7::h8::h9::i0::i1::i2::i3::i4::i5::i6::i7::i8::i9::j0::j1::j2::j3::j4::j5::j6::j7::j8::j9::k0::k1::k2::k3::k4::k5::k6::k7::k8::k9::l0::l1::l2::l4::l5::l6::l7::l8::l9::p4::p5::p6::p7::p8::p9::q0::q1::q2::q3::q4::q5::q6::q7::q8::q9::r0::r1::r2::r3::r4::r5::r6::r7::r8::r9::s0::s4::s5::s7::s8::t0::t1::t2::t3::t4::t5::t6::t7::t8::t9::u0::u1::u2::u3::u4::u5::u6::m0::m1::m2::m3::m4::m5::m6::m7::m8::m9::n0::n1::n2::n3::n4::n5::n6::n7::n8::n9::o0::o1::o2::o3::o4::o5::o6::o7::o8::o9::p0::p1::p2::p3::[]), defers := [] } W2 := by
 rw [show regC 17 (Tryz.f16.body.getD .skip) = Code.region 17 _ true from rfl];refine wp_region_self (by kernel_rfl) (by kernel_rfl) ?_
 repeat (go_big_quiet_step (fail))
 refine wpQuiet_nil ?_;rintro _ ⟨e1, rfl⟩;exact hQ _ e1.bel _ _ _ _ _ _ _ _ _ _ _ _ _ _ _ _ _ _ _ _ _ _ _ _ _ _ _ _ _ _ _ _ _ _ _ _ _ _ _ _ _ _ _ _ _ _ _
theorem reg17_d {Q : Exit -> Act -> World -> Prop} {W2 : World} {gb go b o k i h : Nat} {GN gc M c : Nat} {X : ByteArray} {ua : Option Addr} {un uc pc AN ac pb po ab ao pn : Nat}
  (hk : k < M) (x2 : ∀ (e : Ext W2), e.out.cell? ⟨b, o + k * 3 + 2, none⟩ = some (.slice (some ⟨pb, po, none⟩) 1 pc)) (x3 : ∀ (e : Ext W2), e.out.cell? ⟨pb, po, none⟩ = some (.int .i64 (pn : Nat)))
  (wi : IntKind.i64.wrap ((i : Int) - 1) = (h : Int)) (hh : h < GN) (g1 : ∀ (e : Ext W2), e.out.cell? ⟨gb, go + h, none⟩ = some (.slice (some ⟨ab, ao, none⟩) AN ac)) (hpn : pn < AN) (a0 : ∀ (e : Ext W2), e.out.cell? ⟨ab, ao + pn * 3, none⟩ = some (.string X))
  (l3 : (X.toList == ([50, 46, 53, 46, 50, 57, 46, 51, 50, 46, 48] : List UInt8)) = true) (x1 : ∀ (e : Ext W2), e.out.cell? ⟨b, o + k * 3 + 1, none⟩ = some (.slice ua un uc)) (tu : ((un : Int) != 1) = true) (tu2 : ((un : Int) == 1) = false)
  (hQ : ∀ (W' : World), Below W2.heap.size W2 W' -> ∀ (o121 o122 o123 o124 o125 o126 o127 o128 o129 o130 o131 o132 o133 o134 o135 o136 o137 o138 o139 o140 o141 o142 o143 o144 o145 o146 o147 o148 o149 o150 o151 o152 o153 o154 o155 o156 o157 o158 o159 o160 o161 o162 o163 o164 o165 o166 o167 : Value), Q .normal { tmps := List.toArray (.slice (some ⟨gb, go, none⟩) GN gc::a1::a2::a3::.int .i64 (i : Nat)::.slice (some ⟨b, o, none⟩) M c::a4::.int .i64 (k : Nat)::.bool true::a5::a6::a7::a8::a9::b0::b1::b2::b3::b4::b5::b6::b7::b8::b9::c0::c1::c2::c3::c4::c5::c6::c7::c8::c9::d0::d1::d2::d3::d4::d5::d6::d7::d8::d9::e0::e2::e3::e4::e5::e6::e7::e8::e9::f0::f1::f2::f3::f4::f5::f6::f7::f8::f9::g0::g2::g3::g4::g5::g6::g7::g8::g9::h0::h1::h2::h3::h4::h5::h6::h7::h8::h9::i0::i1::i2::i3::i4::i5::i6::i7::i8::i9::j0::j1::j2::j3::j4::j5::j6::j7::j8::j9::k0::k1::k2::k3::k4::k5::k6::k7::k8::k9::l0::l1::l2::l4::l5::l6::l7::l8::l9::o121::o122::o123::o124::o125::o126::o127::o128::o129::o130::o131::o132::o133::o134::o135::o136::o137::o138::o139::o140::o141::o142::o143::o144::o145::o146::o147::o148::o149::o150::o151::o152::o153::o154::o155::o156::o157::o158::o159::o160::o161::o162::o163::o164::o165::o166::o167::.bool (true)::m0::m1::m2::m3::m4::m5::m6::m7::m8::m9::n0::n1::n2::n3::n4::n5::n6::n7::n8::n9::o0::o1::o2::o3::o4::o5::o6::o7::o8::o9::p0::p1::p2::p3::[]), defers := [] } W') :
  (regC 17 (Tryz.f16.body.getD .skip)).wp Tryz.prog Q { tmps := List.toArray (.slice (some ⟨gb, go, none⟩) GN gc::a1::a2::a3::.int .i64 (i : Nat)::.slice (some ⟨b, o, none⟩) M c::a4::.int .i64 (k : Nat)::.bool true::a5::a6::a7::a8::a9::b0::b1::b2::b3::b4::b5::b6::b7::b8::b9::c0::c1::c2::c3::c4::c5::c6::c7::c8::c9::d0::d1::d2::d3::d4::d5::d6::d7::d8::d9::e0::e2::e3::e4::e5::e6::e7::e8::e9::f0::f1::f2::f3::f4::f5::f6::f7::f8::f9::g0::g2::g3::g4::g5::g6::g7::g8::g9::h0::h1::h2::h3::h4::h5::h6::h7::h8::h9::i0::i1::i2::i3::i4::i5::i6::i7::i8::i9::j0::j1::j2::j3::j4::j5::j6::j7::j8::j9::k0::k1::k2::k3::k4::k5::k6::k7::k8::k9::l0::l1::l2::l4::l5::l6::l7::l8::l9::p4::p5::p6::p7::p8::p9::q0::q1::q2::q3::q4::q5::q6::q7::q8::q9::r0::r1::r2::r3::r4::r5::r6::r7::r8::r9::s0::s4::s5::s7::s8::t0::t1::t2::t3::t4::t5::t6::t7::t8::t9::u0::u1::u2::u3::u4::u5::u6::m0::m1::m2::m3::m4::m5::m6::m7::m8::m9::n0::n1::n2::n3::n4::n5::n6::n7::n8::n9::o0::o1::o2::o3::o4::o5::o6::o7::o8::o9::p0::p1::p2::p3::[]), defers := [] } W2 := by
 rw [show regC 17 (Tryz.f16.body.getD .skip) = Code.region 17 _ true from rfl];refine wp_region_self (by kernel_rfl) (by kernel_rfl) ?_
 repeat (go_big_quiet_step (fail))
 refine wpQuiet_nil ?_;rintro _ ⟨e1, rfl⟩;exact hQ _ e1.bel _ _ _ _ _ _ _ _ _ _ _ _ _ _ _ _ _ _ _ _ _ _ _ _ _ _ _ _ _ _ _ _ _ _ _ _ _ _ _ _ _ _ _ _ _ _ _
theorem reg17_e {Q : Exit -> Act -> World -> Prop} {W2 : World} {gb go b o k i h : Nat} {GN gc M c : Nat} {X : ByteArray} {IN : Bool} {ua : Option Addr} {un uc pc AN ac pb po ab ao pn : Nat}
  (hk : k < M) (x2 : ∀ (e : Ext W2), e.out.cell? ⟨b, o + k * 3 + 2, none⟩ = some (.slice (some ⟨pb, po, none⟩) 1 pc)) (x3 : ∀ (e : Ext W2), e.out.cell? ⟨pb, po, none⟩ = some (.int .i64 (pn : Nat)))
  (wi : IntKind.i64.wrap ((i : Int) - 1) = (h : Int)) (hh : h < GN) (g1 : ∀ (e : Ext W2), e.out.cell? ⟨gb, go + h, none⟩ = some (.slice (some ⟨ab, ao, none⟩) AN ac)) (hpn : pn < AN) (a0 : ∀ (e : Ext W2), e.out.cell? ⟨ab, ao + pn * 3, none⟩ = some (.string X))
  (l3 : (X.toList == ([50, 46, 53, 46, 50, 57, 46, 51, 50, 46, 48] : List UInt8)) = true) (x1 : ∀ (e : Ext W2), e.out.cell? ⟨b, o + k * 3 + 1, none⟩ = some (.slice ua un uc)) (tu : ((un : Int) != 1) = false) (tu2 : ((un : Int) == 1) = true)
  (hin : ∀ (e : Ext W2), Calls Tryz.prog 47 #[.slice ua un uc, .string ⟨#[50, 46, 53, 46, 50, 57, 46, 51, 50, 46, 48]⟩] e.out fun r w' => r = .returned (.bool IN) /\ Below e.out.heap.size e.out w')
  (hQ : ∀ (W' : World), Below W2.heap.size W2 W' -> ∀ (o121 o122 o123 o124 o125 o126 o127 o128 o129 o130 o131 o132 o133 o134 o135 o136 o137 o138 o139 o140 o141 o142 o143 o144 o145 o146 o147 o148 o149 o150 o151 o152 o153 o154 o155 o156 o157 o158 o159 o160 o161 o162 o163 o164 o165 o166 o167 : Value), Q .normal { tmps := List.toArray (.slice (some ⟨gb, go, none⟩) GN gc::a1::a2::a3::.int .i64 (i : Nat)::.slice (some ⟨b, o, none⟩) M c::a4::.int .i64 (k : Nat)::.bool true::a5::a6::a7::a8::a9::b0::b1::b2::b3::b4::b5::b6::b7::b8::b9::c0::c1::c2::c3::c4::c5::c6::c7::c8::c9::d0::d1::d2::d3::d4::d5::d6::d7::d8::d9::e0::e2::e3::e4::e5::e6::e7::e8::e9::f0::f1::f2::f3::f4::f5::f6::f7::f8::f9::g0::g2::g3::g4::g5::g6::g7::g8::g9::h0::h1::h2::h3::h4::h5::h6::h7::h8::h9::i0::i1::i2::i3::i4::i5::i6::i7::i8::i9::j0::j1::j2::j3::j4::j5::j6::j7::j8::j9::k0::k1::k2::k3::k4::k5::k6::k7::k8::k9::l0::l1::l2::l4::l5::l6::l7::l8::l9::o121::o122::o123::o124::o125::o126::o127::o128::o129::o130::o131::o132::o133::o134::o135::o136::o137::o138::o139::o140::o141::o142::o143::o144::o145::o146::o147::o148::o149::o150::o151::o152::o153::o154::o155::o156::o157::o158::o159::o160::o161::o162::o163::o164::o165::o166::o167::.bool (!IN)::m0::m1::m2::m3::m4::m5::m6::m7::m8::m9::n0::n1::n2::n3::n4::n5::n6::n7::n8::n9::o0::o1::o2::o3::o4::o5::o6::o7::o8::o9::p0::p1::p2::p3::[]), defers := [] } W') :
  (regC 17 (Tryz.f16.body.getD .skip)).wp Tryz.prog Q { tmps := List.toArray (.slice (some ⟨gb, go, none⟩) GN gc::a1::a2::a3::.int .i64 (i : Nat)::.slice (some ⟨b, o, none⟩) M c::a4::.int .i64 (k : Nat)::.bool true::a5::a6::a7::a8::a9::b0::b1::b2::b3::b4::b5::b6::b7::b8::b9::c0::c1::c2::c3::c4::c5::c6::c7::c8::c9::d0::d1::d2::d3::d4::d5::d6::d7::d8::d9::e0::e2::e3::e4::e5::e6::e7::e8::e9::f0::f1::f2::f3::f4::f5::f6::f7::f8::f9::g0::g2::g3::g4::g5::g6::g7::g8::g9::h0::h1::h2::h3::h4::h5::h6::h7::h8::h9::i0::i1::i2::i3::i4::i5::i6::i7::i8::i9::j0::j1::j2::j3::j4::j5::j6::j7::j8::j9::k0::k1::k2::k3::k4::k5::k6::k7::k8::k9::l0::l1::l2::l4::l5::l6::l7::l8::l9::p4::p5::p6::p7::p8::p9::q0::q1::q2::q3::q4::q5::q6::q7::q8::q9::r0::r1::r2::r3::r4::r5::r6::r7::r8::r9::s0::s4::s5::s7::s8::t0::t1::t2::t3::t4::t5::t6::t7::t8::t9::u0::u1::u2::u3::u4::u5::u6::m0::m1::m2::m3::m4::m5::m6::m7::m8::m9::n0::n1::n2::n3::n4::n5::n6::n7::n8::n9::o0::o1::o2::o3::o4::o5::o6::o7::o8::o9::p0::p1::p2::p3::[]), defers := [] } W2 := by
 rw [show regC 17 (Tryz.f16.body.getD .skip) = Code.region 17 _ true from rfl];refine wp_region_self (by kernel_rfl) (by kernel_rfl) ?_
 repeat (go_big_quiet_step (first | (go_at_call 47; exact ext_of (hin _))))
 refine wpQuiet_nil ?_;rintro _ ⟨e1, rfl⟩;exact hQ _ e1.bel _ _ _ _ _ _ _ _ _ _ _ _ _ _ _ _ _ _ _ _ _ _ _ _ _ _ _ _ _ _ _ _ _ _ _ _ _ _ _ _ _ _ _ _ _ _ _
theorem gval_no {G : List (List Vx)} {h : Nat} (h1 : h + 1 < G.length) (hb : lvlB G[h]! G[h + 1]! = false) : gvalidB G = false := by
 unfold gvalidB;rw [zF (by omega), Bool.false_or, Bool.and_eq_false_iff];right
 rw [List.all_eq_false];exact ⟨h, by rw [List.mem_range]; omega, by rw [hb]; simp⟩
theorem lvl_no {ab l : List Vx} {k : Nat} (hk : k < l.length) (hb : (gfitB l[k]! ab && ordB l k) = false) : lvlB ab l = false := by
 unfold lvlB;rw [Bool.and_eq_false_iff];left
 rw [List.all_eq_false];exact ⟨k, by rw [List.mem_range]; exact hk, by rw [hb]; simp⟩
theorem lvl_no2 {ab l : List Vx} {j : Nat} (hj : j < ab.length) (hb : fI l l.length j = false) : lvlB ab l = false := by
 unfold lvlB;rw [Bool.and_eq_false_iff];right
 rw [Bool.and_eq_false_iff];right
 rw [List.all_eq_false];refine ⟨j, by rw [List.mem_range]; exact hj, ?_⟩;unfold fI at hb;rw [List.take_length] at hb;rw [hb]; simp
theorem lvl_no3 {ab l : List Vx} (hb : l.length = 0) : lvlB ab l = false := by
 unfold lvlB;rw [zF (show ¬ l.length ≠ 0 by omega), Bool.false_and, Bool.and_false]
theorem lvl_yes {ab l : List Vx} (h1 : ∀ k, k < l.length -> (gfitB l[k]! ab && ordB l k) = true) (h2 : ∀ j, j < ab.length -> fI l l.length j = true) (h3 : ¬ l.length = 0) : lvlB ab l = true := by
 unfold lvlB;rw [Bool.and_eq_true, Bool.and_eq_true, List.all_eq_true, List.all_eq_true];refine ⟨fun k hk => h1 k (List.mem_range.1 hk), zT h3, fun j hj => ?_⟩;have := h2 j (List.mem_range.1 hj);unfold fI at this;rwa [List.take_length] at this
def tstB (v : Vx) (ab : List Vx) : Bool := if specV v then (!decide (v.par.length = 1) || (!specV (ab[(v.par[0]!).toNat]!) || !onlyB v.ex)) else decide (anyP ∈ v.ex)
theorem gfit_tst (v : Vx) (ab : List Vx) : gfitB v ab = (!badV v ab.length && !tstB v ab) := by
 unfold gfitB tstB;congr 1
 split
 ·cases decide (v.par.length = 1) <;> cases specV (ab[(v.par[0]!).toNat]!) <;> cases onlyB v.ex <;> rfl
 ·rfl
theorem tst1 {P1 P2 P3 : Bool} (h : true = (!P1 || P2)) : ((!P2 && !P3) && P1) = false := by cases P1 <;> cases P2 <;> cases P3 <;> simp_all
theorem tst2 {P1 P2 : Bool} (h : false = (!P1 || P2)) : P1 = true /\ P2 = false := by cases P1 <;> cases P2 <;> simp_all
theorem bad_in {v : Vx} {n : Nat} (h : badV v n = false) : ∀ p ∈ v.par, 0 <= p /\ p < (n : Int) := by
 rw [ris_bad, Bool.or_eq_false_iff, Bool.or_eq_false_iff] at h;have h2 : risB v.par n = true := by simpa using h.2.2
 unfold risB at h2;rw [Bool.and_eq_true, List.all_eq_true] at h2;intro p hp;simpa using h2.2 p hp
theorem one_in {l : List B} {a : B} (h : l.length = 1) : decide (a ∈ l) = decide (l = [a]) := by
 obtain ⟨x, rfl⟩ := List.length_eq_one_iff.1 h;by_cases e : a = x
 ·subst e; simp
 ·rw [zF (by simpa using e), zF (by intro q; simp at q; exact e q.symm)]
theorem GQ.at1' {w : World} {b o n c : Nat} {g : List Lv} (h : GQ w (.slice (some ⟨b, o, none⟩) n c) g) (W : World) (hW : Below w.heap.size w W) (k : Nat) (hk : k < g.length) : W.cell? ⟨b, o + k, none⟩ = some (g[k]).s.val := by
 obtain ⟨b', o', e, -, h⟩ := h.at1 W hW k hk;simp only [zO, Addr.mk.injEq, and_true] at e
 obtain ⟨rfl, rfl⟩ := e;exact h
theorem VQ.at3' {w : World} {b o n c : Nat} {l : List Vt} (h : VQ w (.slice (some ⟨b, o, none⟩) n c) l) (W : World) (hW : Below w.heap.size w W) (k : Nat) (hk : k < l.length) : W.cell? ⟨b, o + k * 3, none⟩ = some (.string (bstr (l[k]).n.pol)) /\ W.cell? ⟨b, o + k * 3 + 1, none⟩ = some (l[k]).u.val /\ W.cell? ⟨b, o + k * 3 + 2, none⟩ = some (l[k]).q.val := by
 obtain ⟨b', o', e, -, h⟩ := h.at3 W hW k hk;simp only [zO, Addr.mk.injEq, and_true] at e
 obtain ⟨rfl, rfl⟩ := e;exact h
theorem Ri.at' {w : World} {b o n c : Nat} {l : List Int} (h : Ri w (.slice (some ⟨b, o, none⟩) n c) l) (W : World) (hW : Below w.heap.size w W) (k : Nat) (hk : k < l.length) : W.cell? ⟨b, o + k, none⟩ = some (.int .i64 l[k]) := by
 obtain ⟨b', o', e, -, h⟩ := h.cells W hW k hk;simp only [zO, Addr.mk.injEq, and_true] at e
 obtain ⟨rfl, rfl⟩ := e;exact h
theorem rgvalid_q (w : World) (v : Value) (g : List Lv) (h : GQ w v g) (hn : g.length <= 100000) (hln : ∀ L ∈ g, L.vs.length <= 100000) :
  Calls Tryz.prog 16 #[v] w fun e w' => e = .returned (.bool (gvalidB (gxs g))) /\ Below w.heap.size w w' := by
 obtain ⟨R, hR⟩ : ∃ R, R = gvalidB (gxs g) := ⟨_, rfl⟩
 rw [<- hR];obtain ⟨ib, hib, hib0, hib1, hib2⟩ := info_parts info_boo;obtain ⟨ad, c, rfl, -⟩ := h.rd.form;have HG := Bx.mk h;have HLN := Bx.mk hln;have HGX := Bx.mk (fun k hk => gxs_at g k hk);have HR := Bx.mk hR;obtain ⟨N, hN⟩ : ∃ N, N = g.length := ⟨_, rfl⟩
 have HN := Bx.mk hN;rw [<- hN] at hn HG |-;clear h hln hR hN;by_cases hz : N = 0
 ·have HF := Bx.mk (show R = true by rw [HR.out]; unfold gvalidB; rw [gxs_len, <- HN.out, zT hz]; rfl);subst hz;go_enter Tryz.func16, Tryz.ntmps16;go_wp2_with fail
  go_ret;exact ⟨by rw [HF.out]; rfl, Below.refl _ _⟩
 have hNp : 0 < N := by omega
 have t0 : ((N : Int) == 0) = false := by simp; omega
 have hg0 : 0 < g.length := by rw [<- HN.out]; exact hNp
 obtain ⟨b, o, rfl, hbl, t00⟩ := HG.out.at1 w (Below.refl _ _) 0 hg0;have HL0 := Bx.mk (HG.out.lv g[0] (zM hg0));have HX0 := Bx.mk (HGX.out 0 hg0);obtain ⟨L0, hL0⟩ : ∃ L, L = g[0] := ⟨_, rfl⟩
 rw [<- hL0] at t00 HL0 HX0;obtain ⟨a0, c0, hs0, -⟩ := HL0.out.rd.form;rw [hs0] at t00 HL0;obtain ⟨M0, hM0⟩ : ∃ M, M = L0.vs.length := ⟨_, rfl⟩
 have HM0 := Bx.mk hM0;rw [<- hM0] at t00 HL0;simp only [Nat.add_zero] at t00
 have HNT := Bx.mk (show topB (gxs g)[0]! = false -> R = false from fun h => by
  rw [HR.out]; unfold gvalidB
  rw [gxs_len, <- HN.out, zF hz, h]; rfl)
 have HYT := Bx.mk (show topB (gxs g)[0]! = true -> (∀ h, h + 1 < N -> lvlB (gxs g)[h]! (gxs g)[h + 1]! = true) -> R = true from fun h h2 => by
  rw [HR.out]; unfold gvalidB
  rw [gxs_len, <- HN.out, zF hz, h, Bool.false_or, Bool.true_and, List.all_eq_true];intro k hk;have := List.mem_range.1 hk
  exact h2 k (by omega))
 obtain ⟨T, hT⟩ : ∃ T, T = topB (gxs g)[0]! := ⟨_, rfl⟩
 rw [<- hT] at HNT HYT;rw [HX0.out] at hT;have HT := Bx.mk hT;clear hL0 hg0 hs0 hM0 hbl hz hT HX0;have hNi : (0 : Int) < (N : Int) := by omega
 go_enter Tryz.func16, Tryz.ntmps16;go_upto_region 4 with fail
 go_cut [44] (fun cc wx => cc = .bool (!T) /\ Below w.heap.size w wx)
 case first =>
  as_aux_lemma =>
   by_cases hone : M0 = 1
   rotate_left
   ·have HF := Bx.mk (show T = false by rw [HT.out]; unfold topB; rw [vxs_len, <- HM0.out, zF hone]; rfl);refine reg4_a (by simp; omega) (by simp; omega) ?_;intro W' hb
    intros
    go_wp2_with fail
    go_meet;exact ⟨by rw [HF.out]; rfl, hb⟩
   subst hone;have h01 : 0 < L0.vs.length := by rw [<- HM0.out]; omega
   obtain ⟨b0, o0, rfl, hbl0, x0, x1, x2⟩ := HL0.out.at3 w (Below.refl _ _) 0 h01;have HA0 := Bx.mk (HL0.out.at_ L0.vs[0] (zM h01));have HE0 := Bx.mk (vxs_at L0.vs 0 h01);obtain ⟨y, hy⟩ : ∃ y, y = L0.vs[0] := ⟨_, rfl⟩
   rw [<- hy] at x0 x1 x2 HA0 HE0
   have HTOP := Bx.mk (show T = (specV y.n && (onlyB y.n.ex && decide (y.n.par.length = 0))) by
    rw [HT.out]; unfold topB; rw [vxs_len, <- HM0.out, zT rfl, Bool.true_and, HE0.out])
   obtain ⟨pa, pc, hpq, -⟩ := RqIn.form HA0.out.2.1;obtain ⟨ua, uc, hup, -⟩ := HA0.out.1.form;rw [hup] at x1;rw [hpq] at x2;simp only [Nat.zero_mul, Nat.add_zero] at x0 x1 x2
   have l3 := same_any y.n.pol;by_cases q2 : y.n.pol = anyP
   rotate_left
   ·rw [zF q2] at l3;have HF := Bx.mk (show T = false by rw [HTOP.out]; unfold specV; rw [zF q2]; rfl);have n0 := fun (e : Ext w) => (e.bel.cell (p := ⟨b0, o0, none⟩) hbl0).trans x0
    refine reg4_b n0 l3 ?_;intro W' hb
    intros
    go_wp2_with fail
    go_meet;exact ⟨by rw [HF.out]; rfl, hb⟩
   rw [zT q2] at l3;have hsm := fun W (hW : Below w.heap.size w W) u (hu : Rd W encS u [anyP]) => rsame_q W y.u.val u y.n.ex [anyP] (HA0.out.1.below hW) (.inr hu) (by have := HA0.out.2.2.1.1; omega)
   rw [hup] at hsm;by_cases q3 : y.n.ex = [anyP]
   ·have HF := Bx.mk (show decide ((y.n.par.length : Int) > 0) = !T by
     rw [HTOP.out]; unfold specV onlyB; rw [zT q2, zT q3]
     by_cases e : y.n.par.length = 0
     ·rw [e]; rfl
     ·rw [zF e, zT (by omega)]; rfl)
    simp only [zT q3] at hsm
    refine reg4_d x0 x1 x2 hbl0 l3 hsm ?_;intro W' hb
    intros
    go_wp2_with fail
    go_meet;exact ⟨by rw [HF.out], hb⟩
   ·have HF := Bx.mk (show T = false by rw [HTOP.out]; unfold onlyB; rw [zF q3]; simp);simp only [zF q3] at hsm
    refine reg4_c x0 x1 hbl0 l3 hsm ?_;intro W' hb
    intros
    go_wp2_with fail
    go_meet;exact ⟨by rw [HF.out]; rfl, hb⟩
 case rest =>
 obtain ⟨rfl, hb4⟩ := hcut;have HB4 := Bx.mk hb4;clear hb4 t00
 cases T with
 | false =>
  have HF := Bx.mk (HNT.out rfl);clear HNT HYT;go_wp2_with fail
  go_ret
  exact ⟨by rw [HF.out]; rfl, HB4.out⟩
 | true =>
 have HYT2 := Bx.mk (HYT.out rfl);clear HNT HYT HT;go_wp2_with fail
 go_loopw [4] (fun iv wr => ∃ i : Nat, 1 <= i /\ i <= N /\ iv = .int .i64 (i : Nat) /\ Bx (∀ h, h + 1 < i -> lvlB (gxs g)[h]! (gxs g)[h + 1]! = true) /\ Bx (Below w.heap.size w wr)) (fun iv _ => N - (intOf iv).toNat)
 case atStart => exact ⟨1, by omega, by omega, rfl, ⟨fun h hh => by omega⟩, HB4⟩
 case round =>
  clear HB4;obtain ⟨i, hi1, hi2, rfl, hV, hB⟩ := hrel;by_cases hlt : i < N
  ·obtain ⟨h, hih⟩ : ∃ h, i = h + 1 := ⟨i - 1, by omega⟩
   have HIH := Bx.mk hih;have hk0 : h < g.length := by rw [<- HN.out]; omega
   have hk1 : i < g.length := by rw [<- HN.out]; exact hlt
   have l0 := HG.out.at1' wr hB.out h hk0;have l1 := HG.out.at1' wr hB.out i hk1;have HVA := Bx.mk (HG.out.lv _ (zM hk0));have HVL := Bx.mk (HG.out.lv _ (zM hk1));have hla := HLN.out _ (zM hk0);have hll := HLN.out _ (zM hk1);have HXA := Bx.mk (HGX.out h hk0);have HXL := Bx.mk (HGX.out i hk1);have HNO := Bx.mk (show lvlB (gxs g)[h]! (gxs g)[i]! = false -> R = false from fun e => by rw [HR.out]; rw [hih] at e; exact gval_no (by rw [gxs_len, <- hih]; exact hk1) e);obtain ⟨A, hA⟩ : ∃ L, L = g[h]'hk0 := ⟨_, rfl⟩
   obtain ⟨L, hL⟩ : ∃ L, L = g[i]'hk1 := ⟨_, rfl⟩
   rw [<- hA] at l0 HVA hla HXA;rw [<- hL] at l1 HVL hll HXL;rw [HXA.out, HXL.out] at HNO;have HG1 := Bx.mk (fun (W : World) (hW : Below w.heap.size w W) => HG.out.at1' W hW h hk0);rw [<- hA] at HG1;obtain ⟨aa, ac, has, -⟩ := HVA.out.rd.form;obtain ⟨la, lc, hls, -⟩ := HVL.out.rd.form;rw [has] at l0 HVA HG1;rw [hls] at l1 HVL;obtain ⟨AN, hAN⟩ : ∃ n, n = A.vs.length := ⟨_, rfl⟩
   obtain ⟨M, hM⟩ : ∃ n, n = L.vs.length := ⟨_, rfl⟩
   have HAN := Bx.mk hAN;have HM := Bx.mk hM;rw [<- hAN] at l0 HVA hla HG1;rw [<- hM] at l1 HVL hll;have wi : IntKind.i64.wrap ((i : Int) - 1) = (h : Int) := by rw [IntWalk.i64_in _ (by omega)]; omega
   have hhN : h < N := by omega
   clear hA hL has hls hAN hM hk0 hk1 hih;obtain ⟨wo, hwo⟩ : ∃ wo : World, wo = wr := ⟨_, rfl⟩
   have hmk := run_makeSlice (P := Tryz.prog) wr 75 4 ib (.bool false) Tryz.underlying75 hib hib0 .i64 .i64 (AN : Nat) (AN : Nat) (by omega) (by omega) (by rw [Int.toNat_natCast, hib1]; omega) (by rw [hib2]; omega) (by omega);simp only [Int.toNat_natCast, hib1, made_marks] at hmk
   obtain ⟨qm, hqm⟩ : ∃ q, q = wr.heap.size := ⟨_, rfl⟩
   obtain ⟨W1, hW1⟩ : ∃ W1, W1 = wr.alloc (.cells (Array.replicate AN (Value.bool false)) 4) := ⟨_, rfl⟩
   have hb1 : Below wr.heap.size wr W1 := by rw [hW1]; exact (Below.refl _ _).alloc (zR _) _
   have HB1 := Bx.mk (show Below wo.heap.size wo W1 by rw [hwo]; exact hb1)
   have HM1 := Bx.mk (show MB W1 qm (mkB AN (fI (vxs L.vs) 0)) by
    have e : mkB AN (fI (vxs L.vs) 0) = List.replicate AN false := by
     unfold mkB;apply List.ext_getElem
     ·simp
     ·intro i h1 h2;simp [fI_zero]
    rw [hW1, e]; unfold MB
    rw [List.map_replicate, List.toArray_replicate]
    exact alloc_at hqm)
   have HQM := Bx.mk (show qm = wo.heap.size by rw [hqm, hwo]);have HBO := Bx.mk (show Below w.heap.size w wo by rw [hwo]; exact hB.out);clear hB hb1 hwo;go_upto_region 11 with fail
   rw [<- hW1, <- hqm];clear hmk hW1 hqm l0 l1;go_wp2_with fail
   go_loopw [7] (fun kv wx => ∃ k : Nat, k <= M /\ kv = .int .i64 k /\ Bx (MB wx qm (mkB AN (fI (vxs L.vs) k))) /\ Bx (∀ j, j < k -> (gfitB (vxs L.vs)[j]! (vxs A.vs) && ordB (vxs L.vs) j) = true) /\ Bx (Below wo.heap.size wo wx)) (fun kv _ => M - (intOf kv).toNat)
   case atStart => exact ⟨0, by omega, rfl, HM1, ⟨fun j hj => by omega⟩, HB1⟩
   case round =>
    clear HM1 HB1;obtain ⟨k, hk, rfl, hMB, hFT, hBw⟩ := hrel;by_cases hltk : k < M
    ·have HW := Bx.mk (HBO.out.trans (hBw.out.mono HBO.out.size));have hkl : k < L.vs.length := (by rw [<- HM.out]; exact hltk);obtain ⟨lb, lo, rfl, hlb, -⟩ := HVL.out.at3 w (Below.refl _ _) k hkl;have HVC := Bx.mk (fun (W : World) (hW : Below w.heap.size w W) => HVL.out.at3' W hW k hkl);have HXV := Bx.mk (HVL.out.at_ _ (zM hkl));have HXE := Bx.mk (vxs_at L.vs k hkl);obtain ⟨x, hx⟩ : ∃ x, x = L.vs[k] := ⟨_, rfl⟩
     rw [<- hx] at HVC HXV HXE;obtain ⟨pa, pc, hpq, -⟩ := RqIn.form HXV.out.2.1;obtain ⟨ua, uc, hup, -⟩ := HXV.out.1.form;obtain ⟨PN, hPN⟩ : ∃ n, n = x.n.par.length := ⟨_, rfl⟩
     obtain ⟨UN, hUN⟩ : ∃ n, n = x.n.ex.length := ⟨_, rfl⟩
     have HPN := Bx.mk hPN;have HUN := Bx.mk hUN;rw [hup, hpq, <- hPN, <- hUN] at HVC;have HPR := Bx.mk (show Ri w (.slice pa PN pc) x.n.par by rw [hPN, <- hpq]; exact HXV.out.2.1);have HUR := Bx.mk (show Rq w (.slice ua UN uc) x.n.ex by rw [hUN, <- hup]; exact HXV.out.1);have hPNb : PN <= 100000 := (by rw [hPN]; exact HXV.out.2.2.2.2);have HUF := Bx.mk (show x.n.ex.length <= 100000 by have := HXV.out.2.2.1.1; omega);obtain ⟨BA, hBA⟩ : ∃ b, b = (!ordB (vxs L.vs) k || badV x.n AN) := ⟨_, rfl⟩
     have HBA := Bx.mk hBA;obtain ⟨x0', x1', x2'⟩ := HVC.out wr HW.out;clear hx hpq hup hPN hUN hBA;go_upto_region 14 with fail
     clear x0' x1' x2';go_cut [114] (fun cc wy => cc = .bool BA /\ Below wr.heap.size wr wy)
     case first =>
      as_aux_lemma =>
       have hext := fun (e : Ext wr) => HW.out.trans (e.bel.mono HW.out.size)
       have x0 := fun (e : Ext wr) => (HVC.out e.out (hext e)).1
       have x1 := fun (e : Ext wr) => (HVC.out e.out (hext e)).2.1
       have x2 := fun (e : Ext wr) => (HVC.out e.out (hext e)).2.2
       have hasc := fun (e : Ext wr) => rasc_q e.out (.slice ua UN uc) x.n.ex (HUR.out.below (hext e)) (by have := HUF.out; omega)
       have hris := fun (e : Ext wr) => rris_any e.out (.slice pa PN pc) x.n.par (HPR.out.below (hext e)) (by have := HPN.out; omega) AN
       have hbad := ris_bad x.n AN;rw [<- HPN.out] at hbad;by_cases hk0 : k = 0
       ·have tk : decide ((k : Int) > 0) = false := zF (by omega);have tk2 : decide (0 < k) = false := zF (by omega);have hord : ordB (vxs L.vs) k = true := by unfold ordB; rw [zT hk0]; rfl
        cases hA : ascB x.n.ex with
        | false =>
         have HB := Bx.mk (show BA = true by rw [HBA.out, hbad, hA]; simp);simp only [hA] at hasc
         refine reg14_c0 hltk tk tk2 x1 hasc ?_;intro W' hb
         intros
         go_wp2_with fail
         go_meet
         exact ⟨by rw [HB.out], hb⟩
        | true =>
         simp only [hA] at hasc
         by_cases hp : PN = 0
         ·have HB := Bx.mk (show BA = true by rw [HBA.out, hbad, hA, zT hp]; simp);refine reg14_d0 hltk tk tk2 x1 hasc x2 (by simp; omega) ?_;intro W' hb
          intros
          go_wp2_with fail
          go_meet;exact ⟨by rw [HB.out], hb⟩
         ·have HB := Bx.mk (show (!risB x.n.par AN) = BA by rw [HBA.out, hord, hbad, hA, zF hp]; simp);refine reg14_e0 hltk tk tk2 x1 hasc x2 (by simp; omega) hris ?_;intro W' hb
          intros
          go_wp2_with fail
          go_meet;exact ⟨by rw [HB.out], hb⟩
       ·have tk : decide ((k : Int) > 0) = true := zT (by omega);have tk2 : decide (0 < k) = true := zT (by omega);obtain ⟨j, hkj⟩ : ∃ j, k = j + 1 := ⟨k - 1, by omega⟩
        have hjl : j < L.vs.length := (by omega);have hjM : j < M := (by omega);have wj : IntKind.i64.wrap ((k : Int) - 1) = (j : Int) := (by rw [IntWalk.i64_in _ (by omega)]; omega);have y0 := fun (e : Ext wr) => (HVL.out.at3' e.out (hext e) j hjl).1
        have hYE := vxs_at L.vs j hjl;obtain ⟨y, hy⟩ : ∃ y, y = L.vs[j]'hjl := ⟨_, rfl⟩
        rw [<- hy] at y0 hYE;have l1 := less_bytes y.n.pol x.n.pol;have l2 := less_bytes x.n.pol y.n.pol;have l3 := same_bytes y.n.pol x.n.pol
        have hord0 : ordB (vxs L.vs) k = decide (y.n.pol < x.n.pol) := by
         unfold ordB;rw [zF hk0, Bool.false_or, HXE.out, show k - 1 = j by omega, hYE]
        by_cases hc : y.n.pol < x.n.pol
        ·rw [zT hc] at l1;rw [zF (List.lt_asymm hc)] at l2;rw [zF (fun e => by rw [e] at hc; exact List.lt_irrefl _ hc)] at l3;have hord : ordB (vxs L.vs) k = true := by rw [hord0, zT hc]
         cases hA : ascB x.n.ex with
         | false =>
          have HB := Bx.mk (show BA = true by rw [HBA.out, hbad, hA]; simp);simp only [hA] at hasc
          refine reg14_c1 hltk hjM tk tk2 wj x0 y0 l1 l2 l3 x1 hasc ?_;intro W' hb
          intros
          go_wp2_with fail
          go_meet
          exact ⟨by rw [HB.out], hb⟩
         | true =>
          simp only [hA] at hasc
          by_cases hp : PN = 0
          ·have HB := Bx.mk (show BA = true by rw [HBA.out, hbad, hA, zT hp]; simp);refine reg14_d1 hltk hjM tk tk2 wj x0 y0 l1 l2 l3 x1 hasc x2 (by simp; omega) ?_;intro W' hb
           intros
           go_wp2_with fail
           go_meet;exact ⟨by rw [HB.out], hb⟩
          ·have HB := Bx.mk (show (!risB x.n.par AN) = BA by rw [HBA.out, hord, hbad, hA, zF hp]; simp);refine reg14_e1 hltk hjM tk tk2 wj x0 y0 l1 l2 l3 x1 hasc x2 (by simp; omega) hris ?_;intro W' hb
           intros
           go_wp2_with fail
           go_meet;exact ⟨by rw [HB.out], hb⟩
        ·rw [zF hc] at l1;have HB := Bx.mk (show BA = true by rw [HBA.out, hord0, zF hc]; rfl);by_cases h2 : x.n.pol < y.n.pol
         ·rw [zT h2] at l2;rw [zF (fun e => hc (by rw [e] at h2; exact absurd h2 (List.lt_irrefl _)))] at l3;refine reg14_a hltk hjM tk tk2 wj x0 y0 l1 l2 l3 ?_;intro W' hb
          intros
          go_wp2_with fail
          go_meet;exact ⟨by rw [HB.out], hb⟩
         ·rw [zF h2] at l2;rw [zT (eqB hc h2)] at l3;refine reg14_b hltk hjM tk tk2 wj x0 y0 l1 l2 l3 ?_;intro W' hb
          intros
          go_wp2_with fail
          go_meet;exact ⟨by rw [HB.out], hb⟩
     case rest =>
     obtain ⟨rfl, hb14⟩ := hcut;obtain ⟨w5, hw5⟩ : ∃ w5, w5 = wc := ⟨_, rfl⟩
     rw [<- hw5] at hb14 |-;clear hw5;have HB14 := Bx.mk hb14;have HW5 := Bx.mk (HW.out.trans (hb14.mono HW.out.size));clear hb14;have HNK := Bx.mk (fun e => HNO.out (lvl_no (k := k) (by rw [vxs_len]; exact hkl) e));rw [HXE.out, gfit_tst, vxs_len, <- HAN.out] at HNK
     cases BA with
     | true =>
      have HE := Bx.mk (show R = false from HNK.out (tst1 HBA.out));go_wp2_with fail
      go_ret
      exact ⟨by rw [HE.out]; rfl, HW5.out⟩
     | false =>
     have HOB := Bx.mk (tst2 HBA.out);have HPI := Bx.mk (bad_in HOB.out.2);obtain ⟨x0', x1', x2'⟩ := HVC.out w5 HW5.out;have l3 := same_any x.n.pol;obtain ⟨SP, hSP⟩ : ∃ s, s = specV x.n := ⟨_, rfl⟩
     rw [show decide (x.n.pol = anyP) = SP from hSP.symm] at l3;have HSP := Bx.mk hSP;obtain ⟨BB, hBB⟩ : ∃ s, s = tstB x.n (vxs A.vs) := ⟨_, rfl⟩
     have HBB := Bx.mk hBB;rw [<- hBB] at HNK;clear HBA hSP hBB;go_upto_region 17 with fail
     clear x0' x1' x2' l3;go_cut [168] (fun cc wy => cc = .bool BB /\ Below w5.heap.size w5 wy)
     case first =>
      as_aux_lemma =>
       have hext := fun (e : Ext w5) => HW5.out.trans (e.bel.mono HW5.out.size)
       have x1 := fun (e : Ext w5) => (HVC.out e.out (hext e)).2.1
       have x2 := fun (e : Ext w5) => (HVC.out e.out (hext e)).2.2
       have hin : ∀ (e : Ext w5), Calls Tryz.prog 47 #[.slice ua UN uc, .string ⟨#[50, 46, 53, 46, 50, 57, 46, 51, 50, 46, 48]⟩] e.out fun r w' => r = .returned (.bool (decide (anyP ∈ x.n.ex))) /\ Below e.out.heap.size e.out w' := fun e =>
        (in_q e.out (.slice ua UN uc) x.n.ex anyP (HUR.out.below (hext e)) (by have := HUF.out; omega)).mono fun _ _ ⟨a, b⟩ => ⟨a, by rw [<- b]; exact Below.refl _ _⟩
       have htst := HBB.out;unfold tstB at htst;rw [<- HSP.out, <- HPN.out] at htst
       cases SP with
       | false =>
        have HB := Bx.mk (show decide (anyP ∈ x.n.ex) = BB by rw [htst]; rfl);refine reg17_a hltk x1 hin ?_;intro W' hb
        intros
        go_wp2_with fail
        go_meet
        exact ⟨by rw [HB.out], hb⟩
       | true =>
        by_cases hp1 : PN = 1
        rotate_left
        ·have HB := Bx.mk (show BB = true by rw [htst, zF hp1]; rfl);refine reg17_b hltk x2 (by simp; omega) (by simp; omega) ?_;intro W' hb
         intros
         go_wp2_with fail
         go_meet;exact ⟨by rw [HB.out], hb⟩
        have h0l : 0 < x.n.par.length := (by rw [<- HPN.out]; omega);obtain ⟨pb, po, rfl, -, -⟩ := HPR.out.cells w (Below.refl _ _) 0 h0l;have hp0 := HPI.out _ (zM h0l);obtain ⟨pn, hpn⟩ : ∃ p : Nat, x.n.par[0] = (p : Int) := ⟨(x.n.par[0]).toNat, by omega⟩
        have x3 := fun (e : Ext w5) => HPR.out.at' e.out (hext e) 0 h0l
        simp only [Nat.add_zero, hpn] at x3
        rw [hpn] at hp0;have hpA : pn < AN := (by omega);have hpl : pn < A.vs.length := (by rw [<- HAN.out]; exact hpA);obtain ⟨ab, ao, rfl, -, -⟩ := HVA.out.at3 w (Below.refl _ _) pn hpl;have g1 := fun (e : Ext w5) => HG1.out e.out (hext e)
        have a0 := fun (e : Ext w5) => (HVA.out.at3' e.out (hext e) pn hpl).1
        have hYE := vxs_at A.vs pn hpl;obtain ⟨y, hy⟩ : ∃ y, y = A.vs[pn]'hpl := ⟨_, rfl⟩
        rw [<- hy] at a0 hYE;have l3 := same_any y.n.pol
        have hsy : specV (vxs A.vs)[(x.n.par[0]!).toNat]! = decide (y.n.pol = anyP) := by
         rw [getElem!_pos x.n.par 0 h0l, hpn, Int.toNat_natCast, hYE]; rfl
        rw [hsy, zT hp1] at htst;subst hp1;by_cases hs : y.n.pol = anyP
        rotate_left
        ·rw [zF hs] at l3;have HB := Bx.mk (show BB = true by rw [htst, zF hs]; rfl);refine reg17_c hltk x2 x3 wi hhN g1 hpA a0 l3 ?_;intro W' hb
         intros
         go_wp2_with fail
         go_meet;exact ⟨by rw [HB.out], hb⟩
        rw [zT hs] at l3 htst;by_cases hu1 : UN = 1
        rotate_left
        ·have HB := Bx.mk (show BB = true by
          rw [htst]; unfold onlyB
          rw [zF (fun e => hu1 (by rw [HUN.out, e]; rfl))]; rfl)
         refine reg17_d hltk x2 x3 wi hhN g1 hpA a0 l3 x1 (by simp; omega) (by simp; omega) ?_;intro W' hb
         intros
         go_wp2_with fail
         go_meet;exact ⟨by rw [HB.out], hb⟩
        have HB := Bx.mk (show (!decide (anyP ∈ x.n.ex)) = BB by
         rw [htst, one_in (by rw [<- HUN.out]; exact hu1)]; rfl)
        refine reg17_e hltk x2 x3 wi hhN g1 hpA a0 l3 x1 (by simp; omega) (by simp; omega) hin ?_;intro W' hb
        intros
        go_wp2_with fail
        go_meet;exact ⟨by rw [HB.out], hb⟩
     case rest =>
     obtain ⟨rfl, hb17⟩ := hcut;obtain ⟨w7, hw7⟩ : ∃ w7, w7 = wc := ⟨_, rfl⟩
     rw [<- hw7] at hb17 |-;clear hw7;have HB17 := Bx.mk (HB14.out.trans (hb17.mono HB14.out.size));have HW7 := Bx.mk (HW5.out.trans (hb17.mono HW5.out.size));clear hb17
     cases BB with
     | true =>
      have HE := Bx.mk (show R = false from HNK.out (by simp));go_wp2_with fail
      go_ret
      exact ⟨by rw [HE.out]; rfl, HW7.out⟩
     | false =>
     have HM7 := Bx.mk (show MB w7 qm (mkB AN (fN (vxs L.vs) k x.n.par 0)) by
      rw [mkB_cong (fun r => fN_zero _ _ _ r)]
      exact (HB17.out.block qm (lt_of_some hMB.out)).trans hMB.out)
     have HB7 := Bx.mk (hBw.out.trans (HB17.out.mono hBw.out.size))
     have HFT2 := Bx.mk (show ∀ j, j < k + 1 -> (gfitB (vxs L.vs)[j]! (vxs A.vs) && ordB (vxs L.vs) j) = true from fun j hj => by
      rcases Nat.lt_or_ge j k with e | e
      ·exact hFT.out j e
      ·obtain rfl : j = k := by omega
       rw [HXE.out, gfit_tst, vxs_len, <- HAN.out, HOB.out.1, HOB.out.2, <- HBB.out]; rfl)
     clear hMB hBw hFT HB14 HB17 HNK HSP HBB;go_wp2_with fail
     go_loopw [9] (fun nv wy => ∃ n : Nat, n <= PN /\ nv = .int .i64 n /\ Bx (MB wy qm (mkB AN (fN (vxs L.vs) k x.n.par n))) /\ Bx (Below wo.heap.size wo wy)) (fun nv _ => PN - (intOf nv).toNat)
     case atStart => exact ⟨0, by omega, rfl, HM7, HB7⟩
     case round =>
      clear HM7 HB7;obtain ⟨n, hn2, rfl, hM3, hB3⟩ := hrel;have HW9 := Bx.mk (HBO.out.trans (hB3.out.mono HBO.out.size));obtain ⟨-, -, x2'⟩ := HVC.out wr HW9.out;by_cases hlt3 : n < PN
      ·have hnl : n < x.n.par.length := by rw [<- HPN.out]; exact hlt3
       obtain ⟨b4, o4, rfl, -, d0⟩ := HPR.out.cells wr HW9.out n hnl;have hpi := HPI.out _ (zM hnl);obtain ⟨p, hp⟩ : ∃ p : Nat, x.n.par[n] = (p : Int) := ⟨(x.n.par[n]).toNat, by omega⟩
       have HFS := Bx.mk (fun r => fN_succ (vxs L.vs) k x.n.par n hnl p hp r);rw [hp] at d0 hpi;have hpl : p < AN := (by omega);have z1 := Go.Proofs.YtmagjdocondmhaaGreat.Rg.frozen_row (i := p) hM3.out;have mc := hM3.out.cell p (by rw [mkB_len]; exact hpl);obtain ⟨W5, hW5⟩ : ∃ W5, W5 = wr.setCell ⟨qm, p, none⟩ (.bool true) := ⟨_, rfl⟩
       have HM5 := Bx.mk (show MB W5 qm (mkB AN (fN (vxs L.vs) k x.n.par (n + 1))) by
        have := hM3.out.set p true;rw [mkB_set HFS.out] at this
        rw [hW5]; exact this)
       have HB5 := Bx.mk (show Below wo.heap.size wo W5 by
        rw [hW5]
        exact hB3.out.setCell (by show wo.heap.size <= qm; have := HQM.out; omega) _)
       have HW5' := Bx.mk hW5;clear hp hpi hnl hW5;go_wp2_with fail
       rw [<- HW5'.out];go_roundw
       case rel => exact ⟨n + 1, by omega, by go_num, HM5, HB5⟩
       case measure => simp [intOf]; omega
      ·obtain rfl : n = PN := by omega
       have HME := Bx.mk (show MB wr qm (mkB AN (fI (vxs L.vs) (k + 1))) by
        have := hM3.out;rw [HPN.out, <- HXE.out] at this
        rwa [mkB_cong (fun r => fN_all (vxs L.vs) k (by rw [vxs_len]; exact hkl) r)])
       go_wp2_with fail
       go_roundw
       case rel => exact ⟨k + 1, by omega, by go_num, HME, HFT2, hB3⟩
       case measure => simp [intOf]; omega
    ·obtain rfl : k = M := by omega
     go_wp2_with fail
     go_loopw [10] (fun nv wx => ∃ n : Nat, n <= AN /\ nv = .int .i64 n /\ Bx (MB wx qm (mkB AN (fI (vxs L.vs) k))) /\ Bx (∀ j, j < n -> fI (vxs L.vs) k j = true) /\ Bx (Below wo.heap.size wo wx)) (fun nv _ => AN - (intOf nv).toNat)
     case atStart => exact ⟨0, by omega, rfl, hMB, ⟨fun j hj => by omega⟩, hBw⟩
     case round =>
      clear hMB hBw;obtain ⟨n, hn2, rfl, hMB, hKD, hBw⟩ := hrel;by_cases hltn : n < AN
      ·have mc := hMB.out.cell n (by rw [mkB_len]; exact hltn)
       rw [show (mkB AN (fI (vxs L.vs) k))[n]! = fI (vxs L.vs) k n by
        rw [getElem!_pos _ n (by rw [mkB_len]; exact hltn)]; simp [mkB]] at mc
       obtain ⟨F, hF⟩ : ∃ F, F = fI (vxs L.vs) k n := ⟨_, rfl⟩
       rw [<- hF] at mc;have HF := Bx.mk hF;clear hF
       cases F with
       | true =>
        have HK2 := Bx.mk (show ∀ j, j < n + 1 -> fI (vxs L.vs) k j = true from fun j hj => by
         rcases Nat.lt_or_ge j n with e | e
         ·exact hKD.out j e
         ·obtain rfl : j = n := by omega
          exact HF.out.symm)
        go_wp2_with fail
        go_roundw
        case rel => exact ⟨n + 1, by omega, by go_num, hMB, HK2, hBw⟩
        case measure => simp [intOf]; omega
       | false =>
        have HE := Bx.mk (show R = false from HNO.out (lvl_no2 (j := n) (by rw [vxs_len, <- HAN.out]; exact hltn) (by rw [vxs_len, <- HM.out]; exact HF.out.symm)));go_wp2_with fail
        go_ret;exact ⟨by rw [HE.out]; rfl, HBO.out.trans (hBw.out.mono HBO.out.size)⟩
      ·obtain rfl : n = AN := by omega
       by_cases hM0 : k = 0
       ·have HE := Bx.mk (show R = false from HNO.out (lvl_no3 (by rw [vxs_len, <- HM.out]; exact hM0)));have tm : ((k : Int) == 0) = true := (by simp; omega);clear hM0;go_wp2_with fail
        go_ret;exact ⟨by rw [HE.out]; rfl, HBO.out.trans (hBw.out.mono HBO.out.size)⟩
       ·have HV2 := Bx.mk (show ∀ h', h' + 1 < i + 1 -> lvlB (gxs g)[h']! (gxs g)[h' + 1]! = true from fun h' hh => by
         have hih := HIH.out;rcases Nat.lt_or_ge h' h with e | e
         ·exact hV.out h' (by omega)
         ·obtain rfl : h' = h := by omega
          rw [<- hih, HXA.out, HXL.out]
          exact lvl_yes (fun j hj => hFT.out j (by rw [vxs_len, <- HM.out] at hj; exact hj)) (fun j hj => by rw [vxs_len, <- HM.out]; exact hKD.out j (by rw [vxs_len, <- HAN.out] at hj; exact hj)) (by rw [vxs_len, <- HM.out]; exact hM0))
        have tm : ((k : Int) == 0) = false := (by simp; omega);have HB9 := Bx.mk (HBO.out.trans (hBw.out.mono HBO.out.size));clear hM0;go_wp2_with fail
        go_roundw
        case rel => exact ⟨i + 1, by omega, by omega, by go_num, HV2, HB9⟩
        case measure => simp [intOf]; omega
  ·obtain rfl : i = N := by omega
   have HE := Bx.mk (show R = true from HYT2.out hV.out);go_wp2_with fail
   go_ret;exact ⟨by rw [HE.out]; rfl, hB.out⟩
end Go.Proofs.YtmagjdocondmhaaGreat.Tr.Gr
namespace Go.Proofs.YtmagjdocondmhaaGreat.Tr
open Go Go.RowKit Slc St Mp Rg
attribute [local go_sem] Oper.semAt_some
def sK (l : List (B × B)) (k : Nat) : List B := ((l.take k).filter okM).map (·.1)
theorem sK_succ (l : List (B × B)) (k : Nat) (hk : k < l.length) : sK l (k + 1) = sK l k ++ if okM l[k] then [l[k].1] else [] := by
 unfold sK;rw [zA hk, List.filter_append, List.map_append]
 cases h : okM l[k] <;> simp [List.filter_cons, h]
theorem sK_all (l : List (B × B)) : setB (sK l l.length) = srcL l := by unfold sK srcL; rw [List.take_length]
theorem sources_any (w : World) (v : Value) (l : List (B × B)) (h : Rd w encP v l) (hn : l.length <= 100000) :
  Calls Tryz.prog 66 #[v] w fun e w' => ∃ v', e = .returned v' /\ Slc.Own w' w.heap.size 9 1 encS v' (srcL l) /\ Below w.heap.size w w' := by
 obtain ⟨i0, hi0, hz0, hz1, hz2⟩ := info_parts info_str;obtain ⟨ad, c, rfl, -⟩ := h.form;have HC := Bx.mk (maps_cells h).2;obtain ⟨N, hN⟩ : ∃ N, N = l.length := ⟨_, rfl⟩
 have HN := Bx.mk hN;rw [<- hN] at hn |-;clear h hN;go_enter Tryz.func66, Tryz.ntmps66;go_wp2_with fail
 go_loopw [3, 4] (fun ov i wr => ∃ (k : Nat) (out : List B), k <= N /\ i = .int .i64 k /\ out.length <= k /\ Bx (GS w w.heap.size wr ov out) /\ Bx (out = sK l k)) (fun _ i _ => N - (intOf i).toNat)
 case atStart => exact ⟨0, [], by omega, rfl, by simp, ⟨GS.nil w _ (zR _)⟩, ⟨by simp [sK, gK]⟩⟩
 case round =>
  obtain ⟨k, out, hk, rfl, hlen, hG, hF⟩ := hrel;obtain ⟨av, cv, rfl, -⟩ := hG.out.form;have hb0 : Below w.heap.size w wr := hG.out.bel;by_cases hlt : k < N
  ·have hkl : k < l.length := by rw [<- HN.out]; exact hlt
   obtain ⟨b, o, rfl, hbl, c0, c1⟩ := HC.out wr hb0 k hkl;have HKS := Bx.mk (sK_succ l k hkl);obtain ⟨x, hx⟩ : ∃ x, x = l[k] := ⟨_, rfl⟩
   rw [<- hx] at c0 c1 HKS;obtain ⟨R, hR⟩ : ∃ R, R = (okM x) := ⟨_, rfl⟩
   rw [<- hR] at HKS;have HR := Bx.mk hR;have l0 := same_any x.1;have l1 := same_any x.2;clear hx hkl hbl hR hb0;go_upto_region 5 with fail
   go_cut [24] (fun c wx => c = .bool R /\ wx = wr)
   case first =>
    have HR1 := Bx.mk (show R = okM x from HR.out);by_cases q0 : x.1 = anyP
    ·rw [zT q0] at l0;have HRR := Bx.mk (show R = false by rw [HR1.out]; unfold okM; rw [q0]; simp);generalize bstr x.1 = X at *;clear q0;go_wp2_with fail
     go_meet;exact ⟨by rw [HRR.out], rfl⟩
    ·rw [zF q0] at l0;by_cases q1 : x.2 = anyP
     ·rw [zT q1] at l1;have HRR := Bx.mk (show R = false by rw [HR1.out]; unfold okM; rw [q1]; simp);generalize bstr x.1 = X at *;generalize bstr x.2 = Y at *;clear q0 q1;go_wp2_with fail
      go_meet;exact ⟨by rw [HRR.out], rfl⟩
     ·rw [zF q1] at l1;have HRR := Bx.mk (show R = true by rw [HR1.out]; unfold okM; simp [q0, q1]);generalize bstr x.1 = X at *;generalize bstr x.2 = Y at *;clear q0 q1;go_wp2_with fail
      go_meet;exact ⟨by rw [HRR.out], rfl⟩
   case rest =>
    obtain ⟨rfl, hwc⟩ := hcut;subst hwc;clear l0 l1
    cases R with
    | true =>
     have HSRC := Bx.mk (src_str wc x.1);have HOWN := Bx.mk (show Slc.Own (wc.alloc (.cells #[.string (bstr x.1)] 9)) w.heap.size 9 1 encS (.slice av out.length cv) out from hG.out.own.below ((Below.refl _ _).alloc (zR _) _));have HG3 := Bx.mk (hG.out.below (show Below wc.heap.size wc (wc.alloc (.cells #[.string (bstr x.1)] 9)) from (Below.refl _ _).alloc (zR _) _));have hm1 : out.length + 1 <= maxLen := (by unfold maxLen; omega);have hm2 : (out.length + 1) * 16 <= 140737488355328 := (by omega);have hbz : w.heap.size <= (wc.alloc (.cells #[.string (bstr x.1)] 9)).heap.size := HG3.out.sz;go_wp2_with (at_builtin; refine wpList_append_any rfl _ _ _ rfl w.heap.size 9 i0 _ 1 16 und_strs hi0 hz0 hz1 hz2 rfl (by decide) _ out.length (out.flatMap encS) rfl HOWN.out _ 1 ([x.1].flatMap encS) rfl HSRC.out hm1 hm2 hbz ?_)
     intro v9 w9 hapd;have HG9 := Bx.mk (HG3.out.apd (m := [x.1]) hapd);have HF9 := Bx.mk (show out ++ [x.1] = sK l (k + 1) by rw [HKS.out, hF.out]; rfl);clear hapd hm1 hm2 hbz;go_wp2_with fail
     go_roundw
     case rel => exact ⟨k + 1, out ++ [x.1], by omega, by go_num, by simp; omega, HG9, HF9⟩
     case measure => simp [intOf]; omega
    | false =>
     have HF9 := Bx.mk (show out = sK l (k + 1) by rw [HKS.out, hF.out]; simp);go_wp2_with fail
     go_roundw
     case rel => exact ⟨k + 1, out, by omega, by go_num, by omega, hG, HF9⟩
     case measure => simp [intOf]; omega
  ·obtain rfl : k = N := by omega
   have hset := rset_any wr _ out hG.out.own.rd (by omega);have HF2 := Bx.mk (show srcL l = setB out by rw [hF.out, HN.out]; exact (sK_all l).symm);clear hF;have HBW := Bx.mk hb0;clear hb0;go_wp2_with fail
   go_at_call 54;refine hset.mono ?_;rintro e w2 ⟨v2, rfl, ho, hb2⟩;obtain ⟨a2, c2, rfl, -⟩ := ho.rd.form;have HO := Bx.mk ho;have HB2 := Bx.mk hb2;clear hset ho hb2;go_wp2_with fail
   go_ret;refine ⟨_, rfl, ?_, HBW.out.trans (HB2.out.mono HBW.out.size)⟩;rw [HF2.out];exact HO.out.mono HBW.out.size
theorem subjects_any (w : World) (v : Value) (l : List (B × B)) (p : B) (h : Rd w encP v l) (hn : l.length <= 100000) :
  Calls Tryz.prog 67 #[v, .string (bstr p)] w fun e w' => ∃ v', e = .returned v' /\ Slc.Own w' w.heap.size 9 1 encS v' (subL l p) /\ Below w.heap.size w w' := by
 obtain ⟨i0, hi0, hz0, hz1, hz2⟩ := info_parts info_str;obtain ⟨ad, c, rfl, -⟩ := h.form;have HC := Bx.mk (maps_cells h).2;obtain ⟨N, hN⟩ : ∃ N, N = l.length := ⟨_, rfl⟩
 have HN := Bx.mk hN;rw [<- hN] at hn |-;clear h hN;obtain ⟨P, hP⟩ : ∃ P, P = bstr p := ⟨_, rfl⟩
 have HP := Bx.mk hP;rw [<- hP];clear hP;go_enter Tryz.func67, Tryz.ntmps67;go_wp2_with fail
 go_loopw [5, 6] (fun ov i wr => ∃ (k : Nat) (out : List B), k <= N /\ i = .int .i64 k /\ out.length <= k /\ Bx (GS w w.heap.size wr ov out) /\ Bx (out = gK l k p)) (fun _ i _ => N - (intOf i).toNat)
 case atStart => exact ⟨0, [], by omega, rfl, by simp, ⟨GS.nil w _ (zR _)⟩, ⟨by simp [sK, gK]⟩⟩
 case round =>
  obtain ⟨k, out, hk, rfl, hlen, hG, hF⟩ := hrel;obtain ⟨av, cv, rfl, -⟩ := hG.out.form;have hb0 : Below w.heap.size w wr := hG.out.bel;by_cases hlt : k < N
  ·have hkl : k < l.length := by rw [<- HN.out]; exact hlt
   obtain ⟨b, o, rfl, hbl, c0, c1⟩ := HC.out wr hb0 k hkl;have HKS := Bx.mk (gK_succ l k hkl p);obtain ⟨x, hx⟩ : ∃ x, x = l[k] := ⟨_, rfl⟩
   rw [<- hx] at c0 c1 HKS;obtain ⟨R, hR⟩ : ∃ R, R = (decide (x.1 = p) && okM x) := ⟨_, rfl⟩
   rw [<- hR] at HKS;have HR := Bx.mk hR;have l0 := same_any x.1;have l1 := same_any x.2;have l2 := same_bytes x.1 p;rw [<- HP.out] at l2;clear hx hkl hbl hR hb0;go_upto_region 5 with fail
   go_cut [35] (fun c wx => c = .bool R /\ wx = wr)
   case first =>
    by_cases q2 : x.1 = p
    ·rw [zT q2] at l2;have HR1 := Bx.mk (show R = okM x by rw [HR.out, zT q2, Bool.true_and]);clear q2;by_cases q0 : x.1 = anyP
     ·rw [zT q0] at l0;have HRR := Bx.mk (show R = false by rw [HR1.out]; unfold okM; rw [q0]; simp);generalize bstr x.1 = X at *;clear q0;go_wp2_with fail
      go_meet;exact ⟨by rw [HRR.out], rfl⟩
     ·rw [zF q0] at l0;by_cases q1 : x.2 = anyP
      ·rw [zT q1] at l1;have HRR := Bx.mk (show R = false by rw [HR1.out]; unfold okM; rw [q1]; simp);generalize bstr x.1 = X at *;generalize bstr x.2 = Y at *;clear q0 q1;go_wp2_with fail
       go_meet;exact ⟨by rw [HRR.out], rfl⟩
      ·rw [zF q1] at l1;have HRR := Bx.mk (show R = true by rw [HR1.out]; unfold okM; simp [q0, q1]);generalize bstr x.1 = X at *;generalize bstr x.2 = Y at *;clear q0 q1;go_wp2_with fail
       go_meet;exact ⟨by rw [HRR.out], rfl⟩
    ·rw [zF q2] at l2;have HRR := Bx.mk (show R = false by rw [HR.out, zF q2, Bool.false_and]);generalize bstr x.1 = X at *;clear q2;go_wp2_with fail
     go_meet;exact ⟨by rw [HRR.out], rfl⟩
   case rest =>
    obtain ⟨rfl, hwc⟩ := hcut;subst hwc;clear l0 l1 l2
    cases R with
    | true =>
     have HSRC := Bx.mk (src_str wc x.2);have HOWN := Bx.mk (show Slc.Own (wc.alloc (.cells #[.string (bstr x.2)] 9)) w.heap.size 9 1 encS (.slice av out.length cv) out from hG.out.own.below ((Below.refl _ _).alloc (zR _) _));have HG3 := Bx.mk (hG.out.below (show Below wc.heap.size wc (wc.alloc (.cells #[.string (bstr x.2)] 9)) from (Below.refl _ _).alloc (zR _) _));have hm1 : out.length + 1 <= maxLen := (by unfold maxLen; omega);have hm2 : (out.length + 1) * 16 <= 140737488355328 := (by omega);have hbz : w.heap.size <= (wc.alloc (.cells #[.string (bstr x.2)] 9)).heap.size := HG3.out.sz;go_wp2_with (at_builtin; refine wpList_append_any rfl _ _ _ rfl w.heap.size 9 i0 _ 1 16 und_strs hi0 hz0 hz1 hz2 rfl (by decide) _ out.length (out.flatMap encS) rfl HOWN.out _ 1 ([x.2].flatMap encS) rfl HSRC.out hm1 hm2 hbz ?_)
     intro v9 w9 hapd;have HG9 := Bx.mk (HG3.out.apd (m := [x.2]) hapd);have HF9 := Bx.mk (show out ++ [x.2] = gK l (k + 1) p by rw [HKS.out, hF.out]; rfl);clear hapd hm1 hm2 hbz;go_wp2_with fail
     go_roundw
     case rel => exact ⟨k + 1, out ++ [x.2], by omega, by go_num, by simp; omega, HG9, HF9⟩
     case measure => simp [intOf]; omega
    | false =>
     have HF9 := Bx.mk (show out = gK l (k + 1) p by rw [HKS.out, hF.out]; simp);go_wp2_with fail
     go_roundw
     case rel => exact ⟨k + 1, out, by omega, by go_num, by omega, hG, HF9⟩
     case measure => simp [intOf]; omega
  ·obtain rfl : k = N := by omega
   have hset := rset_any wr _ out hG.out.own.rd (by omega);have HF2 := Bx.mk (show subL l p = setB out by rw [hF.out, HN.out]; exact (gK_all l p).symm);clear hF;have HBW := Bx.mk hb0;clear hb0;go_wp2_with fail
   go_at_call 54;refine hset.mono ?_;rintro e w2 ⟨v2, rfl, ho, hb2⟩;obtain ⟨a2, c2, rfl, -⟩ := ho.rd.form;have HO := Bx.mk ho;have HB2 := Bx.mk hb2;clear hset ho hb2;go_wp2_with fail
   go_ret;refine ⟨_, rfl, ?_, HBW.out.trans (HB2.out.mono HBW.out.size)⟩;rw [HF2.out];exact HO.out.mono HBW.out.size
end Go.Proofs.YtmagjdocondmhaaGreat.Tr
namespace Go.Proofs.YtmagjdocondmhaaGreat.Tr
open Go Go.RowKit Slc St Mp Rg
attribute [local go_sem] Oper.semAt_some
end Go.Proofs.YtmagjdocondmhaaGreat.Tr
namespace Go.Proofs.YtmagjdocondmhaaGreat.Tr.Gr
open Go Go.RowKit Slc St Mp Tr Rg
structure LQ (l : List Vx) : Prop where
 ord : OrdP l
 ex : ∀ v ∈ l, ascB v.ex = true
 ns : ∀ v ∈ l, specV v = false -> anyP ∉ v.ex
theorem valid_lq {g : List (List Vx)} (h : gvalidB g = true) {k : Nat} (hk : k < g.length) : LQ g[k]! := by
 have hp := valid_pv h
 cases k with
 | zero =>
  obtain ⟨v, hv, -, ho, hs⟩ := gvalid_top h hk;rw [hv];refine ⟨List.pairwise_singleton _ _, fun u hu => ?_, fun u hu hs' => ?_⟩
  ·rw [zS] at hu; subst hu
   have : u.ex = [anyP] := of_decide_eq_true ho;rw [this]; rfl
  ·rw [zS] at hu; subst hu; rw [hs] at hs'; cases hs'
 | succ k => exact ⟨hp.ord (k + 1), fun v hv => (hp.fit k hk v hv).ex, fun v hv => (hp.fit k hk v hv).ns⟩
theorem exJ_succ (l : List Vx) (k : Nat) (p : B) : exJ l (k + 1) p = exJ l k p ++ ((l[k]!).ex.filter fun q => decide (q = p)).map fun _ => (k : Int) := by
 unfold exJ;rw [List.range_succ, List.flatMap_append]; simp
theorem filt_one {l : List B} (h : l.Pairwise (· < ·)) (p : B) : (l.filter fun q => decide (q = p)) = if p ∈ l then [p] else [] := by
 induction l with
 | nil => simp
 | cons x l ih =>
  rw [List.pairwise_cons] at h;rw [List.filter_cons, ih h.2];by_cases e : x = p
  ·subst e;have : x ∉ l := fun hm => ltB_irr _ (h.1 x hm)
   simp [this]
  ·have e' : ¬ p = x := fun q => e q.symm
   simp [e, e']
theorem ascB_pw {l : List B} (h : ascB l = true) : l.Pairwise (· < ·) := (ascB_iff.1 h).1
theorem exJ_one {l : List Vx} (h : LQ l) {k : Nat} (hk : k < l.length) (p : B) : exJ l (k + 1) p = exJ l k p ++ if p ∈ (l[k]!).ex then [(k : Int)] else [] := by
 rw [exJ_succ, filt_one (ascB_pw (h.ex _ (by rw [getElem!_pos l k hk]; exact zM hk)))];split <;> simp
theorem exJ_asc {l : List Vx} (h : LQ l) (p : B) : ∀ k, k <= l.length -> (exJ l k p).Pairwise (· < ·)
 | 0, _ => by rw [exJ_zero]; exact List.Pairwise.nil
 | k + 1, hk => by
  rw [exJ_one h (by omega)];refine List.pairwise_append.2 ⟨exJ_asc h p k (by omega), ?_, fun a ha b hb => ?_⟩
  ·split
   ·exact List.pairwise_singleton _ _
   ·exact List.Pairwise.nil
  ·have := exJ_range l k p a ha;split at hb
   ·rw [zS] at hb; omega
   ·cases hb
theorem exJ_has {l : List Vx} {k : Nat} {p : B} {i : Int} (h : i ∈ exJ l k p) : ∃ j, j < k /\ i = (j : Int) /\ p ∈ (l[j]!).ex := by
 unfold exJ at h;obtain ⟨j, hj, h⟩ := List.mem_flatMap.1 h;obtain ⟨q, hq, rfl⟩ := List.mem_map.1 h;obtain ⟨h1, h2⟩ := List.mem_filter.1 hq;rw [decide_eq_true_eq] at h2;subst h2;exact ⟨j, List.mem_range.1 hj, rfl, h1⟩
theorem parF_asc {l : List Vx} (h : LQ l) (ps : List B) (cnt : Bool) (p : B) : (parF l ps cnt p).Pairwise (· < ·) := by
 have h1 : (exI l p).Pairwise (· < ·) := exJ_asc h p l.length (zR _);unfold parF;split
 ·exact h1
 ·split
  ·split
   ·exact h1
   ·split
    ·exact List.pairwise_singleton _ _
    ·exact List.Pairwise.nil
  ·exact List.Pairwise.nil
theorem ord_one {l : List Vx} (h : OrdP l) {i j : Nat} (hi : i < l.length) (hj : j < l.length) (he : (l[i]!).pol = (l[j]!).pol) : i = j := by
 rw [getElem!_pos l i hi, getElem!_pos l j hj] at he;have h2 := List.pairwise_iff_getElem.1 h;rcases Nat.lt_trichotomy i j with q | q | q
 ·have := h2 i j hi hj q;rw [he] at this; exact absurd this (ltB_irr _)
 ·exact q
 ·have := h2 j i hj hi q;rw [he] at this; exact absurd this (ltB_irr _)
theorem asc_same {l : List Int} (h : l.Pairwise (· < ·)) (hs : ∀ x ∈ l, ∀ y ∈ l, x = y) : l.length <= 1 := by
 match l, h with
 | [], _ => simp
 | [x], _ => simp
 | x :: y :: r, h =>
  rw [List.pairwise_cons] at h;have h1 := h.1 y (by simp);have h2 := hs x (by simp) y (by simp);omega
theorem levP_ord (l : List Vx) (ps : List B) (cnt : Bool) : OrdP (levP l ps cnt) := by
 unfold levP OrdP;rw [List.pairwise_map];exact keyL_asc l ps cnt
theorem levP_fit {l : List Vx} (h : LQ l) (ps : List B) (cnt : Bool) : ∀ v ∈ levP l ps cnt, FitP v l := by
 intro v hv;unfold levP at hv;obtain ⟨p, hp, rfl⟩ := List.mem_map.1 hv;refine ⟨rfl, parF_asc h ps cnt p, parF_range l ps cnt p, fun hs => ?_, fun hs => ?_⟩
 ·have e : p = anyP := of_decide_eq_true hs;subst e
  have hpar : ∀ i ∈ parF l ps cnt anyP, ∃ j, j < l.length /\ i = (j : Int) /\ specV l[j]! = true := fun i hi => by
   have : i ∈ exI l anyP := by
    unfold parF at hi;split at hi
    ·exact hi
    ·simp at hi
   obtain ⟨j, h1, h2, h3⟩ := exJ_has this;refine ⟨j, h1, h2, ?_⟩
   cases hsp : specV l[j]! with
   | true => rfl
   | false => exact absurd h3 (h.ns _ (by rw [getElem!_pos l j h1]; exact zM h1) hsp)
  refine ⟨asc_same (parF_asc h ps cnt anyP) fun x hx y hy => ?_, fun i hi => ?_, rfl⟩
  ·obtain ⟨a, a1, rfl, a3⟩ := hpar x hx;obtain ⟨b, b1, rfl, b3⟩ := hpar y hy;have e1 : (l[a]!).pol = anyP := of_decide_eq_true a3;have e2 : (l[b]!).pol = anyP := of_decide_eq_true b3;rw [ord_one h.ord a1 b1 (by rw [e1, e2])]
  ·obtain ⟨j, -, rfl, h3⟩ := hpar i hi;rw [Int.toNat_natCast]; exact h3
 ·simp only [lvV, zS]
  intro e;have : specV (lvV (parF l ps cnt) p) = true := zT e.symm;rw [hs] at this; cases this
theorem PV.snoc {g : List (List Vx)} (h : PV g) (hg : 0 < g.length) {l : List Vx} (ho : OrdP l) (hf : ∀ v ∈ l, FitP v g[g.length - 1]!) : PV (g ++ [l]) := by
 have hat : ∀ j, j < g.length -> (g ++ [l])[j]! = g[j]! := fun j hj => by
  rw [getElem!_pos _ j (by simp; omega), List.getElem_append_left hj, getElem!_pos g j hj]
 have hla : (g ++ [l])[g.length]! = l := by
  rw [getElem!_pos _ g.length (by simp), List.getElem_append_right (zR _)]; simp
 refine ⟨by rw [hat 0 hg]; exact h.top, fun k => ?_, fun k hk v hv => ?_⟩
 ·rcases Nat.lt_trichotomy k g.length with q | q | q
  ·rw [hat k q]; exact h.ord k
  ·rw [q, hla]; exact ho
  ·rw [getElem!_neg _ k (by simp; omega)]; exact List.Pairwise.nil
 ·rw [List.length_append, List.length_singleton] at hk;by_cases e : k + 1 < g.length
  ·rw [hat (k + 1) e] at hv;rw [hat k (by omega)];exact h.fit k e v hv
  ·have e' : k + 1 = g.length := by omega
   rw [e', hla] at hv;rw [hat k (by omega), show k = g.length - 1 by omega];exact hf v hv
theorem enter_valid {g : List (List Vx)} (h : gvalidB g = true) (ps : List B) (cnt : Bool) : gvalidB (genterP g ps cnt).1 = true := by
 unfold genterP;rw [h];simp only [if_true]
 split
 ·rfl
 ·rename_i h0
  exact prune_valid ((valid_pv h).snoc (by omega) (levP_ord _ _ _) (levP_fit (valid_lq h (by omega)) ps cnt))
theorem PV.setLast {g : List (List Vx)} (h : PV g) {k : Nat} (hk : k + 2 = g.length) {l : List Vx} (ho : OrdP l) (hf : ∀ v ∈ l, FitP v g[k]!) : PV (g.set (k + 1) l) := by
 have hat : ∀ (j : Nat), j ≠ k + 1 -> (g.set (k + 1) l)[j]! = g[j]! := fun j hj => by
  by_cases h1 : j < g.length
  ·rw [getElem!_pos _ j (by simpa using h1), List.getElem_set, if_neg (fun e => hj e.symm), getElem!_pos g j h1]
  ·rw [getElem!_neg _ j (by simpa using h1), getElem!_neg g j h1]
 have hla := set_at_self (g := g) (k := k + 1) (by omega) l;refine ⟨by rw [hat 0 (by omega)]; exact h.top, fun j => ?_, fun j hj v hv => ?_⟩
 ·by_cases e : j = k + 1
  ·rw [e, hla]; exact ho
  ·rw [hat j e]; exact h.ord j
 ·rw [zL] at hj;by_cases e : j + 1 = k + 1
  ·rw [e, hla] at hv;rw [hat j (by omega), show j = k by omega];exact hf v hv
  ·rw [hat (j + 1) e] at hv;rw [hat j (by omega)];exact h.fit j hj v hv
theorem tw_mem {p : Vx -> Bool} : ∀ {l : List Vx} {v : Vx}, v ∈ l.takeWhile p -> p v = true
 | [], v, h => by cases h
 | x :: l, v, h => by
  rw [List.takeWhile_cons] at h;split at h
  ·rename_i hx
   rcases List.mem_cons.1 h with rfl | h
   ·exact hx
   ·exact tw_mem h
  ·cases h
theorem tw_take (p : Vx -> Bool) (l : List Vx) : l.take (l.takeWhile p).length = l.takeWhile p := by
 have h3 := List.takeWhile_append_dropWhile (p := p) (l := l)
 conv => lhs; arg 2; rw [<- h3]
 exact List.take_left' rfl
theorem insV_ord {l : List Vx} (h : OrdP l) {x : Vx} (hx : ∀ v ∈ l, v.pol ≠ x.pol) : OrdP (insV l x) := by
 unfold insV
 have e1 : l.take (plc l x.pol) = l.takeWhile fun v => decide (v.pol < x.pol) := by
  unfold plc;exact tw_take _ _
 have hlt : ∀ v ∈ l.take (plc l x.pol), v.pol < x.pol := fun v hv => by
  rw [e1] at hv;exact of_decide_eq_true (tw_mem hv)
 have hp : (l.take (plc l x.pol) ++ l.drop (plc l x.pol)).Pairwise fun a b => a.pol < b.pol := by rw [List.take_append_drop]; exact h
 obtain ⟨a1, a2, a3⟩ := List.pairwise_append.1 hp
 have hge : ∀ v ∈ l.drop (plc l x.pol), x.pol < v.pol := by
  intro v hv
  have hd : ∀ y r, l.drop (plc l x.pol) = y :: r -> ¬ y.pol < x.pol := by
   intro y r hyr hlt'
   have h2 : l.dropWhile (fun v => decide (v.pol < x.pol)) = y :: r := by
    rw [<- hyr];unfold plc;have h3 := List.takeWhile_append_dropWhile (p := fun v : Vx => decide (v.pol < x.pol)) (l := l)
    conv => rhs; rw [<- h3]
    rw [List.drop_left' (by rw [h3])]
   have h4 := List.head_dropWhile_not (p := fun v : Vx => decide (v.pol < x.pol)) (l := l) (by rw [h2]; simp);simp only [h2, List.head_cons] at h4
   rw [zT hlt'] at h4
   cases h4
  cases hr : l.drop (plc l x.pol) with
  | nil => rw [hr] at hv; cases hv
  | cons y r =>
   have h1 := hd y r hr;have hy : y ∈ l := List.mem_of_mem_drop (by rw [hr]; simp);have h2 : x.pol < y.pol := ltB_or h1 (hx y hy);rw [hr] at hv a2;rcases List.mem_cons.1 hv with rfl | hv
   ·exact h2
   ·exact ltB_tr h2 ((List.pairwise_cons.1 a2).1 v hv)
 refine List.pairwise_append.2 ⟨a1, List.pairwise_cons.2 ⟨hge, a2⟩, fun a ha b hb => ?_⟩;rcases List.mem_cons.1 hb with rfl | hb
 ·exact hlt a ha
 ·exact a3 a ha b hb
theorem OrdP.set {l : List Vx} (h : OrdP l) (i : Nat) {x : Vx} (hx : i < l.length -> x.pol = (l[i]!).pol) : OrdP (l.set i x) := by
 refine List.pairwise_iff_getElem.2 fun a b ha hb hab => ?_
 have ha' : a < l.length := by simpa using ha
 have hb' : b < l.length := by simpa using hb
 have h2 := List.pairwise_iff_getElem.1 h a b ha' hb' hab
 have hat : ∀ (j : Nat) (hj : j < l.length), ((l.set i x)[j]'(by simpa using hj)).pol = (l[j]).pol := fun j hj => by
  rw [List.getElem_set];split
  ·rename_i e
   subst e;rw [hx hj, getElem!_pos l i hj]
  ·rfl
 rw [hat a ha', hat b hb']; exact h2
theorem mapS_ord {ms : List (B × B)} {star above : Int} {l : List Vx} (h : OrdP l) (p : B) : OrdP (mapS ms star above l p) := by
 unfold mapS;split
 ·rename_i h0
  obtain ⟨k, hk, he, -⟩ := fndP_some h0;rw [he, Int.toNat_natCast];exact h.set k fun _ => rfl
 ·rename_i h0
  split
  ·refine insV_ord h fun v hv e => ?_
   exact h0 (fndP_has hv e)
  ·exact h
theorem mapS_fit {ms : List (B × B)} {star above : Int} {ab l : List Vx} {p : B} (hp : p ∈ srcL ms) (hab : 0 <= star -> 0 <= above /\ above < (ab.length : Int)) (h : ∀ v ∈ l, FitP v ab) : ∀ v ∈ mapS ms star above l p, FitP v ab := by
 have hpa : p ≠ anyP := fun e => srcL_any ms (e ▸ hp)
 intro v hv;unfold mapS at hv;split at hv
 ·rename_i h0
  obtain ⟨k, hk, he, hpk, -⟩ := fndP_some h0;rw [he, Int.toNat_natCast] at hv;rcases List.mem_or_eq_of_mem_set hv with q | rfl
  ·exact h v q
  ·have hf := h l[k]! (by rw [getElem!_pos l k hk]; exact zM hk);refine ⟨subL_asc hp, hf.asc, hf.rg, fun hs => ?_, fun _ => subL_any ms p⟩;have : (l[k]!).pol = anyP := of_decide_eq_true hs;rw [hpk] at this;exact absurd this hpa
 ·split at hv
  ·rename_i h1
   rcases insV_mem hv with q | rfl
   ·exact h v q
   ·refine ⟨subL_asc hp, List.pairwise_singleton _ _, fun q hq => ?_, fun hs => ?_, fun _ => subL_any ms p⟩
    ·rw [zS] at hq; subst hq; exact hab h1
    ·exact absurd (of_decide_eq_true hs) hpa
  ·exact h v hv
theorem mapL_good {ms : List (B × B)} {star above : Int} {ab : List Vx} (hab : 0 <= star -> 0 <= above /\ above < (ab.length : Int)) : ∀ (ks : List B) (l : List Vx), (∀ p ∈ ks, p ∈ srcL ms) -> OrdP l -> (∀ v ∈ l, FitP v ab) -> OrdP (mapL ms star above l ks) /\ ∀ v ∈ mapL ms star above l ks, FitP v ab
 | [], l, _, ho, hf => ⟨ho, hf⟩
 | p :: ks, l, hk, ho, hf => mapL_good hab ks (mapS ms star above l p) (fun q hq => hk q (List.mem_cons_of_mem _ hq)) (mapS_ord ho p) (mapS_fit (hk p (by simp)) hab hf)
theorem gmapL_pv {g : List (List Vx)} (h : gvalidB g = true) (hg : 2 <= g.length) (ms : List (B × B)) (ok : Bool) : PV (g.set (g.length - 1) (gmapL g ms ok)) := by
 obtain ⟨k, hk⟩ : ∃ k, k + 2 = g.length := ⟨g.length - 2, by omega⟩
 have e1 : g.length - 1 = k + 1 := by omega
 have e2 : g.length - 2 = k := by omega
 have hp := valid_pv h;rw [e1];unfold gmapL;rw [e1, e2]
 cases ok with
 | true =>
  simp only [if_true]
  have h1 := mapL_good (ms := ms) (star := fndP g[k + 1]! anyP) (above := fndP g[k]! anyP) (ab := g[k]!) (fun hs => by
   have h3 := gvalid_star h (by omega) hs
   exact ⟨h3, fndP_lt h3⟩) (srcL ms) g[k + 1]! (fun p hp => hp) (hp.ord (k + 1)) (hp.fit k (by omega))
  exact hp.setLast hk h1.1 h1.2
 | false =>
  simp only [Bool.false_eq_true, if_false]
  exact hp.setLast hk ((hp.ord (k + 1)).filter _) fun v hv => hp.fit k (by omega) v (List.mem_filter.1 hv).1
theorem map_valid {g : List (List Vx)} (h : gvalidB g = true) (ms : List (B × B)) (ok : Bool) : gvalidB (gmapP g ms ok).1 = true := by
 unfold gmapP;split
 ·rename_i h1
  rw [h, Bool.true_and, Bool.not_eq_true', decide_eq_false_iff_not] at h1;split
  ·rfl
  ·exact prune_valid (gmapL_pv h (by omega) ms ok)
 ·rfl
def SubL (l l' : List Vx) : Prop := l.length <= l'.length /\ ∀ v ∈ l, ∃ u ∈ l', v.pol = u.pol /\ v.ex = u.ex
theorem SubL.refl (l : List Vx) : SubL l l := ⟨zR _, fun v hv => ⟨v, hv, rfl, rfl⟩⟩
theorem SubL.trans {a b c : List Vx} (h : SubL a b) (h' : SubL b c) : SubL a c := ⟨Nat.le_trans h.1 h'.1, fun v hv => by
 obtain ⟨u, hu, e1, e2⟩ := h.2 v hv;obtain ⟨z, hz, e3, e4⟩ := h'.2 u hu
 exact ⟨z, hz, e1.trans e3, e2.trans e4⟩⟩
theorem filtG_sub {g : List (List Vx)} {k : Nat} (hk : k < g.length) (m : List Bool) (j : Nat) : SubL (filtG g k m)[j]! g[j]! := by
 rw [filtG_at hk j];split
 ·rename_i e
  subst e;exact ⟨keepT_le _ _, fun v hv => ⟨v, keepT_mem (zR _) hv, rfl, rfl⟩⟩
 ·split
  ·refine ⟨by rw [List.length_map]; exact zR _, fun v hv => ?_⟩;obtain ⟨u, hu, rfl⟩ := List.mem_map.1 hv;exact ⟨u, hu, rfl, rfl⟩
  ·exact SubL.refl _
theorem fwdG_sub (g : List (List Vx)) (j : Nat) : ∀ n, n < g.length \/ n = 0 -> SubL (fwdG g n)[j]! g[j]!
 | 0, _ => SubL.refl _
 | n + 1, hn => by
  rw [fwdG];exact (filtG_sub (by rw [fwdG_len]; omega) _ j).trans (fwdG_sub g j n (by omega))
theorem bwdG_sub (g : List (List Vx)) (j : Nat) : ∀ n, n < g.length \/ n = 0 -> SubL (bwdG g n)[j]! g[j]!
 | 0, _ => SubL.refl _
 | n + 1, hn => by
  rw [bwdG];exact (filtG_sub (by rw [bwdG_len]; omega) _ j).trans (bwdG_sub g j n (by omega))
theorem pruneG_sub (g : List (List Vx)) : pruneG g = [] \/ ((pruneG g).length = g.length /\ ∀ (j : Nat), SubL (pruneG g)[j]! g[j]!) := by
 rcases Nat.eq_zero_or_pos g.length with h0 | hl
 ·have : g = [] := List.length_eq_zero_iff.1 h0;subst this;exact .inl rfl
 unfold pruneG;simp only
 split
 ·exact .inl rfl
 ·right
  refine ⟨by rw [bwdG_len, fwdG_len], fun j => ?_⟩;exact (bwdG_sub _ j _ (by rw [fwdG_len]; omega)).trans (fwdG_sub g j _ (by omega))
theorem nodup_le : ∀ (l m : List B), l.Nodup -> (∀ x ∈ l, x ∈ m) -> l.length <= m.length
 | [], m, _, _ => by simp
 | x :: l, m, hn, hs => by
  rw [List.nodup_cons] at hn;have hx := hs x (by simp);have h1 := nodup_le l (m.erase x) hn.2 fun y hy => (List.mem_erase_of_ne (show y ≠ x from fun e => by subst e; exact hn.1 hy)).2 (hs y (List.mem_cons_of_mem _ hy))
  rw [List.length_erase_of_mem hx] at h1;have := List.length_pos_of_mem hx;rw [List.length_cons]; omega
theorem subL_le (l : List (B × B)) (x : B) : (subL l x).length <= l.length := by
 unfold subL;have h1 := setB_length ((l.filter fun m => decide (m.1 = x) && okM m).map (·.2));have h2 := List.length_filter_le (fun m => decide (m.1 = x) && okM m) l;rw [List.length_map] at h1;omega
end Go.Proofs.YtmagjdocondmhaaGreat.Tr.Gr
