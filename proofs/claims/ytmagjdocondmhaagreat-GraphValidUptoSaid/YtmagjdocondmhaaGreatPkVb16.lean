/- packed -/
import Derived.Test.YtmagjdocondmhaaGreatPkVb14
import Derived.Test.YtmagjdocondmhaaGreatPkVb10
import Derived.Test.YtmagjdocondmhaaGreatPkVb15
import Derived.Test.YtmagjdocondmhaaGreatPkVb04
set_option linter.unusedVariables false
set_option linter.unusedSimpArgs false
namespace Go.Proofs.YtmagjdocondmhaaGreat.Tr.Gr
open Go Go.RowKit Go.Proofs.YtmagjdocondmhaaGreat.Slc Go.Proofs.YtmagjdocondmhaaGreat.St Go.Proofs.YtmagjdocondmhaaGreat.Mp Go.Proofs.YtmagjdocondmhaaGreat.Tr Go.Proofs.YtmagjdocondmhaaGreat.Rg
attribute [local go_sem] Oper.semAt_some
set_option maxRecDepth 100000 in
set_option maxHeartbeats 4000000 in
theorem reg17_a {s1 s2 s3 s6 s9 s10 s11 s12 s13 s14 s15 s16 s17 s18 s19 s20 s21 s22 s23 s24 s25 s26 s27 s28 s29 s30 s31 s32 s33 s34 s35 s36 s37 s38 s39 s40 s41 s42 s43 s44 s45 s46 s47 s48 s49 s50 s51 s52 s53 s54 s55 s56 s57 s58 s59 s60 s61 s62 s63 s64 s65 s66 s67 s68 s69 s70 s71 s72 s73 s74 s75 s76 s77 s78 s79 s80 s81 s82 s83 s84 s85 s86 s87 s88 s89 s90 s91 s92 s93 s94 s95 s96 s97 s98 s99 s100 s101 s102 s103 s104 s105 s106 s107 s108 s109 s110 s111 s112 s113 s114 s115 s116 s117 s118 s119 s120 s121 s122 s123 s124 s125 s126 s127 s128 s129 s130 s131 s132 s133 s134 s135 s136 s137 s138 s139 s140 s141 s142 s143 s144 s145 s146 s147 s148 s149 s150 s151 s152 s153 s154 s155 s156 s157 s158 s159 s160 s161 s162 s163 s164 s165 s166 s167 s168 s169 s170 s171 s172 s173 s174 s175 s176 s177 s178 s179 s180 s181 s182 s183 s184 s185 s186 s187 s188 s189 s190 s191 s192 s193 s194 s195 s196 s197 s198 s199 s200 s201 s202 : Value} {Q : Exit → Act → World → Prop} {W2 : World} {gb go b o k i : Nat} {GN gc M c : Nat} {IN : Bool} {ua : Option Addr} {un uc : Nat}
  (hk : k < M) (x1 : ∀ (e : Ext W2), e.out.cell? ⟨b, o + k * 3 + 1, none⟩ = some (.slice ua un uc))
  (hin : ∀ (e : Ext W2), Calls Tryz.prog 47 #[.slice ua un uc, .string ⟨#[50, 46, 53, 46, 50, 57, 46, 51, 50, 46, 48]⟩] e.out fun r w' => r = .returned (.bool IN) ∧ Below e.out.heap.size e.out w')
  (hQ : ∀ (W' : World), Below W2.heap.size W2 W' → ∀ (o121 o122 o123 o124 o125 o126 o127 o128 o129 o130 o131 o132 o133 o134 o135 o136 o137 o138 o139 o140 o141 o142 o143 o144 o145 o146 o147 o148 o149 o150 o151 o152 o153 o154 o155 o156 o157 o158 o159 o160 o161 o162 o163 o164 o165 o166 o167 : Value), Q .normal { tmps := List.toArray (.slice (some ⟨gb, go, none⟩) GN gc :: s1 :: s2 :: s3 :: .int .i64 (i : Nat) :: .slice (some ⟨b, o, none⟩) M c :: s6 :: .int .i64 (k : Nat) :: .bool false :: s9 :: s10 :: s11 :: s12 :: s13 :: s14 :: s15 :: s16 :: s17 :: s18 :: s19 :: s20 :: s21 :: s22 :: s23 :: s24 :: s25 :: s26 :: s27 :: s28 :: s29 :: s30 :: s31 :: s32 :: s33 :: s34 :: s35 :: s36 :: s37 :: s38 :: s39 :: s40 :: s41 :: s42 :: s43 :: s44 :: s45 :: s46 :: s47 :: s48 :: s49 :: s50 :: s51 :: s52 :: s53 :: s54 :: s55 :: s56 :: s57 :: s58 :: s59 :: s60 :: s61 :: s62 :: s63 :: s64 :: s65 :: s66 :: s67 :: s68 :: s69 :: s70 :: s71 :: s72 :: s73 :: s74 :: s75 :: s76 :: s77 :: s78 :: s79 :: s80 :: s81 :: s82 :: s83 :: s84 :: s85 :: s86 :: s87 :: s88 :: s89 :: s90 :: s91 :: s92 :: s93 :: s94 :: s95 :: s96 :: s97 :: s98 :: s99 :: s100 :: s101 :: s102 :: s103 :: s104 :: s105 :: s106 :: s107 :: s108 :: s109 :: s110 :: s111 :: s112 :: s113 :: s114 :: s115 :: s116 :: s117 :: s118 :: s119 :: s120 :: o121 :: o122 :: o123 :: o124 :: o125 :: o126 :: o127 :: o128 :: o129 :: o130 :: o131 :: o132 :: o133 :: o134 :: o135 :: o136 :: o137 :: o138 :: o139 :: o140 :: o141 :: o142 :: o143 :: o144 :: o145 :: o146 :: o147 :: o148 :: o149 :: o150 :: o151 :: o152 :: o153 :: o154 :: o155 :: o156 :: o157 :: o158 :: o159 :: o160 :: o161 :: o162 :: o163 :: o164 :: o165 :: o166 :: o167 :: .bool (IN) :: s169 :: s170 :: s171 :: s172 :: s173 :: s174 :: s175 :: s176 :: s177 :: s178 :: s179 :: s180 :: s181 :: s182 :: s183 :: s184 :: s185 :: s186 :: s187 :: s188 :: s189 :: s190 :: s191 :: s192 :: s193 :: s194 :: s195 :: s196 :: s197 :: s198 :: s199 :: s200 :: s201 :: s202 :: []), defers := [] } W') :
  (regC 17 (Tryz.f16.body.getD .skip)).wp Tryz.prog Q { tmps := List.toArray (.slice (some ⟨gb, go, none⟩) GN gc :: s1 :: s2 :: s3 :: .int .i64 (i : Nat) :: .slice (some ⟨b, o, none⟩) M c :: s6 :: .int .i64 (k : Nat) :: .bool false :: s9 :: s10 :: s11 :: s12 :: s13 :: s14 :: s15 :: s16 :: s17 :: s18 :: s19 :: s20 :: s21 :: s22 :: s23 :: s24 :: s25 :: s26 :: s27 :: s28 :: s29 :: s30 :: s31 :: s32 :: s33 :: s34 :: s35 :: s36 :: s37 :: s38 :: s39 :: s40 :: s41 :: s42 :: s43 :: s44 :: s45 :: s46 :: s47 :: s48 :: s49 :: s50 :: s51 :: s52 :: s53 :: s54 :: s55 :: s56 :: s57 :: s58 :: s59 :: s60 :: s61 :: s62 :: s63 :: s64 :: s65 :: s66 :: s67 :: s68 :: s69 :: s70 :: s71 :: s72 :: s73 :: s74 :: s75 :: s76 :: s77 :: s78 :: s79 :: s80 :: s81 :: s82 :: s83 :: s84 :: s85 :: s86 :: s87 :: s88 :: s89 :: s90 :: s91 :: s92 :: s93 :: s94 :: s95 :: s96 :: s97 :: s98 :: s99 :: s100 :: s101 :: s102 :: s103 :: s104 :: s105 :: s106 :: s107 :: s108 :: s109 :: s110 :: s111 :: s112 :: s113 :: s114 :: s115 :: s116 :: s117 :: s118 :: s119 :: s120 :: s121 :: s122 :: s123 :: s124 :: s125 :: s126 :: s127 :: s128 :: s129 :: s130 :: s131 :: s132 :: s133 :: s134 :: s135 :: s136 :: s137 :: s138 :: s139 :: s140 :: s141 :: s142 :: s143 :: s144 :: s145 :: s146 :: s147 :: s148 :: s149 :: s150 :: s151 :: s152 :: s153 :: s154 :: s155 :: s156 :: s157 :: s158 :: s159 :: s160 :: s161 :: s162 :: s163 :: s164 :: s165 :: s166 :: s167 :: s168 :: s169 :: s170 :: s171 :: s172 :: s173 :: s174 :: s175 :: s176 :: s177 :: s178 :: s179 :: s180 :: s181 :: s182 :: s183 :: s184 :: s185 :: s186 :: s187 :: s188 :: s189 :: s190 :: s191 :: s192 :: s193 :: s194 :: s195 :: s196 :: s197 :: s198 :: s199 :: s200 :: s201 :: s202 :: []), defers := [] } W2 := by
 rw [show regC 17 (Tryz.f16.body.getD .skip) = Code.region 17 _ true from rfl]
 refine wp_region_self (by kernel_rfl) (by kernel_rfl) ?_
 repeat (go_big_quiet_step (first | (go_at_call 47; exact ext_of (hin _))))
 refine wpQuiet_nil ?_
 rintro _ ⟨e1, rfl⟩
 exact hQ _ e1.bel _ _ _ _ _ _ _ _ _ _ _ _ _ _ _ _ _ _ _ _ _ _ _ _ _ _ _ _ _ _ _ _ _ _ _ _ _ _ _ _ _ _ _ _ _ _ _
set_option maxRecDepth 100000 in
set_option maxHeartbeats 4000000 in
theorem reg17_b {s1 s2 s3 s6 s9 s10 s11 s12 s13 s14 s15 s16 s17 s18 s19 s20 s21 s22 s23 s24 s25 s26 s27 s28 s29 s30 s31 s32 s33 s34 s35 s36 s37 s38 s39 s40 s41 s42 s43 s44 s45 s46 s47 s48 s49 s50 s51 s52 s53 s54 s55 s56 s57 s58 s59 s60 s61 s62 s63 s64 s65 s66 s67 s68 s69 s70 s71 s72 s73 s74 s75 s76 s77 s78 s79 s80 s81 s82 s83 s84 s85 s86 s87 s88 s89 s90 s91 s92 s93 s94 s95 s96 s97 s98 s99 s100 s101 s102 s103 s104 s105 s106 s107 s108 s109 s110 s111 s112 s113 s114 s115 s116 s117 s118 s119 s120 s121 s122 s123 s124 s125 s126 s127 s128 s129 s130 s131 s132 s133 s134 s135 s136 s137 s138 s139 s140 s141 s142 s143 s144 s145 s146 s147 s148 s149 s150 s151 s152 s153 s154 s155 s156 s157 s158 s159 s160 s161 s162 s163 s164 s165 s166 s167 s168 s169 s170 s171 s172 s173 s174 s175 s176 s177 s178 s179 s180 s181 s182 s183 s184 s185 s186 s187 s188 s189 s190 s191 s192 s193 s194 s195 s196 s197 s198 s199 s200 s201 s202 : Value} {Q : Exit → Act → World → Prop} {W2 : World} {gb go b o k i : Nat} {GN gc M c : Nat} {pa : Option Addr} {PN pc : Nat}
  (hk : k < M) (x2 : ∀ (e : Ext W2), e.out.cell? ⟨b, o + k * 3 + 2, none⟩ = some (.slice pa PN pc)) (tp : ((PN : Int) != 1) = true) (tp2 : ((PN : Int) == 1) = false)
  (hQ : ∀ (W' : World), Below W2.heap.size W2 W' → ∀ (o121 o122 o123 o124 o125 o126 o127 o128 o129 o130 o131 o132 o133 o134 o135 o136 o137 o138 o139 o140 o141 o142 o143 o144 o145 o146 o147 o148 o149 o150 o151 o152 o153 o154 o155 o156 o157 o158 o159 o160 o161 o162 o163 o164 o165 o166 o167 : Value), Q .normal { tmps := List.toArray (.slice (some ⟨gb, go, none⟩) GN gc :: s1 :: s2 :: s3 :: .int .i64 (i : Nat) :: .slice (some ⟨b, o, none⟩) M c :: s6 :: .int .i64 (k : Nat) :: .bool true :: s9 :: s10 :: s11 :: s12 :: s13 :: s14 :: s15 :: s16 :: s17 :: s18 :: s19 :: s20 :: s21 :: s22 :: s23 :: s24 :: s25 :: s26 :: s27 :: s28 :: s29 :: s30 :: s31 :: s32 :: s33 :: s34 :: s35 :: s36 :: s37 :: s38 :: s39 :: s40 :: s41 :: s42 :: s43 :: s44 :: s45 :: s46 :: s47 :: s48 :: s49 :: s50 :: s51 :: s52 :: s53 :: s54 :: s55 :: s56 :: s57 :: s58 :: s59 :: s60 :: s61 :: s62 :: s63 :: s64 :: s65 :: s66 :: s67 :: s68 :: s69 :: s70 :: s71 :: s72 :: s73 :: s74 :: s75 :: s76 :: s77 :: s78 :: s79 :: s80 :: s81 :: s82 :: s83 :: s84 :: s85 :: s86 :: s87 :: s88 :: s89 :: s90 :: s91 :: s92 :: s93 :: s94 :: s95 :: s96 :: s97 :: s98 :: s99 :: s100 :: s101 :: s102 :: s103 :: s104 :: s105 :: s106 :: s107 :: s108 :: s109 :: s110 :: s111 :: s112 :: s113 :: s114 :: s115 :: s116 :: s117 :: s118 :: s119 :: s120 :: o121 :: o122 :: o123 :: o124 :: o125 :: o126 :: o127 :: o128 :: o129 :: o130 :: o131 :: o132 :: o133 :: o134 :: o135 :: o136 :: o137 :: o138 :: o139 :: o140 :: o141 :: o142 :: o143 :: o144 :: o145 :: o146 :: o147 :: o148 :: o149 :: o150 :: o151 :: o152 :: o153 :: o154 :: o155 :: o156 :: o157 :: o158 :: o159 :: o160 :: o161 :: o162 :: o163 :: o164 :: o165 :: o166 :: o167 :: .bool (true) :: s169 :: s170 :: s171 :: s172 :: s173 :: s174 :: s175 :: s176 :: s177 :: s178 :: s179 :: s180 :: s181 :: s182 :: s183 :: s184 :: s185 :: s186 :: s187 :: s188 :: s189 :: s190 :: s191 :: s192 :: s193 :: s194 :: s195 :: s196 :: s197 :: s198 :: s199 :: s200 :: s201 :: s202 :: []), defers := [] } W') :
  (regC 17 (Tryz.f16.body.getD .skip)).wp Tryz.prog Q { tmps := List.toArray (.slice (some ⟨gb, go, none⟩) GN gc :: s1 :: s2 :: s3 :: .int .i64 (i : Nat) :: .slice (some ⟨b, o, none⟩) M c :: s6 :: .int .i64 (k : Nat) :: .bool true :: s9 :: s10 :: s11 :: s12 :: s13 :: s14 :: s15 :: s16 :: s17 :: s18 :: s19 :: s20 :: s21 :: s22 :: s23 :: s24 :: s25 :: s26 :: s27 :: s28 :: s29 :: s30 :: s31 :: s32 :: s33 :: s34 :: s35 :: s36 :: s37 :: s38 :: s39 :: s40 :: s41 :: s42 :: s43 :: s44 :: s45 :: s46 :: s47 :: s48 :: s49 :: s50 :: s51 :: s52 :: s53 :: s54 :: s55 :: s56 :: s57 :: s58 :: s59 :: s60 :: s61 :: s62 :: s63 :: s64 :: s65 :: s66 :: s67 :: s68 :: s69 :: s70 :: s71 :: s72 :: s73 :: s74 :: s75 :: s76 :: s77 :: s78 :: s79 :: s80 :: s81 :: s82 :: s83 :: s84 :: s85 :: s86 :: s87 :: s88 :: s89 :: s90 :: s91 :: s92 :: s93 :: s94 :: s95 :: s96 :: s97 :: s98 :: s99 :: s100 :: s101 :: s102 :: s103 :: s104 :: s105 :: s106 :: s107 :: s108 :: s109 :: s110 :: s111 :: s112 :: s113 :: s114 :: s115 :: s116 :: s117 :: s118 :: s119 :: s120 :: s121 :: s122 :: s123 :: s124 :: s125 :: s126 :: s127 :: s128 :: s129 :: s130 :: s131 :: s132 :: s133 :: s134 :: s135 :: s136 :: s137 :: s138 :: s139 :: s140 :: s141 :: s142 :: s143 :: s144 :: s145 :: s146 :: s147 :: s148 :: s149 :: s150 :: s151 :: s152 :: s153 :: s154 :: s155 :: s156 :: s157 :: s158 :: s159 :: s160 :: s161 :: s162 :: s163 :: s164 :: s165 :: s166 :: s167 :: s168 :: s169 :: s170 :: s171 :: s172 :: s173 :: s174 :: s175 :: s176 :: s177 :: s178 :: s179 :: s180 :: s181 :: s182 :: s183 :: s184 :: s185 :: s186 :: s187 :: s188 :: s189 :: s190 :: s191 :: s192 :: s193 :: s194 :: s195 :: s196 :: s197 :: s198 :: s199 :: s200 :: s201 :: s202 :: []), defers := [] } W2 := by
 rw [show regC 17 (Tryz.f16.body.getD .skip) = Code.region 17 _ true from rfl]
 refine wp_region_self (by kernel_rfl) (by kernel_rfl) ?_
 repeat (go_big_quiet_step (fail))
 refine wpQuiet_nil ?_
 rintro _ ⟨e1, rfl⟩
 exact hQ _ e1.bel _ _ _ _ _ _ _ _ _ _ _ _ _ _ _ _ _ _ _ _ _ _ _ _ _ _ _ _ _ _ _ _ _ _ _ _ _ _ _ _ _ _ _ _ _ _ _
set_option maxRecDepth 100000 in
set_option maxHeartbeats 4000000 in
theorem reg17_c {s1 s2 s3 s6 s9 s10 s11 s12 s13 s14 s15 s16 s17 s18 s19 s20 s21 s22 s23 s24 s25 s26 s27 s28 s29 s30 s31 s32 s33 s34 s35 s36 s37 s38 s39 s40 s41 s42 s43 s44 s45 s46 s47 s48 s49 s50 s51 s52 s53 s54 s55 s56 s57 s58 s59 s60 s61 s62 s63 s64 s65 s66 s67 s68 s69 s70 s71 s72 s73 s74 s75 s76 s77 s78 s79 s80 s81 s82 s83 s84 s85 s86 s87 s88 s89 s90 s91 s92 s93 s94 s95 s96 s97 s98 s99 s100 s101 s102 s103 s104 s105 s106 s107 s108 s109 s110 s111 s112 s113 s114 s115 s116 s117 s118 s119 s120 s121 s122 s123 s124 s125 s126 s127 s128 s129 s130 s131 s132 s133 s134 s135 s136 s137 s138 s139 s140 s141 s142 s143 s144 s145 s146 s147 s148 s149 s150 s151 s152 s153 s154 s155 s156 s157 s158 s159 s160 s161 s162 s163 s164 s165 s166 s167 s168 s169 s170 s171 s172 s173 s174 s175 s176 s177 s178 s179 s180 s181 s182 s183 s184 s185 s186 s187 s188 s189 s190 s191 s192 s193 s194 s195 s196 s197 s198 s199 s200 s201 s202 : Value} {Q : Exit → Act → World → Prop} {W2 : World} {gb go b o k i h : Nat} {GN gc M c : Nat} {X : ByteArray} {pc AN ac pb po ab ao pn : Nat}
  (hk : k < M) (x2 : ∀ (e : Ext W2), e.out.cell? ⟨b, o + k * 3 + 2, none⟩ = some (.slice (some ⟨pb, po, none⟩) 1 pc)) (x3 : ∀ (e : Ext W2), e.out.cell? ⟨pb, po, none⟩ = some (.int .i64 (pn : Nat)))
  (wi : IntKind.i64.wrap ((i : Int) - 1) = (h : Int)) (hh : h < GN) (g1 : ∀ (e : Ext W2), e.out.cell? ⟨gb, go + h, none⟩ = some (.slice (some ⟨ab, ao, none⟩) AN ac)) (hpn : pn < AN) (a0 : ∀ (e : Ext W2), e.out.cell? ⟨ab, ao + pn * 3, none⟩ = some (.string X))
  (l3 : (X.toList == ([50, 46, 53, 46, 50, 57, 46, 51, 50, 46, 48] : List UInt8)) = false)
  (hQ : ∀ (W' : World), Below W2.heap.size W2 W' → ∀ (o121 o122 o123 o124 o125 o126 o127 o128 o129 o130 o131 o132 o133 o134 o135 o136 o137 o138 o139 o140 o141 o142 o143 o144 o145 o146 o147 o148 o149 o150 o151 o152 o153 o154 o155 o156 o157 o158 o159 o160 o161 o162 o163 o164 o165 o166 o167 : Value), Q .normal { tmps := List.toArray (.slice (some ⟨gb, go, none⟩) GN gc :: s1 :: s2 :: s3 :: .int .i64 (i : Nat) :: .slice (some ⟨b, o, none⟩) M c :: s6 :: .int .i64 (k : Nat) :: .bool true :: s9 :: s10 :: s11 :: s12 :: s13 :: s14 :: s15 :: s16 :: s17 :: s18 :: s19 :: s20 :: s21 :: s22 :: s23 :: s24 :: s25 :: s26 :: s27 :: s28 :: s29 :: s30 :: s31 :: s32 :: s33 :: s34 :: s35 :: s36 :: s37 :: s38 :: s39 :: s40 :: s41 :: s42 :: s43 :: s44 :: s45 :: s46 :: s47 :: s48 :: s49 :: s50 :: s51 :: s52 :: s53 :: s54 :: s55 :: s56 :: s57 :: s58 :: s59 :: s60 :: s61 :: s62 :: s63 :: s64 :: s65 :: s66 :: s67 :: s68 :: s69 :: s70 :: s71 :: s72 :: s73 :: s74 :: s75 :: s76 :: s77 :: s78 :: s79 :: s80 :: s81 :: s82 :: s83 :: s84 :: s85 :: s86 :: s87 :: s88 :: s89 :: s90 :: s91 :: s92 :: s93 :: s94 :: s95 :: s96 :: s97 :: s98 :: s99 :: s100 :: s101 :: s102 :: s103 :: s104 :: s105 :: s106 :: s107 :: s108 :: s109 :: s110 :: s111 :: s112 :: s113 :: s114 :: s115 :: s116 :: s117 :: s118 :: s119 :: s120 :: o121 :: o122 :: o123 :: o124 :: o125 :: o126 :: o127 :: o128 :: o129 :: o130 :: o131 :: o132 :: o133 :: o134 :: o135 :: o136 :: o137 :: o138 :: o139 :: o140 :: o141 :: o142 :: o143 :: o144 :: o145 :: o146 :: o147 :: o148 :: o149 :: o150 :: o151 :: o152 :: o153 :: o154 :: o155 :: o156 :: o157 :: o158 :: o159 :: o160 :: o161 :: o162 :: o163 :: o164 :: o165 :: o166 :: o167 :: .bool (true) :: s169 :: s170 :: s171 :: s172 :: s173 :: s174 :: s175 :: s176 :: s177 :: s178 :: s179 :: s180 :: s181 :: s182 :: s183 :: s184 :: s185 :: s186 :: s187 :: s188 :: s189 :: s190 :: s191 :: s192 :: s193 :: s194 :: s195 :: s196 :: s197 :: s198 :: s199 :: s200 :: s201 :: s202 :: []), defers := [] } W') :
  (regC 17 (Tryz.f16.body.getD .skip)).wp Tryz.prog Q { tmps := List.toArray (.slice (some ⟨gb, go, none⟩) GN gc :: s1 :: s2 :: s3 :: .int .i64 (i : Nat) :: .slice (some ⟨b, o, none⟩) M c :: s6 :: .int .i64 (k : Nat) :: .bool true :: s9 :: s10 :: s11 :: s12 :: s13 :: s14 :: s15 :: s16 :: s17 :: s18 :: s19 :: s20 :: s21 :: s22 :: s23 :: s24 :: s25 :: s26 :: s27 :: s28 :: s29 :: s30 :: s31 :: s32 :: s33 :: s34 :: s35 :: s36 :: s37 :: s38 :: s39 :: s40 :: s41 :: s42 :: s43 :: s44 :: s45 :: s46 :: s47 :: s48 :: s49 :: s50 :: s51 :: s52 :: s53 :: s54 :: s55 :: s56 :: s57 :: s58 :: s59 :: s60 :: s61 :: s62 :: s63 :: s64 :: s65 :: s66 :: s67 :: s68 :: s69 :: s70 :: s71 :: s72 :: s73 :: s74 :: s75 :: s76 :: s77 :: s78 :: s79 :: s80 :: s81 :: s82 :: s83 :: s84 :: s85 :: s86 :: s87 :: s88 :: s89 :: s90 :: s91 :: s92 :: s93 :: s94 :: s95 :: s96 :: s97 :: s98 :: s99 :: s100 :: s101 :: s102 :: s103 :: s104 :: s105 :: s106 :: s107 :: s108 :: s109 :: s110 :: s111 :: s112 :: s113 :: s114 :: s115 :: s116 :: s117 :: s118 :: s119 :: s120 :: s121 :: s122 :: s123 :: s124 :: s125 :: s126 :: s127 :: s128 :: s129 :: s130 :: s131 :: s132 :: s133 :: s134 :: s135 :: s136 :: s137 :: s138 :: s139 :: s140 :: s141 :: s142 :: s143 :: s144 :: s145 :: s146 :: s147 :: s148 :: s149 :: s150 :: s151 :: s152 :: s153 :: s154 :: s155 :: s156 :: s157 :: s158 :: s159 :: s160 :: s161 :: s162 :: s163 :: s164 :: s165 :: s166 :: s167 :: s168 :: s169 :: s170 :: s171 :: s172 :: s173 :: s174 :: s175 :: s176 :: s177 :: s178 :: s179 :: s180 :: s181 :: s182 :: s183 :: s184 :: s185 :: s186 :: s187 :: s188 :: s189 :: s190 :: s191 :: s192 :: s193 :: s194 :: s195 :: s196 :: s197 :: s198 :: s199 :: s200 :: s201 :: s202 :: []), defers := [] } W2 := by
 rw [show regC 17 (Tryz.f16.body.getD .skip) = Code.region 17 _ true from rfl]
 refine wp_region_self (by kernel_rfl) (by kernel_rfl) ?_
 repeat (go_big_quiet_step (fail))
 refine wpQuiet_nil ?_
 rintro _ ⟨e1, rfl⟩
 exact hQ _ e1.bel _ _ _ _ _ _ _ _ _ _ _ _ _ _ _ _ _ _ _ _ _ _ _ _ _ _ _ _ _ _ _ _ _ _ _ _ _ _ _ _ _ _ _ _ _ _ _
set_option maxRecDepth 100000 in
set_option maxHeartbeats 4000000 in
theorem reg17_d {s1 s2 s3 s6 s9 s10 s11 s12 s13 s14 s15 s16 s17 s18 s19 s20 s21 s22 s23 s24 s25 s26 s27 s28 s29 s30 s31 s32 s33 s34 s35 s36 s37 s38 s39 s40 s41 s42 s43 s44 s45 s46 s47 s48 s49 s50 s51 s52 s53 s54 s55 s56 s57 s58 s59 s60 s61 s62 s63 s64 s65 s66 s67 s68 s69 s70 s71 s72 s73 s74 s75 s76 s77 s78 s79 s80 s81 s82 s83 s84 s85 s86 s87 s88 s89 s90 s91 s92 s93 s94 s95 s96 s97 s98 s99 s100 s101 s102 s103 s104 s105 s106 s107 s108 s109 s110 s111 s112 s113 s114 s115 s116 s117 s118 s119 s120 s121 s122 s123 s124 s125 s126 s127 s128 s129 s130 s131 s132 s133 s134 s135 s136 s137 s138 s139 s140 s141 s142 s143 s144 s145 s146 s147 s148 s149 s150 s151 s152 s153 s154 s155 s156 s157 s158 s159 s160 s161 s162 s163 s164 s165 s166 s167 s168 s169 s170 s171 s172 s173 s174 s175 s176 s177 s178 s179 s180 s181 s182 s183 s184 s185 s186 s187 s188 s189 s190 s191 s192 s193 s194 s195 s196 s197 s198 s199 s200 s201 s202 : Value} {Q : Exit → Act → World → Prop} {W2 : World} {gb go b o k i h : Nat} {GN gc M c : Nat} {X : ByteArray} {ua : Option Addr} {un uc pc AN ac pb po ab ao pn : Nat}
  (hk : k < M) (x2 : ∀ (e : Ext W2), e.out.cell? ⟨b, o + k * 3 + 2, none⟩ = some (.slice (some ⟨pb, po, none⟩) 1 pc)) (x3 : ∀ (e : Ext W2), e.out.cell? ⟨pb, po, none⟩ = some (.int .i64 (pn : Nat)))
  (wi : IntKind.i64.wrap ((i : Int) - 1) = (h : Int)) (hh : h < GN) (g1 : ∀ (e : Ext W2), e.out.cell? ⟨gb, go + h, none⟩ = some (.slice (some ⟨ab, ao, none⟩) AN ac)) (hpn : pn < AN) (a0 : ∀ (e : Ext W2), e.out.cell? ⟨ab, ao + pn * 3, none⟩ = some (.string X))
  (l3 : (X.toList == ([50, 46, 53, 46, 50, 57, 46, 51, 50, 46, 48] : List UInt8)) = true) (x1 : ∀ (e : Ext W2), e.out.cell? ⟨b, o + k * 3 + 1, none⟩ = some (.slice ua un uc)) (tu : ((un : Int) != 1) = true) (tu2 : ((un : Int) == 1) = false)
  (hQ : ∀ (W' : World), Below W2.heap.size W2 W' → ∀ (o121 o122 o123 o124 o125 o126 o127 o128 o129 o130 o131 o132 o133 o134 o135 o136 o137 o138 o139 o140 o141 o142 o143 o144 o145 o146 o147 o148 o149 o150 o151 o152 o153 o154 o155 o156 o157 o158 o159 o160 o161 o162 o163 o164 o165 o166 o167 : Value), Q .normal { tmps := List.toArray (.slice (some ⟨gb, go, none⟩) GN gc :: s1 :: s2 :: s3 :: .int .i64 (i : Nat) :: .slice (some ⟨b, o, none⟩) M c :: s6 :: .int .i64 (k : Nat) :: .bool true :: s9 :: s10 :: s11 :: s12 :: s13 :: s14 :: s15 :: s16 :: s17 :: s18 :: s19 :: s20 :: s21 :: s22 :: s23 :: s24 :: s25 :: s26 :: s27 :: s28 :: s29 :: s30 :: s31 :: s32 :: s33 :: s34 :: s35 :: s36 :: s37 :: s38 :: s39 :: s40 :: s41 :: s42 :: s43 :: s44 :: s45 :: s46 :: s47 :: s48 :: s49 :: s50 :: s51 :: s52 :: s53 :: s54 :: s55 :: s56 :: s57 :: s58 :: s59 :: s60 :: s61 :: s62 :: s63 :: s64 :: s65 :: s66 :: s67 :: s68 :: s69 :: s70 :: s71 :: s72 :: s73 :: s74 :: s75 :: s76 :: s77 :: s78 :: s79 :: s80 :: s81 :: s82 :: s83 :: s84 :: s85 :: s86 :: s87 :: s88 :: s89 :: s90 :: s91 :: s92 :: s93 :: s94 :: s95 :: s96 :: s97 :: s98 :: s99 :: s100 :: s101 :: s102 :: s103 :: s104 :: s105 :: s106 :: s107 :: s108 :: s109 :: s110 :: s111 :: s112 :: s113 :: s114 :: s115 :: s116 :: s117 :: s118 :: s119 :: s120 :: o121 :: o122 :: o123 :: o124 :: o125 :: o126 :: o127 :: o128 :: o129 :: o130 :: o131 :: o132 :: o133 :: o134 :: o135 :: o136 :: o137 :: o138 :: o139 :: o140 :: o141 :: o142 :: o143 :: o144 :: o145 :: o146 :: o147 :: o148 :: o149 :: o150 :: o151 :: o152 :: o153 :: o154 :: o155 :: o156 :: o157 :: o158 :: o159 :: o160 :: o161 :: o162 :: o163 :: o164 :: o165 :: o166 :: o167 :: .bool (true) :: s169 :: s170 :: s171 :: s172 :: s173 :: s174 :: s175 :: s176 :: s177 :: s178 :: s179 :: s180 :: s181 :: s182 :: s183 :: s184 :: s185 :: s186 :: s187 :: s188 :: s189 :: s190 :: s191 :: s192 :: s193 :: s194 :: s195 :: s196 :: s197 :: s198 :: s199 :: s200 :: s201 :: s202 :: []), defers := [] } W') :
  (regC 17 (Tryz.f16.body.getD .skip)).wp Tryz.prog Q { tmps := List.toArray (.slice (some ⟨gb, go, none⟩) GN gc :: s1 :: s2 :: s3 :: .int .i64 (i : Nat) :: .slice (some ⟨b, o, none⟩) M c :: s6 :: .int .i64 (k : Nat) :: .bool true :: s9 :: s10 :: s11 :: s12 :: s13 :: s14 :: s15 :: s16 :: s17 :: s18 :: s19 :: s20 :: s21 :: s22 :: s23 :: s24 :: s25 :: s26 :: s27 :: s28 :: s29 :: s30 :: s31 :: s32 :: s33 :: s34 :: s35 :: s36 :: s37 :: s38 :: s39 :: s40 :: s41 :: s42 :: s43 :: s44 :: s45 :: s46 :: s47 :: s48 :: s49 :: s50 :: s51 :: s52 :: s53 :: s54 :: s55 :: s56 :: s57 :: s58 :: s59 :: s60 :: s61 :: s62 :: s63 :: s64 :: s65 :: s66 :: s67 :: s68 :: s69 :: s70 :: s71 :: s72 :: s73 :: s74 :: s75 :: s76 :: s77 :: s78 :: s79 :: s80 :: s81 :: s82 :: s83 :: s84 :: s85 :: s86 :: s87 :: s88 :: s89 :: s90 :: s91 :: s92 :: s93 :: s94 :: s95 :: s96 :: s97 :: s98 :: s99 :: s100 :: s101 :: s102 :: s103 :: s104 :: s105 :: s106 :: s107 :: s108 :: s109 :: s110 :: s111 :: s112 :: s113 :: s114 :: s115 :: s116 :: s117 :: s118 :: s119 :: s120 :: s121 :: s122 :: s123 :: s124 :: s125 :: s126 :: s127 :: s128 :: s129 :: s130 :: s131 :: s132 :: s133 :: s134 :: s135 :: s136 :: s137 :: s138 :: s139 :: s140 :: s141 :: s142 :: s143 :: s144 :: s145 :: s146 :: s147 :: s148 :: s149 :: s150 :: s151 :: s152 :: s153 :: s154 :: s155 :: s156 :: s157 :: s158 :: s159 :: s160 :: s161 :: s162 :: s163 :: s164 :: s165 :: s166 :: s167 :: s168 :: s169 :: s170 :: s171 :: s172 :: s173 :: s174 :: s175 :: s176 :: s177 :: s178 :: s179 :: s180 :: s181 :: s182 :: s183 :: s184 :: s185 :: s186 :: s187 :: s188 :: s189 :: s190 :: s191 :: s192 :: s193 :: s194 :: s195 :: s196 :: s197 :: s198 :: s199 :: s200 :: s201 :: s202 :: []), defers := [] } W2 := by
 rw [show regC 17 (Tryz.f16.body.getD .skip) = Code.region 17 _ true from rfl]
 refine wp_region_self (by kernel_rfl) (by kernel_rfl) ?_
 repeat (go_big_quiet_step (fail))
 refine wpQuiet_nil ?_
 rintro _ ⟨e1, rfl⟩
 exact hQ _ e1.bel _ _ _ _ _ _ _ _ _ _ _ _ _ _ _ _ _ _ _ _ _ _ _ _ _ _ _ _ _ _ _ _ _ _ _ _ _ _ _ _ _ _ _ _ _ _ _
set_option maxRecDepth 100000 in
set_option maxHeartbeats 4000000 in
theorem reg17_e {s1 s2 s3 s6 s9 s10 s11 s12 s13 s14 s15 s16 s17 s18 s19 s20 s21 s22 s23 s24 s25 s26 s27 s28 s29 s30 s31 s32 s33 s34 s35 s36 s37 s38 s39 s40 s41 s42 s43 s44 s45 s46 s47 s48 s49 s50 s51 s52 s53 s54 s55 s56 s57 s58 s59 s60 s61 s62 s63 s64 s65 s66 s67 s68 s69 s70 s71 s72 s73 s74 s75 s76 s77 s78 s79 s80 s81 s82 s83 s84 s85 s86 s87 s88 s89 s90 s91 s92 s93 s94 s95 s96 s97 s98 s99 s100 s101 s102 s103 s104 s105 s106 s107 s108 s109 s110 s111 s112 s113 s114 s115 s116 s117 s118 s119 s120 s121 s122 s123 s124 s125 s126 s127 s128 s129 s130 s131 s132 s133 s134 s135 s136 s137 s138 s139 s140 s141 s142 s143 s144 s145 s146 s147 s148 s149 s150 s151 s152 s153 s154 s155 s156 s157 s158 s159 s160 s161 s162 s163 s164 s165 s166 s167 s168 s169 s170 s171 s172 s173 s174 s175 s176 s177 s178 s179 s180 s181 s182 s183 s184 s185 s186 s187 s188 s189 s190 s191 s192 s193 s194 s195 s196 s197 s198 s199 s200 s201 s202 : Value} {Q : Exit → Act → World → Prop} {W2 : World} {gb go b o k i h : Nat} {GN gc M c : Nat} {X : ByteArray} {IN : Bool} {ua : Option Addr} {un uc pc AN ac pb po ab ao pn : Nat}
  (hk : k < M) (x2 : ∀ (e : Ext W2), e.out.cell? ⟨b, o + k * 3 + 2, none⟩ = some (.slice (some ⟨pb, po, none⟩) 1 pc)) (x3 : ∀ (e : Ext W2), e.out.cell? ⟨pb, po, none⟩ = some (.int .i64 (pn : Nat)))
  (wi : IntKind.i64.wrap ((i : Int) - 1) = (h : Int)) (hh : h < GN) (g1 : ∀ (e : Ext W2), e.out.cell? ⟨gb, go + h, none⟩ = some (.slice (some ⟨ab, ao, none⟩) AN ac)) (hpn : pn < AN) (a0 : ∀ (e : Ext W2), e.out.cell? ⟨ab, ao + pn * 3, none⟩ = some (.string X))
  (l3 : (X.toList == ([50, 46, 53, 46, 50, 57, 46, 51, 50, 46, 48] : List UInt8)) = true) (x1 : ∀ (e : Ext W2), e.out.cell? ⟨b, o + k * 3 + 1, none⟩ = some (.slice ua un uc)) (tu : ((un : Int) != 1) = false) (tu2 : ((un : Int) == 1) = true)
  (hin : ∀ (e : Ext W2), Calls Tryz.prog 47 #[.slice ua un uc, .string ⟨#[50, 46, 53, 46, 50, 57, 46, 51, 50, 46, 48]⟩] e.out fun r w' => r = .returned (.bool IN) ∧ Below e.out.heap.size e.out w')
  (hQ : ∀ (W' : World), Below W2.heap.size W2 W' → ∀ (o121 o122 o123 o124 o125 o126 o127 o128 o129 o130 o131 o132 o133 o134 o135 o136 o137 o138 o139 o140 o141 o142 o143 o144 o145 o146 o147 o148 o149 o150 o151 o152 o153 o154 o155 o156 o157 o158 o159 o160 o161 o162 o163 o164 o165 o166 o167 : Value), Q .normal { tmps := List.toArray (.slice (some ⟨gb, go, none⟩) GN gc :: s1 :: s2 :: s3 :: .int .i64 (i : Nat) :: .slice (some ⟨b, o, none⟩) M c :: s6 :: .int .i64 (k : Nat) :: .bool true :: s9 :: s10 :: s11 :: s12 :: s13 :: s14 :: s15 :: s16 :: s17 :: s18 :: s19 :: s20 :: s21 :: s22 :: s23 :: s24 :: s25 :: s26 :: s27 :: s28 :: s29 :: s30 :: s31 :: s32 :: s33 :: s34 :: s35 :: s36 :: s37 :: s38 :: s39 :: s40 :: s41 :: s42 :: s43 :: s44 :: s45 :: s46 :: s47 :: s48 :: s49 :: s50 :: s51 :: s52 :: s53 :: s54 :: s55 :: s56 :: s57 :: s58 :: s59 :: s60 :: s61 :: s62 :: s63 :: s64 :: s65 :: s66 :: s67 :: s68 :: s69 :: s70 :: s71 :: s72 :: s73 :: s74 :: s75 :: s76 :: s77 :: s78 :: s79 :: s80 :: s81 :: s82 :: s83 :: s84 :: s85 :: s86 :: s87 :: s88 :: s89 :: s90 :: s91 :: s92 :: s93 :: s94 :: s95 :: s96 :: s97 :: s98 :: s99 :: s100 :: s101 :: s102 :: s103 :: s104 :: s105 :: s106 :: s107 :: s108 :: s109 :: s110 :: s111 :: s112 :: s113 :: s114 :: s115 :: s116 :: s117 :: s118 :: s119 :: s120 :: o121 :: o122 :: o123 :: o124 :: o125 :: o126 :: o127 :: o128 :: o129 :: o130 :: o131 :: o132 :: o133 :: o134 :: o135 :: o136 :: o137 :: o138 :: o139 :: o140 :: o141 :: o142 :: o143 :: o144 :: o145 :: o146 :: o147 :: o148 :: o149 :: o150 :: o151 :: o152 :: o153 :: o154 :: o155 :: o156 :: o157 :: o158 :: o159 :: o160 :: o161 :: o162 :: o163 :: o164 :: o165 :: o166 :: o167 :: .bool (!IN) :: s169 :: s170 :: s171 :: s172 :: s173 :: s174 :: s175 :: s176 :: s177 :: s178 :: s179 :: s180 :: s181 :: s182 :: s183 :: s184 :: s185 :: s186 :: s187 :: s188 :: s189 :: s190 :: s191 :: s192 :: s193 :: s194 :: s195 :: s196 :: s197 :: s198 :: s199 :: s200 :: s201 :: s202 :: []), defers := [] } W') :
  (regC 17 (Tryz.f16.body.getD .skip)).wp Tryz.prog Q { tmps := List.toArray (.slice (some ⟨gb, go, none⟩) GN gc :: s1 :: s2 :: s3 :: .int .i64 (i : Nat) :: .slice (some ⟨b, o, none⟩) M c :: s6 :: .int .i64 (k : Nat) :: .bool true :: s9 :: s10 :: s11 :: s12 :: s13 :: s14 :: s15 :: s16 :: s17 :: s18 :: s19 :: s20 :: s21 :: s22 :: s23 :: s24 :: s25 :: s26 :: s27 :: s28 :: s29 :: s30 :: s31 :: s32 :: s33 :: s34 :: s35 :: s36 :: s37 :: s38 :: s39 :: s40 :: s41 :: s42 :: s43 :: s44 :: s45 :: s46 :: s47 :: s48 :: s49 :: s50 :: s51 :: s52 :: s53 :: s54 :: s55 :: s56 :: s57 :: s58 :: s59 :: s60 :: s61 :: s62 :: s63 :: s64 :: s65 :: s66 :: s67 :: s68 :: s69 :: s70 :: s71 :: s72 :: s73 :: s74 :: s75 :: s76 :: s77 :: s78 :: s79 :: s80 :: s81 :: s82 :: s83 :: s84 :: s85 :: s86 :: s87 :: s88 :: s89 :: s90 :: s91 :: s92 :: s93 :: s94 :: s95 :: s96 :: s97 :: s98 :: s99 :: s100 :: s101 :: s102 :: s103 :: s104 :: s105 :: s106 :: s107 :: s108 :: s109 :: s110 :: s111 :: s112 :: s113 :: s114 :: s115 :: s116 :: s117 :: s118 :: s119 :: s120 :: s121 :: s122 :: s123 :: s124 :: s125 :: s126 :: s127 :: s128 :: s129 :: s130 :: s131 :: s132 :: s133 :: s134 :: s135 :: s136 :: s137 :: s138 :: s139 :: s140 :: s141 :: s142 :: s143 :: s144 :: s145 :: s146 :: s147 :: s148 :: s149 :: s150 :: s151 :: s152 :: s153 :: s154 :: s155 :: s156 :: s157 :: s158 :: s159 :: s160 :: s161 :: s162 :: s163 :: s164 :: s165 :: s166 :: s167 :: s168 :: s169 :: s170 :: s171 :: s172 :: s173 :: s174 :: s175 :: s176 :: s177 :: s178 :: s179 :: s180 :: s181 :: s182 :: s183 :: s184 :: s185 :: s186 :: s187 :: s188 :: s189 :: s190 :: s191 :: s192 :: s193 :: s194 :: s195 :: s196 :: s197 :: s198 :: s199 :: s200 :: s201 :: s202 :: []), defers := [] } W2 := by
 rw [show regC 17 (Tryz.f16.body.getD .skip) = Code.region 17 _ true from rfl]
 refine wp_region_self (by kernel_rfl) (by kernel_rfl) ?_
 repeat (go_big_quiet_step (first | (go_at_call 47; exact ext_of (hin _))))
 refine wpQuiet_nil ?_
 rintro _ ⟨e1, rfl⟩
 exact hQ _ e1.bel _ _ _ _ _ _ _ _ _ _ _ _ _ _ _ _ _ _ _ _ _ _ _ _ _ _ _ _ _ _ _ _ _ _ _ _ _ _ _ _ _ _ _ _ _ _ _
theorem gval_no {G : List (List Vx)} {h : Nat} (h1 : h + 1 < G.length) (hb : lvlB G[h]! G[h + 1]! = false) : gvalidB G = false := by
 unfold gvalidB
 rw [decide_eq_false (by omega), Bool.false_or, Bool.and_eq_false_iff]
 right
 rw [List.all_eq_false]
 exact ⟨h, by rw [List.mem_range]; omega, by rw [hb]; simp⟩
theorem lvl_no {ab l : List Vx} {k : Nat} (hk : k < l.length) (hb : (gfitB l[k]! ab && ordB l k) = false) : lvlB ab l = false := by
 unfold lvlB
 rw [Bool.and_eq_false_iff]
 left
 rw [List.all_eq_false]
 exact ⟨k, by rw [List.mem_range]; exact hk, by rw [hb]; simp⟩
theorem lvl_no2 {ab l : List Vx} {j : Nat} (hj : j < ab.length) (hb : fI l l.length j = false) : lvlB ab l = false := by
 unfold lvlB
 rw [Bool.and_eq_false_iff]
 right
 rw [Bool.and_eq_false_iff]
 right
 rw [List.all_eq_false]
 refine ⟨j, by rw [List.mem_range]; exact hj, ?_⟩
 unfold fI at hb
 rw [List.take_length] at hb
 rw [hb]; simp
theorem lvl_no3 {ab l : List Vx} (hb : l.length = 0) : lvlB ab l = false := by
 unfold lvlB
 rw [decide_eq_false (show ¬ l.length ≠ 0 by omega), Bool.false_and, Bool.and_false]
theorem lvl_yes {ab l : List Vx} (h1 : ∀ k, k < l.length → (gfitB l[k]! ab && ordB l k) = true) (h2 : ∀ j, j < ab.length → fI l l.length j = true) (h3 : ¬ l.length = 0) : lvlB ab l = true := by
 unfold lvlB
 rw [Bool.and_eq_true, Bool.and_eq_true, List.all_eq_true, List.all_eq_true]
 refine ⟨fun k hk => h1 k (List.mem_range.1 hk), decide_eq_true h3, fun j hj => ?_⟩
 have := h2 j (List.mem_range.1 hj)
 unfold fI at this
 rwa [List.take_length] at this
def tstB (v : Vx) (ab : List Vx) : Bool := if specV v then (!decide (v.par.length = 1) || (!specV (ab[(v.par[0]!).toNat]!) || !onlyB v.ex)) else decide (anyP ∈ v.ex)
theorem gfit_tst (v : Vx) (ab : List Vx) : gfitB v ab = (!badV v ab.length && !tstB v ab) := by
 unfold gfitB tstB
 congr 1
 split
 ·cases decide (v.par.length = 1) <;> cases specV (ab[(v.par[0]!).toNat]!) <;> cases onlyB v.ex <;> rfl
 ·rfl
theorem tst1 {P1 P2 P3 : Bool} (h : true = (!P1 || P2)) : ((!P2 && !P3) && P1) = false := by cases P1 <;> cases P2 <;> cases P3 <;> simp_all
theorem tst2 {P1 P2 : Bool} (h : false = (!P1 || P2)) : P1 = true ∧ P2 = false := by cases P1 <;> cases P2 <;> simp_all
theorem bad_in {v : Vx} {n : Nat} (h : badV v n = false) : ∀ p ∈ v.par, 0 ≤ p ∧ p < (n : Int) := by
 rw [ris_bad, Bool.or_eq_false_iff, Bool.or_eq_false_iff] at h
 have h2 : risB v.par n = true := by simpa using h.2.2
 unfold risB at h2
 rw [Bool.and_eq_true, List.all_eq_true] at h2
 intro p hp
 simpa using h2.2 p hp
theorem one_in {l : List B} {a : B} (h : l.length = 1) : decide (a ∈ l) = decide (l = [a]) := by
 obtain ⟨x, rfl⟩ := List.length_eq_one_iff.1 h
 by_cases e : a = x
 ·subst e; simp
 ·rw [decide_eq_false (by simpa using e), decide_eq_false (by intro q; simp at q; exact e q.symm)]
theorem GQ.at1' {w : World} {b o n c : Nat} {g : List Lv} (h : GQ w (.slice (some ⟨b, o, none⟩) n c) g) (W : World) (hW : Below w.heap.size w W) (k : Nat) (hk : k < g.length) : W.cell? ⟨b, o + k, none⟩ = some (g[k]).s.val := by
 obtain ⟨b', o', e, -, h⟩ := h.at1 W hW k hk
 simp only [Option.some.injEq, Addr.mk.injEq, and_true] at e
 obtain ⟨rfl, rfl⟩ := e
 exact h
theorem VQ.at3' {w : World} {b o n c : Nat} {l : List Vt} (h : VQ w (.slice (some ⟨b, o, none⟩) n c) l) (W : World) (hW : Below w.heap.size w W) (k : Nat) (hk : k < l.length) : W.cell? ⟨b, o + k * 3, none⟩ = some (.string (bstr (l[k]).n.pol)) ∧ W.cell? ⟨b, o + k * 3 + 1, none⟩ = some (l[k]).u.val ∧ W.cell? ⟨b, o + k * 3 + 2, none⟩ = some (l[k]).q.val := by
 obtain ⟨b', o', e, -, h⟩ := h.at3 W hW k hk
 simp only [Option.some.injEq, Addr.mk.injEq, and_true] at e
 obtain ⟨rfl, rfl⟩ := e
 exact h
theorem Ri.at' {w : World} {b o n c : Nat} {l : List Int} (h : Ri w (.slice (some ⟨b, o, none⟩) n c) l) (W : World) (hW : Below w.heap.size w W) (k : Nat) (hk : k < l.length) : W.cell? ⟨b, o + k, none⟩ = some (.int .i64 l[k]) := by
 obtain ⟨b', o', e, -, h⟩ := h.cells W hW k hk
 simp only [Option.some.injEq, Addr.mk.injEq, and_true] at e
 obtain ⟨rfl, rfl⟩ := e
 exact h
set_option maxRecDepth 100000 in
set_option maxHeartbeats 16000000 in
theorem rgvalid_q (w : World) (v : Value) (g : List Lv) (h : GQ w v g) (hn : g.length ≤ 100000) (hln : ∀ L ∈ g, L.vs.length ≤ 100000) :
  Calls Tryz.prog 16 #[v] w fun e w' => e = .returned (.bool (gvalidB (gxs g))) ∧ Below w.heap.size w w' := by
 obtain ⟨R, hR⟩ : ∃ R, R = gvalidB (gxs g) := ⟨_, rfl⟩
 rw [← hR]
 obtain ⟨ib, hib, hib0, hib1, hib2⟩ := info_parts info_boo
 obtain ⟨ad, c, rfl, -⟩ := h.rd.form
 have HG := Bx.mk h
 have HLN := Bx.mk hln
 have HGX := Bx.mk (fun k hk => gxs_at g k hk)
 have HR := Bx.mk hR
 obtain ⟨N, hN⟩ : ∃ N, N = g.length := ⟨_, rfl⟩
 have HN := Bx.mk hN
 rw [← hN] at hn HG ⊢
 clear h hln hR hN
 by_cases hz : N = 0
 ·have HF := Bx.mk (show R = true by rw [HR.out]; unfold gvalidB; rw [gxs_len, ← HN.out, decide_eq_true hz]; rfl)
  subst hz
  go_enter Tryz.func16, Tryz.ntmps16
  go_wp2_with fail
  go_ret
  exact ⟨by rw [HF.out]; rfl, Below.refl _ _⟩
 have hNp : 0 < N := by omega
 have t0 : ((N : Int) == 0) = false := by simp; omega
 have hg0 : 0 < g.length := by rw [← HN.out]; exact hNp
 obtain ⟨b, o, rfl, hbl, t00⟩ := HG.out.at1 w (Below.refl _ _) 0 hg0
 have HL0 := Bx.mk (HG.out.lv g[0] (List.getElem_mem hg0))
 have HX0 := Bx.mk (HGX.out 0 hg0)
 obtain ⟨L0, hL0⟩ : ∃ L, L = g[0] := ⟨_, rfl⟩
 rw [← hL0] at t00 HL0 HX0
 obtain ⟨a0, c0, hs0, -⟩ := HL0.out.rd.form
 rw [hs0] at t00 HL0
 obtain ⟨M0, hM0⟩ : ∃ M, M = L0.vs.length := ⟨_, rfl⟩
 have HM0 := Bx.mk hM0
 rw [← hM0] at t00 HL0
 simp only [Nat.add_zero] at t00
 have HNT := Bx.mk (show topB (gxs g)[0]! = false → R = false from fun h => by
  rw [HR.out]; unfold gvalidB
  rw [gxs_len, ← HN.out, decide_eq_false hz, h]; rfl)
 have HYT := Bx.mk (show topB (gxs g)[0]! = true → (∀ h, h + 1 < N → lvlB (gxs g)[h]! (gxs g)[h + 1]! = true) → R = true from fun h h2 => by
  rw [HR.out]; unfold gvalidB
  rw [gxs_len, ← HN.out, decide_eq_false hz, h, Bool.false_or, Bool.true_and, List.all_eq_true]
  intro k hk
  have := List.mem_range.1 hk
  exact h2 k (by omega))
 obtain ⟨T, hT⟩ : ∃ T, T = topB (gxs g)[0]! := ⟨_, rfl⟩
 rw [← hT] at HNT HYT
 rw [HX0.out] at hT
 have HT := Bx.mk hT
 clear hL0 hg0 hs0 hM0 hbl hz hT HX0
 have hNi : (0 : Int) < (N : Int) := by omega
 go_enter Tryz.func16, Tryz.ntmps16
 go_upto_region 4 with fail
 go_cut [44] (fun cc wx => cc = .bool (!T) ∧ Below w.heap.size w wx)
 case first =>
  as_aux_lemma =>
   by_cases hone : M0 = 1
   rotate_left
   ·have HF := Bx.mk (show T = false by rw [HT.out]; unfold topB; rw [vxs_len, ← HM0.out, decide_eq_false hone]; rfl)
    refine reg4_a (by simp; omega) (by simp; omega) ?_
    intro W' hb
    intros
    go_wp2_with fail
    go_meet
    exact ⟨by rw [HF.out]; rfl, hb⟩
   subst hone
   have h01 : 0 < L0.vs.length := by rw [← HM0.out]; omega
   obtain ⟨b0, o0, rfl, hbl0, x0, x1, x2⟩ := HL0.out.at3 w (Below.refl _ _) 0 h01
   have HA0 := Bx.mk (HL0.out.at_ L0.vs[0] (List.getElem_mem h01))
   have HE0 := Bx.mk (vxs_at L0.vs 0 h01)
   obtain ⟨y, hy⟩ : ∃ y, y = L0.vs[0] := ⟨_, rfl⟩
   rw [← hy] at x0 x1 x2 HA0 HE0
   have HTOP := Bx.mk (show T = (specV y.n && (onlyB y.n.ex && decide (y.n.par.length = 0))) by
    rw [HT.out]; unfold topB; rw [vxs_len, ← HM0.out, decide_eq_true rfl, Bool.true_and, HE0.out])
   obtain ⟨pa, pc, hpq, -⟩ := RqIn.form HA0.out.2.1
   obtain ⟨ua, uc, hup, -⟩ := HA0.out.1.form
   rw [hup] at x1
   rw [hpq] at x2
   simp only [Nat.zero_mul, Nat.add_zero] at x0 x1 x2
   have l3 := same_any y.n.pol
   by_cases q2 : y.n.pol = anyP
   rotate_left
   ·rw [decide_eq_false q2] at l3
    have HF := Bx.mk (show T = false by rw [HTOP.out]; unfold specV; rw [decide_eq_false q2]; rfl)
    have n0 := fun (e : Ext w) => (e.bel.cell (p := ⟨b0, o0, none⟩) hbl0).trans x0
    refine reg4_b n0 l3 ?_
    intro W' hb
    intros
    go_wp2_with fail
    go_meet
    exact ⟨by rw [HF.out]; rfl, hb⟩
   rw [decide_eq_true q2] at l3
   have hsm := fun W (hW : Below w.heap.size w W) u (hu : Rd W encS u [anyP]) => rsame_q W y.u.val u y.n.ex [anyP] (HA0.out.1.below hW) (.inr hu) (by have := HA0.out.2.2.1.1; omega)
   rw [hup] at hsm
   by_cases q3 : y.n.ex = [anyP]
   ·have HF := Bx.mk (show decide ((y.n.par.length : Int) > 0) = !T by
     rw [HTOP.out]; unfold specV onlyB; rw [decide_eq_true q2, decide_eq_true q3]
     by_cases e : y.n.par.length = 0
     ·rw [e]; rfl
     ·rw [decide_eq_false e, decide_eq_true (by omega)]; rfl)
    simp only [decide_eq_true q3] at hsm
    refine reg4_d x0 x1 x2 hbl0 l3 hsm ?_
    intro W' hb
    intros
    go_wp2_with fail
    go_meet
    exact ⟨by rw [HF.out], hb⟩
   ·have HF := Bx.mk (show T = false by rw [HTOP.out]; unfold onlyB; rw [decide_eq_false q3]; simp)
    simp only [decide_eq_false q3] at hsm
    refine reg4_c x0 x1 hbl0 l3 hsm ?_
    intro W' hb
    intros
    go_wp2_with fail
    go_meet
    exact ⟨by rw [HF.out]; rfl, hb⟩
 case rest =>
 obtain ⟨rfl, hb4⟩ := hcut
 have HB4 := Bx.mk hb4
 clear hb4 t00
 cases T with
 | false =>
  have HF := Bx.mk (HNT.out rfl)
  clear HNT HYT
  go_wp2_with fail
  go_ret
  exact ⟨by rw [HF.out]; rfl, HB4.out⟩
 | true =>
 have HYT2 := Bx.mk (HYT.out rfl)
 clear HNT HYT HT
 go_wp2_with fail
 go_loopw [4] (fun iv wr => ∃ i : Nat, 1 ≤ i ∧ i ≤ N ∧ iv = .int .i64 (i : Nat) ∧ Bx (∀ h, h + 1 < i → lvlB (gxs g)[h]! (gxs g)[h + 1]! = true) ∧ Bx (Below w.heap.size w wr)) (fun iv _ => N - (intOf iv).toNat)
 case atStart => exact ⟨1, by omega, by omega, rfl, ⟨fun h hh => by omega⟩, HB4⟩
 case round =>
  clear HB4
  obtain ⟨i, hi1, hi2, rfl, hV, hB⟩ := hrel
  by_cases hlt : i < N
  ·obtain ⟨h, hih⟩ : ∃ h, i = h + 1 := ⟨i - 1, by omega⟩
   have HIH := Bx.mk hih
   have hk0 : h < g.length := by rw [← HN.out]; omega
   have hk1 : i < g.length := by rw [← HN.out]; exact hlt
   have l0 := HG.out.at1' wr hB.out h hk0
   have l1 := HG.out.at1' wr hB.out i hk1
   have HVA := Bx.mk (HG.out.lv _ (List.getElem_mem hk0))
   have HVL := Bx.mk (HG.out.lv _ (List.getElem_mem hk1))
   have hla := HLN.out _ (List.getElem_mem hk0)
   have hll := HLN.out _ (List.getElem_mem hk1)
   have HXA := Bx.mk (HGX.out h hk0)
   have HXL := Bx.mk (HGX.out i hk1)
   have HNO := Bx.mk (show lvlB (gxs g)[h]! (gxs g)[i]! = false → R = false from fun e => by rw [HR.out]; rw [hih] at e; exact gval_no (by rw [gxs_len, ← hih]; exact hk1) e)
   obtain ⟨A, hA⟩ : ∃ L, L = g[h]'hk0 := ⟨_, rfl⟩
   obtain ⟨L, hL⟩ : ∃ L, L = g[i]'hk1 := ⟨_, rfl⟩
   rw [← hA] at l0 HVA hla HXA
   rw [← hL] at l1 HVL hll HXL
   rw [HXA.out, HXL.out] at HNO
   have HG1 := Bx.mk (fun (W : World) (hW : Below w.heap.size w W) => HG.out.at1' W hW h hk0)
   rw [← hA] at HG1
   obtain ⟨aa, ac, has, -⟩ := HVA.out.rd.form
   obtain ⟨la, lc, hls, -⟩ := HVL.out.rd.form
   rw [has] at l0 HVA HG1
   rw [hls] at l1 HVL
   obtain ⟨AN, hAN⟩ : ∃ n, n = A.vs.length := ⟨_, rfl⟩
   obtain ⟨M, hM⟩ : ∃ n, n = L.vs.length := ⟨_, rfl⟩
   have HAN := Bx.mk hAN
   have HM := Bx.mk hM
   rw [← hAN] at l0 HVA hla HG1
   rw [← hM] at l1 HVL hll
   have wi : IntKind.i64.wrap ((i : Int) - 1) = (h : Int) := by rw [IntWalk.i64_in _ (by omega)]; omega
   have hhN : h < N := by omega
   clear hA hL has hls hAN hM hk0 hk1 hih
   obtain ⟨wo, hwo⟩ : ∃ wo : World, wo = wr := ⟨_, rfl⟩
   have hmk := run_makeSlice (P := Tryz.prog) wr 75 4 ib (.bool false) Tryz.underlying75 hib hib0 .i64 .i64 (AN : Nat) (AN : Nat) (by omega) (by omega) (by rw [Int.toNat_natCast, hib1]; omega) (by rw [hib2]; omega) (by omega)
   simp only [Int.toNat_natCast, hib1, made_marks] at hmk
   obtain ⟨qm, hqm⟩ : ∃ q, q = wr.heap.size := ⟨_, rfl⟩
   obtain ⟨W1, hW1⟩ : ∃ W1, W1 = wr.alloc (.cells (Array.replicate AN (Value.bool false)) 4) := ⟨_, rfl⟩
   have hb1 : Below wr.heap.size wr W1 := by rw [hW1]; exact (Below.refl _ _).alloc (Nat.le_refl _) _
   have HB1 := Bx.mk (show Below wo.heap.size wo W1 by rw [hwo]; exact hb1)
   have HM1 := Bx.mk (show MB W1 qm (mkB AN (fI (vxs L.vs) 0)) by
    have e : mkB AN (fI (vxs L.vs) 0) = List.replicate AN false := by
     unfold mkB
     apply List.ext_getElem
     ·simp
     ·intro i h1 h2
      simp [fI_zero]
    rw [hW1, e]; unfold MB
    rw [List.map_replicate, List.toArray_replicate]
    exact alloc_at hqm)
   have HQM := Bx.mk (show qm = wo.heap.size by rw [hqm, hwo])
   have HBO := Bx.mk (show Below w.heap.size w wo by rw [hwo]; exact hB.out)
   clear hB hb1 hwo
   go_upto_region 11 with fail
   rw [← hW1, ← hqm]
   clear hmk hW1 hqm l0 l1
   go_wp2_with fail
   go_loopw [7] (fun kv wx => ∃ k : Nat, k ≤ M ∧ kv = .int .i64 k ∧ Bx (MB wx qm (mkB AN (fI (vxs L.vs) k))) ∧ Bx (∀ j, j < k → (gfitB (vxs L.vs)[j]! (vxs A.vs) && ordB (vxs L.vs) j) = true) ∧ Bx (Below wo.heap.size wo wx)) (fun kv _ => M - (intOf kv).toNat)
   case atStart => exact ⟨0, by omega, rfl, HM1, ⟨fun j hj => by omega⟩, HB1⟩
   case round =>
    clear HM1 HB1
    obtain ⟨k, hk, rfl, hMB, hFT, hBw⟩ := hrel
    by_cases hltk : k < M
    ·have HW := Bx.mk (HBO.out.trans (hBw.out.mono HBO.out.size))
     have hkl : k < L.vs.length := by rw [← HM.out]; exact hltk
     obtain ⟨lb, lo, rfl, hlb, -⟩ := HVL.out.at3 w (Below.refl _ _) k hkl
     have HVC := Bx.mk (fun (W : World) (hW : Below w.heap.size w W) => HVL.out.at3' W hW k hkl)
     have HXV := Bx.mk (HVL.out.at_ _ (List.getElem_mem hkl))
     have HXE := Bx.mk (vxs_at L.vs k hkl)
     obtain ⟨x, hx⟩ : ∃ x, x = L.vs[k] := ⟨_, rfl⟩
     rw [← hx] at HVC HXV HXE
     obtain ⟨pa, pc, hpq, -⟩ := RqIn.form HXV.out.2.1
     obtain ⟨ua, uc, hup, -⟩ := HXV.out.1.form
     obtain ⟨PN, hPN⟩ : ∃ n, n = x.n.par.length := ⟨_, rfl⟩
     obtain ⟨UN, hUN⟩ : ∃ n, n = x.n.ex.length := ⟨_, rfl⟩
     have HPN := Bx.mk hPN
     have HUN := Bx.mk hUN
     rw [hup, hpq, ← hPN, ← hUN] at HVC
     have HPR := Bx.mk (show Ri w (.slice pa PN pc) x.n.par by rw [hPN, ← hpq]; exact HXV.out.2.1)
     have HUR := Bx.mk (show Rq w (.slice ua UN uc) x.n.ex by rw [hUN, ← hup]; exact HXV.out.1)
     have hPNb : PN ≤ 100000 := by rw [hPN]; exact HXV.out.2.2.2.2
     have HUF := Bx.mk (show x.n.ex.length ≤ 100000 by have := HXV.out.2.2.1.1; omega)
     obtain ⟨BA, hBA⟩ : ∃ b, b = (!ordB (vxs L.vs) k || badV x.n AN) := ⟨_, rfl⟩
     have HBA := Bx.mk hBA
     obtain ⟨x0', x1', x2'⟩ := HVC.out wr HW.out
     clear hx hpq hup hPN hUN hBA
     go_upto_region 14 with fail
     clear x0' x1' x2'
     go_cut [114] (fun cc wy => cc = .bool BA ∧ Below wr.heap.size wr wy)
     case first =>
      as_aux_lemma =>
       have hext := fun (e : Ext wr) => HW.out.trans (e.bel.mono HW.out.size)
       have x0 := fun (e : Ext wr) => (HVC.out e.out (hext e)).1
       have x1 := fun (e : Ext wr) => (HVC.out e.out (hext e)).2.1
       have x2 := fun (e : Ext wr) => (HVC.out e.out (hext e)).2.2
       have hasc := fun (e : Ext wr) => rasc_q e.out (.slice ua UN uc) x.n.ex (HUR.out.below (hext e)) (by have := HUF.out; omega)
       have hris := fun (e : Ext wr) => rris_any e.out (.slice pa PN pc) x.n.par (HPR.out.below (hext e)) (by have := HPN.out; omega) AN
       have hbad := ris_bad x.n AN
       rw [← HPN.out] at hbad
       by_cases hk0 : k = 0
       ·have tk : decide ((k : Int) > 0) = false := decide_eq_false (by omega)
        have tk2 : decide (0 < k) = false := decide_eq_false (by omega)
        have hord : ordB (vxs L.vs) k = true := by unfold ordB; rw [decide_eq_true hk0]; rfl
        cases hA : ascB x.n.ex with
        | false =>
         have HB := Bx.mk (show BA = true by rw [HBA.out, hbad, hA]; simp)
         simp only [hA] at hasc
         refine reg14_c0 hltk tk tk2 x1 hasc ?_
         intro W' hb
         intros
         go_wp2_with fail
         go_meet
         exact ⟨by rw [HB.out], hb⟩
        | true =>
         simp only [hA] at hasc
         by_cases hp : PN = 0
         ·have HB := Bx.mk (show BA = true by rw [HBA.out, hbad, hA, decide_eq_true hp]; simp)
          refine reg14_d0 hltk tk tk2 x1 hasc x2 (by simp; omega) ?_
          intro W' hb
          intros
          go_wp2_with fail
          go_meet
          exact ⟨by rw [HB.out], hb⟩
         ·have HB := Bx.mk (show (!risB x.n.par AN) = BA by rw [HBA.out, hord, hbad, hA, decide_eq_false hp]; simp)
          refine reg14_e0 hltk tk tk2 x1 hasc x2 (by simp; omega) hris ?_
          intro W' hb
          intros
          go_wp2_with fail
          go_meet
          exact ⟨by rw [HB.out], hb⟩
       ·have tk : decide ((k : Int) > 0) = true := decide_eq_true (by omega)
        have tk2 : decide (0 < k) = true := decide_eq_true (by omega)
        obtain ⟨j, hkj⟩ : ∃ j, k = j + 1 := ⟨k - 1, by omega⟩
        have hjl : j < L.vs.length := by omega
        have hjM : j < M := by omega
        have wj : IntKind.i64.wrap ((k : Int) - 1) = (j : Int) := by rw [IntWalk.i64_in _ (by omega)]; omega
        have y0 := fun (e : Ext wr) => (HVL.out.at3' e.out (hext e) j hjl).1
        have hYE := vxs_at L.vs j hjl
        obtain ⟨y, hy⟩ : ∃ y, y = L.vs[j]'hjl := ⟨_, rfl⟩
        rw [← hy] at y0 hYE
        have l1 := less_bytes y.n.pol x.n.pol
        have l2 := less_bytes x.n.pol y.n.pol
        have l3 := same_bytes y.n.pol x.n.pol
        have hord0 : ordB (vxs L.vs) k = decide (y.n.pol < x.n.pol) := by
         unfold ordB
         rw [decide_eq_false hk0, Bool.false_or, HXE.out, show k - 1 = j by omega, hYE]
        by_cases hc : y.n.pol < x.n.pol
        ·rw [decide_eq_true hc] at l1
         rw [decide_eq_false (List.lt_asymm hc)] at l2
         rw [decide_eq_false (fun e => by rw [e] at hc; exact List.lt_irrefl _ hc)] at l3
         have hord : ordB (vxs L.vs) k = true := by rw [hord0, decide_eq_true hc]
         cases hA : ascB x.n.ex with
         | false =>
          have HB := Bx.mk (show BA = true by rw [HBA.out, hbad, hA]; simp)
          simp only [hA] at hasc
          refine reg14_c1 hltk hjM tk tk2 wj x0 y0 l1 l2 l3 x1 hasc ?_
          intro W' hb
          intros
          go_wp2_with fail
          go_meet
          exact ⟨by rw [HB.out], hb⟩
         | true =>
          simp only [hA] at hasc
          by_cases hp : PN = 0
          ·have HB := Bx.mk (show BA = true by rw [HBA.out, hbad, hA, decide_eq_true hp]; simp)
           refine reg14_d1 hltk hjM tk tk2 wj x0 y0 l1 l2 l3 x1 hasc x2 (by simp; omega) ?_
           intro W' hb
           intros
           go_wp2_with fail
           go_meet
           exact ⟨by rw [HB.out], hb⟩
          ·have HB := Bx.mk (show (!risB x.n.par AN) = BA by rw [HBA.out, hord, hbad, hA, decide_eq_false hp]; simp)
           refine reg14_e1 hltk hjM tk tk2 wj x0 y0 l1 l2 l3 x1 hasc x2 (by simp; omega) hris ?_
           intro W' hb
           intros
           go_wp2_with fail
           go_meet
           exact ⟨by rw [HB.out], hb⟩
        ·rw [decide_eq_false hc] at l1
         have HB := Bx.mk (show BA = true by rw [HBA.out, hord0, decide_eq_false hc]; rfl)
         by_cases h2 : x.n.pol < y.n.pol
         ·rw [decide_eq_true h2] at l2
          rw [decide_eq_false (fun e => hc (by rw [e] at h2; exact absurd h2 (List.lt_irrefl _)))] at l3
          refine reg14_a hltk hjM tk tk2 wj x0 y0 l1 l2 l3 ?_
          intro W' hb
          intros
          go_wp2_with fail
          go_meet
          exact ⟨by rw [HB.out], hb⟩
         ·rw [decide_eq_false h2] at l2
          rw [decide_eq_true (eqB hc h2)] at l3
          refine reg14_b hltk hjM tk tk2 wj x0 y0 l1 l2 l3 ?_
          intro W' hb
          intros
          go_wp2_with fail
          go_meet
          exact ⟨by rw [HB.out], hb⟩
     case rest =>
     obtain ⟨rfl, hb14⟩ := hcut
     obtain ⟨w5, hw5⟩ : ∃ w5, w5 = wc := ⟨_, rfl⟩
     rw [← hw5] at hb14 ⊢
     clear hw5
     have HB14 := Bx.mk hb14
     have HW5 := Bx.mk (HW.out.trans (hb14.mono HW.out.size))
     clear hb14
     have HNK := Bx.mk (fun e => HNO.out (lvl_no (k := k) (by rw [vxs_len]; exact hkl) e))
     rw [HXE.out, gfit_tst, vxs_len, ← HAN.out] at HNK
     cases BA with
     | true =>
      have HE := Bx.mk (show R = false from HNK.out (tst1 HBA.out))
      go_wp2_with fail
      go_ret
      exact ⟨by rw [HE.out]; rfl, HW5.out⟩
     | false =>
     have HOB := Bx.mk (tst2 HBA.out)
     have HPI := Bx.mk (bad_in HOB.out.2)
     obtain ⟨x0', x1', x2'⟩ := HVC.out w5 HW5.out
     have l3 := same_any x.n.pol
     obtain ⟨SP, hSP⟩ : ∃ s, s = specV x.n := ⟨_, rfl⟩
     rw [show decide (x.n.pol = anyP) = SP from hSP.symm] at l3
     have HSP := Bx.mk hSP
     obtain ⟨BB, hBB⟩ : ∃ s, s = tstB x.n (vxs A.vs) := ⟨_, rfl⟩
     have HBB := Bx.mk hBB
     rw [← hBB] at HNK
     clear HBA hSP hBB
     go_upto_region 17 with fail
     clear x0' x1' x2' l3
     go_cut [168] (fun cc wy => cc = .bool BB ∧ Below w5.heap.size w5 wy)
     case first =>
      as_aux_lemma =>
       have hext := fun (e : Ext w5) => HW5.out.trans (e.bel.mono HW5.out.size)
       have x1 := fun (e : Ext w5) => (HVC.out e.out (hext e)).2.1
       have x2 := fun (e : Ext w5) => (HVC.out e.out (hext e)).2.2
       have hin : ∀ (e : Ext w5), Calls Tryz.prog 47 #[.slice ua UN uc, .string ⟨#[50, 46, 53, 46, 50, 57, 46, 51, 50, 46, 48]⟩] e.out fun r w' => r = .returned (.bool (decide (anyP ∈ x.n.ex))) ∧ Below e.out.heap.size e.out w' := fun e =>
        (in_q e.out (.slice ua UN uc) x.n.ex anyP (HUR.out.below (hext e)) (by have := HUF.out; omega)).mono fun _ _ ⟨a, b⟩ => ⟨a, by rw [← b]; exact Below.refl _ _⟩
       have htst := HBB.out
       unfold tstB at htst
       rw [← HSP.out, ← HPN.out] at htst
       cases SP with
       | false =>
        have HB := Bx.mk (show decide (anyP ∈ x.n.ex) = BB by rw [htst]; rfl)
        refine reg17_a hltk x1 hin ?_
        intro W' hb
        intros
        go_wp2_with fail
        go_meet
        exact ⟨by rw [HB.out], hb⟩
       | true =>
        by_cases hp1 : PN = 1
        rotate_left
        ·have HB := Bx.mk (show BB = true by rw [htst, decide_eq_false hp1]; rfl)
         refine reg17_b hltk x2 (by simp; omega) (by simp; omega) ?_
         intro W' hb
         intros
         go_wp2_with fail
         go_meet
         exact ⟨by rw [HB.out], hb⟩
        have h0l : 0 < x.n.par.length := by rw [← HPN.out]; omega
        obtain ⟨pb, po, rfl, -, -⟩ := HPR.out.cells w (Below.refl _ _) 0 h0l
        have hp0 := HPI.out _ (List.getElem_mem h0l)
        obtain ⟨pn, hpn⟩ : ∃ p : Nat, x.n.par[0] = (p : Int) := ⟨(x.n.par[0]).toNat, by omega⟩
        have x3 := fun (e : Ext w5) => HPR.out.at' e.out (hext e) 0 h0l
        simp only [Nat.add_zero, hpn] at x3
        rw [hpn] at hp0
        have hpA : pn < AN := by omega
        have hpl : pn < A.vs.length := by rw [← HAN.out]; exact hpA
        obtain ⟨ab, ao, rfl, -, -⟩ := HVA.out.at3 w (Below.refl _ _) pn hpl
        have g1 := fun (e : Ext w5) => HG1.out e.out (hext e)
        have a0 := fun (e : Ext w5) => (HVA.out.at3' e.out (hext e) pn hpl).1
        have hYE := vxs_at A.vs pn hpl
        obtain ⟨y, hy⟩ : ∃ y, y = A.vs[pn]'hpl := ⟨_, rfl⟩
        rw [← hy] at a0 hYE
        have l3 := same_any y.n.pol
        have hsy : specV (vxs A.vs)[(x.n.par[0]!).toNat]! = decide (y.n.pol = anyP) := by
         rw [getElem!_pos x.n.par 0 h0l, hpn, Int.toNat_natCast, hYE]; rfl
        rw [hsy, decide_eq_true hp1] at htst
        subst hp1
        by_cases hs : y.n.pol = anyP
        rotate_left
        ·rw [decide_eq_false hs] at l3
         have HB := Bx.mk (show BB = true by rw [htst, decide_eq_false hs]; rfl)
         refine reg17_c hltk x2 x3 wi hhN g1 hpA a0 l3 ?_
         intro W' hb
         intros
         go_wp2_with fail
         go_meet
         exact ⟨by rw [HB.out], hb⟩
        rw [decide_eq_true hs] at l3 htst
        by_cases hu1 : UN = 1
        rotate_left
        ·have HB := Bx.mk (show BB = true by
          rw [htst]; unfold onlyB
          rw [decide_eq_false (fun e => hu1 (by rw [HUN.out, e]; rfl))]; rfl)
         refine reg17_d hltk x2 x3 wi hhN g1 hpA a0 l3 x1 (by simp; omega) (by simp; omega) ?_
         intro W' hb
         intros
         go_wp2_with fail
         go_meet
         exact ⟨by rw [HB.out], hb⟩
        have HB := Bx.mk (show (!decide (anyP ∈ x.n.ex)) = BB by
         rw [htst, one_in (by rw [← HUN.out]; exact hu1)]; rfl)
        refine reg17_e hltk x2 x3 wi hhN g1 hpA a0 l3 x1 (by simp; omega) (by simp; omega) hin ?_
        intro W' hb
        intros
        go_wp2_with fail
        go_meet
        exact ⟨by rw [HB.out], hb⟩
     case rest =>
     obtain ⟨rfl, hb17⟩ := hcut
     obtain ⟨w7, hw7⟩ : ∃ w7, w7 = wc := ⟨_, rfl⟩
     rw [← hw7] at hb17 ⊢
     clear hw7
     have HB17 := Bx.mk (HB14.out.trans (hb17.mono HB14.out.size))
     have HW7 := Bx.mk (HW5.out.trans (hb17.mono HW5.out.size))
     clear hb17
     cases BB with
     | true =>
      have HE := Bx.mk (show R = false from HNK.out (by simp))
      go_wp2_with fail
      go_ret
      exact ⟨by rw [HE.out]; rfl, HW7.out⟩
     | false =>
     have HM7 := Bx.mk (show MB w7 qm (mkB AN (fN (vxs L.vs) k x.n.par 0)) by
      rw [mkB_cong (fun r => fN_zero _ _ _ r)]
      exact (HB17.out.block qm (lt_of_some hMB.out)).trans hMB.out)
     have HB7 := Bx.mk (hBw.out.trans (HB17.out.mono hBw.out.size))
     have HFT2 := Bx.mk (show ∀ j, j < k + 1 → (gfitB (vxs L.vs)[j]! (vxs A.vs) && ordB (vxs L.vs) j) = true from fun j hj => by
      rcases Nat.lt_or_ge j k with e | e
      ·exact hFT.out j e
      ·obtain rfl : j = k := by omega
       rw [HXE.out, gfit_tst, vxs_len, ← HAN.out, HOB.out.1, HOB.out.2, ← HBB.out]; rfl)
     clear hMB hBw hFT HB14 HB17 HNK HSP HBB
     go_wp2_with fail
     go_loopw [9] (fun nv wy => ∃ n : Nat, n ≤ PN ∧ nv = .int .i64 n ∧ Bx (MB wy qm (mkB AN (fN (vxs L.vs) k x.n.par n))) ∧ Bx (Below wo.heap.size wo wy)) (fun nv _ => PN - (intOf nv).toNat)
     case atStart => exact ⟨0, by omega, rfl, HM7, HB7⟩
     case round =>
      clear HM7 HB7
      obtain ⟨n, hn2, rfl, hM3, hB3⟩ := hrel
      have HW9 := Bx.mk (HBO.out.trans (hB3.out.mono HBO.out.size))
      obtain ⟨-, -, x2'⟩ := HVC.out wr HW9.out
      by_cases hlt3 : n < PN
      ·have hnl : n < x.n.par.length := by rw [← HPN.out]; exact hlt3
       obtain ⟨b4, o4, rfl, -, d0⟩ := HPR.out.cells wr HW9.out n hnl
       have hpi := HPI.out _ (List.getElem_mem hnl)
       obtain ⟨p, hp⟩ : ∃ p : Nat, x.n.par[n] = (p : Int) := ⟨(x.n.par[n]).toNat, by omega⟩
       have HFS := Bx.mk (fun r => fN_succ (vxs L.vs) k x.n.par n hnl p hp r)
       rw [hp] at d0 hpi
       have hpl : p < AN := by omega
       have z1 := Go.Proofs.YtmagjdocondmhaaGreat.Rg.frozen_row (i := p) hM3.out
       have mc := hM3.out.cell p (by rw [mkB_len]; exact hpl)
       obtain ⟨W5, hW5⟩ : ∃ W5, W5 = wr.setCell ⟨qm, p, none⟩ (.bool true) := ⟨_, rfl⟩
       have HM5 := Bx.mk (show MB W5 qm (mkB AN (fN (vxs L.vs) k x.n.par (n + 1))) by
        have := hM3.out.set p true
        rw [mkB_set HFS.out] at this
        rw [hW5]; exact this)
       have HB5 := Bx.mk (show Below wo.heap.size wo W5 by
        rw [hW5]
        exact hB3.out.setCell (by show wo.heap.size ≤ qm; have := HQM.out; omega) _)
       have HW5' := Bx.mk hW5
       clear hp hpi hnl hW5
       go_wp2_with fail
       rw [← HW5'.out]
       go_roundw
       case rel => exact ⟨n + 1, by omega, by go_num, HM5, HB5⟩
       case measure => simp [intOf]; omega
      ·obtain rfl : n = PN := by omega
       have HME := Bx.mk (show MB wr qm (mkB AN (fI (vxs L.vs) (k + 1))) by
        have := hM3.out
        rw [HPN.out, ← HXE.out] at this
        rwa [mkB_cong (fun r => fN_all (vxs L.vs) k (by rw [vxs_len]; exact hkl) r)])
       go_wp2_with fail
       go_roundw
       case rel => exact ⟨k + 1, by omega, by go_num, HME, HFT2, hB3⟩
       case measure => simp [intOf]; omega
    ·obtain rfl : k = M := by omega
     go_wp2_with fail
     go_loopw [10] (fun nv wx => ∃ n : Nat, n ≤ AN ∧ nv = .int .i64 n ∧ Bx (MB wx qm (mkB AN (fI (vxs L.vs) k))) ∧ Bx (∀ j, j < n → fI (vxs L.vs) k j = true) ∧ Bx (Below wo.heap.size wo wx)) (fun nv _ => AN - (intOf nv).toNat)
     case atStart => exact ⟨0, by omega, rfl, hMB, ⟨fun j hj => by omega⟩, hBw⟩
     case round =>
      clear hMB hBw
      obtain ⟨n, hn2, rfl, hMB, hKD, hBw⟩ := hrel
      by_cases hltn : n < AN
      ·have mc := hMB.out.cell n (by rw [mkB_len]; exact hltn)
       rw [show (mkB AN (fI (vxs L.vs) k))[n]! = fI (vxs L.vs) k n by
        rw [getElem!_pos _ n (by rw [mkB_len]; exact hltn)]; simp [mkB]] at mc
       obtain ⟨F, hF⟩ : ∃ F, F = fI (vxs L.vs) k n := ⟨_, rfl⟩
       rw [← hF] at mc
       have HF := Bx.mk hF
       clear hF
       cases F with
       | true =>
        have HK2 := Bx.mk (show ∀ j, j < n + 1 → fI (vxs L.vs) k j = true from fun j hj => by
         rcases Nat.lt_or_ge j n with e | e
         ·exact hKD.out j e
         ·obtain rfl : j = n := by omega
          exact HF.out.symm)
        go_wp2_with fail
        go_roundw
        case rel => exact ⟨n + 1, by omega, by go_num, hMB, HK2, hBw⟩
        case measure => simp [intOf]; omega
       | false =>
        have HE := Bx.mk (show R = false from HNO.out (lvl_no2 (j := n) (by rw [vxs_len, ← HAN.out]; exact hltn) (by rw [vxs_len, ← HM.out]; exact HF.out.symm)))
        go_wp2_with fail
        go_ret
        exact ⟨by rw [HE.out]; rfl, HBO.out.trans (hBw.out.mono HBO.out.size)⟩
      ·obtain rfl : n = AN := by omega
       by_cases hM0 : k = 0
       ·have HE := Bx.mk (show R = false from HNO.out (lvl_no3 (by rw [vxs_len, ← HM.out]; exact hM0)))
        have tm : ((k : Int) == 0) = true := by simp; omega
        clear hM0
        go_wp2_with fail
        go_ret
        exact ⟨by rw [HE.out]; rfl, HBO.out.trans (hBw.out.mono HBO.out.size)⟩
       ·have HV2 := Bx.mk (show ∀ h', h' + 1 < i + 1 → lvlB (gxs g)[h']! (gxs g)[h' + 1]! = true from fun h' hh => by
         have hih := HIH.out
         rcases Nat.lt_or_ge h' h with e | e
         ·exact hV.out h' (by omega)
         ·obtain rfl : h' = h := by omega
          rw [← hih, HXA.out, HXL.out]
          exact lvl_yes (fun j hj => hFT.out j (by rw [vxs_len, ← HM.out] at hj; exact hj)) (fun j hj => by rw [vxs_len, ← HM.out]; exact hKD.out j (by rw [vxs_len, ← HAN.out] at hj; exact hj)) (by rw [vxs_len, ← HM.out]; exact hM0))
        have tm : ((k : Int) == 0) = false := by simp; omega
        have HB9 := Bx.mk (HBO.out.trans (hBw.out.mono HBO.out.size))
        clear hM0
        go_wp2_with fail
        go_roundw
        case rel => exact ⟨i + 1, by omega, by omega, by go_num, HV2, HB9⟩
        case measure => simp [intOf]; omega
  ·obtain rfl : i = N := by omega
   have HE := Bx.mk (show R = true from HYT2.out hV.out)
   go_wp2_with fail
   go_ret
   exact ⟨by rw [HE.out]; rfl, hB.out⟩
end Go.Proofs.YtmagjdocondmhaaGreat.Tr.Gr
namespace Go.Proofs.YtmagjdocondmhaaGreat.Tr
open Go Go.RowKit Go.Proofs.YtmagjdocondmhaaGreat.Slc Go.Proofs.YtmagjdocondmhaaGreat.St Go.Proofs.YtmagjdocondmhaaGreat.Mp Go.Proofs.YtmagjdocondmhaaGreat.Rg
attribute [local go_sem] Oper.semAt_some
def sK (l : List (B × B)) (k : Nat) : List B := ((l.take k).filter okM).map (·.1)
theorem sK_succ (l : List (B × B)) (k : Nat) (hk : k < l.length) : sK l (k + 1) = sK l k ++ if okM l[k] then [l[k].1] else [] := by
 unfold sK
 rw [List.take_succ_eq_append_getElem hk, List.filter_append, List.map_append]
 cases h : okM l[k] <;> simp [List.filter_cons, h]
theorem sK_all (l : List (B × B)) : setB (sK l l.length) = srcL l := by unfold sK srcL; rw [List.take_length]
set_option maxRecDepth 100000 in
set_option maxHeartbeats 4000000 in
theorem sources_any (w : World) (v : Value) (l : List (B × B)) (h : Rd w encP v l) (hn : l.length ≤ 100000) :
  Calls Tryz.prog 66 #[v] w fun e w' => ∃ v', e = .returned v' ∧ Slc.Own w' w.heap.size 9 1 encS v' (srcL l) ∧ Below w.heap.size w w' := by
 obtain ⟨i0, hi0, hz0, hz1, hz2⟩ := info_parts info_str
 obtain ⟨ad, c, rfl, -⟩ := h.form
 have HC := Bx.mk (maps_cells h).2
 obtain ⟨N, hN⟩ : ∃ N, N = l.length := ⟨_, rfl⟩
 have HN := Bx.mk hN
 rw [← hN] at hn ⊢
 clear h hN
 go_enter Tryz.func66, Tryz.ntmps66
 go_wp2_with fail
 go_loopw [3, 4] (fun ov i wr => ∃ (k : Nat) (out : List B), k ≤ N ∧ i = .int .i64 k ∧ out.length ≤ k ∧ Bx (GS w w.heap.size wr ov out) ∧ Bx (out = sK l k)) (fun _ i _ => N - (intOf i).toNat)
 case atStart => exact ⟨0, [], by omega, rfl, by simp, ⟨GS.nil w _ (Nat.le_refl _)⟩, ⟨by simp [sK, gK]⟩⟩
 case round =>
  obtain ⟨k, out, hk, rfl, hlen, hG, hF⟩ := hrel
  obtain ⟨av, cv, rfl, -⟩ := hG.out.form
  have hb0 : Below w.heap.size w wr := hG.out.bel
  by_cases hlt : k < N
  ·have hkl : k < l.length := by rw [← HN.out]; exact hlt
   obtain ⟨b, o, rfl, hbl, c0, c1⟩ := HC.out wr hb0 k hkl
   have HKS := Bx.mk (sK_succ l k hkl)
   obtain ⟨x, hx⟩ : ∃ x, x = l[k] := ⟨_, rfl⟩
   rw [← hx] at c0 c1 HKS
   obtain ⟨R, hR⟩ : ∃ R, R = (okM x) := ⟨_, rfl⟩
   rw [← hR] at HKS
   have HR := Bx.mk hR
   have l0 := same_any x.1
   have l1 := same_any x.2
   clear hx hkl hbl hR hb0
   go_upto_region 5 with fail
   go_cut [24] (fun c wx => c = .bool R ∧ wx = wr)
   case first =>
    have HR1 := Bx.mk (show R = okM x from HR.out)
    by_cases q0 : x.1 = anyP
    ·rw [decide_eq_true q0] at l0
     have HRR := Bx.mk (show R = false by rw [HR1.out]; unfold okM; rw [q0]; simp)
     generalize bstr x.1 = X at *
     clear q0
     go_wp2_with fail
     go_meet
     exact ⟨by rw [HRR.out], rfl⟩
    ·rw [decide_eq_false q0] at l0
     by_cases q1 : x.2 = anyP
     ·rw [decide_eq_true q1] at l1
      have HRR := Bx.mk (show R = false by rw [HR1.out]; unfold okM; rw [q1]; simp)
      generalize bstr x.1 = X at *
      generalize bstr x.2 = Y at *
      clear q0 q1
      go_wp2_with fail
      go_meet
      exact ⟨by rw [HRR.out], rfl⟩
     ·rw [decide_eq_false q1] at l1
      have HRR := Bx.mk (show R = true by rw [HR1.out]; unfold okM; simp [q0, q1])
      generalize bstr x.1 = X at *
      generalize bstr x.2 = Y at *
      clear q0 q1
      go_wp2_with fail
      go_meet
      exact ⟨by rw [HRR.out], rfl⟩
   case rest =>
    obtain ⟨rfl, hwc⟩ := hcut
    subst hwc
    clear l0 l1
    cases R with
    | true =>
     have HSRC := Bx.mk (src_str wc x.1)
     have HOWN := Bx.mk (show Slc.Own (wc.alloc (.cells #[.string (bstr x.1)] 9)) w.heap.size 9 1 encS (.slice av out.length cv) out from hG.out.own.below ((Below.refl _ _).alloc (Nat.le_refl _) _))
     have HG3 := Bx.mk (hG.out.below (show Below wc.heap.size wc (wc.alloc (.cells #[.string (bstr x.1)] 9)) from (Below.refl _ _).alloc (Nat.le_refl _) _))
     have hm1 : out.length + 1 ≤ maxLen := by unfold maxLen; omega
     have hm2 : (out.length + 1) * 16 ≤ 140737488355328 := by omega
     have hbz : w.heap.size ≤ (wc.alloc (.cells #[.string (bstr x.1)] 9)).heap.size := HG3.out.sz
     go_wp2_with (at_builtin; refine wpList_append_any rfl _ _ _ rfl w.heap.size 9 i0 _ 1 16 und_strs hi0 hz0 hz1 hz2 rfl (by decide) _ out.length (out.flatMap encS) rfl HOWN.out _ 1 ([x.1].flatMap encS) rfl HSRC.out hm1 hm2 hbz ?_)
     intro v9 w9 hapd
     have HG9 := Bx.mk (HG3.out.apd (m := [x.1]) hapd)
     have HF9 := Bx.mk (show out ++ [x.1] = sK l (k + 1) by rw [HKS.out, hF.out]; rfl)
     clear hapd hm1 hm2 hbz
     go_wp2_with fail
     go_roundw
     case rel => exact ⟨k + 1, out ++ [x.1], by omega, by go_num, by simp; omega, HG9, HF9⟩
     case measure => simp [intOf]; omega
    | false =>
     have HF9 := Bx.mk (show out = sK l (k + 1) by rw [HKS.out, hF.out]; simp)
     go_wp2_with fail
     go_roundw
     case rel => exact ⟨k + 1, out, by omega, by go_num, by omega, hG, HF9⟩
     case measure => simp [intOf]; omega
  ·obtain rfl : k = N := by omega
   have hset := rset_any wr _ out hG.out.own.rd (by omega)
   have HF2 := Bx.mk (show srcL l = setB out by rw [hF.out, HN.out]; exact (sK_all l).symm)
   clear hF
   have HBW := Bx.mk hb0
   clear hb0
   go_wp2_with fail
   go_at_call 54
   refine hset.mono ?_
   rintro e w2 ⟨v2, rfl, ho, hb2⟩
   obtain ⟨a2, c2, rfl, -⟩ := ho.rd.form
   have HO := Bx.mk ho
   have HB2 := Bx.mk hb2
   clear hset ho hb2
   go_wp2_with fail
   go_ret
   refine ⟨_, rfl, ?_, HBW.out.trans (HB2.out.mono HBW.out.size)⟩
   rw [HF2.out]
   exact HO.out.mono HBW.out.size
set_option maxRecDepth 100000 in
set_option maxHeartbeats 4000000 in
theorem subjects_any (w : World) (v : Value) (l : List (B × B)) (p : B) (h : Rd w encP v l) (hn : l.length ≤ 100000) :
  Calls Tryz.prog 67 #[v, .string (bstr p)] w fun e w' => ∃ v', e = .returned v' ∧ Slc.Own w' w.heap.size 9 1 encS v' (subL l p) ∧ Below w.heap.size w w' := by
 obtain ⟨i0, hi0, hz0, hz1, hz2⟩ := info_parts info_str
 obtain ⟨ad, c, rfl, -⟩ := h.form
 have HC := Bx.mk (maps_cells h).2
 obtain ⟨N, hN⟩ : ∃ N, N = l.length := ⟨_, rfl⟩
 have HN := Bx.mk hN
 rw [← hN] at hn ⊢
 clear h hN
 obtain ⟨P, hP⟩ : ∃ P, P = bstr p := ⟨_, rfl⟩
 have HP := Bx.mk hP
 rw [← hP]
 clear hP
 go_enter Tryz.func67, Tryz.ntmps67
 go_wp2_with fail
 go_loopw [5, 6] (fun ov i wr => ∃ (k : Nat) (out : List B), k ≤ N ∧ i = .int .i64 k ∧ out.length ≤ k ∧ Bx (GS w w.heap.size wr ov out) ∧ Bx (out = gK l k p)) (fun _ i _ => N - (intOf i).toNat)
 case atStart => exact ⟨0, [], by omega, rfl, by simp, ⟨GS.nil w _ (Nat.le_refl _)⟩, ⟨by simp [sK, gK]⟩⟩
 case round =>
  obtain ⟨k, out, hk, rfl, hlen, hG, hF⟩ := hrel
  obtain ⟨av, cv, rfl, -⟩ := hG.out.form
  have hb0 : Below w.heap.size w wr := hG.out.bel
  by_cases hlt : k < N
  ·have hkl : k < l.length := by rw [← HN.out]; exact hlt
   obtain ⟨b, o, rfl, hbl, c0, c1⟩ := HC.out wr hb0 k hkl
   have HKS := Bx.mk (gK_succ l k hkl p)
   obtain ⟨x, hx⟩ : ∃ x, x = l[k] := ⟨_, rfl⟩
   rw [← hx] at c0 c1 HKS
   obtain ⟨R, hR⟩ : ∃ R, R = (decide (x.1 = p) && okM x) := ⟨_, rfl⟩
   rw [← hR] at HKS
   have HR := Bx.mk hR
   have l0 := same_any x.1
   have l1 := same_any x.2
   have l2 := same_bytes x.1 p
   rw [← HP.out] at l2
   clear hx hkl hbl hR hb0
   go_upto_region 5 with fail
   go_cut [35] (fun c wx => c = .bool R ∧ wx = wr)
   case first =>
    by_cases q2 : x.1 = p
    ·rw [decide_eq_true q2] at l2
     have HR1 := Bx.mk (show R = okM x by rw [HR.out, decide_eq_true q2, Bool.true_and])
     clear q2
     by_cases q0 : x.1 = anyP
     ·rw [decide_eq_true q0] at l0
      have HRR := Bx.mk (show R = false by rw [HR1.out]; unfold okM; rw [q0]; simp)
      generalize bstr x.1 = X at *
      clear q0
      go_wp2_with fail
      go_meet
      exact ⟨by rw [HRR.out], rfl⟩
     ·rw [decide_eq_false q0] at l0
      by_cases q1 : x.2 = anyP
      ·rw [decide_eq_true q1] at l1
       have HRR := Bx.mk (show R = false by rw [HR1.out]; unfold okM; rw [q1]; simp)
       generalize bstr x.1 = X at *
       generalize bstr x.2 = Y at *
       clear q0 q1
       go_wp2_with fail
       go_meet
       exact ⟨by rw [HRR.out], rfl⟩
      ·rw [decide_eq_false q1] at l1
       have HRR := Bx.mk (show R = true by rw [HR1.out]; unfold okM; simp [q0, q1])
       generalize bstr x.1 = X at *
       generalize bstr x.2 = Y at *
       clear q0 q1
       go_wp2_with fail
       go_meet
       exact ⟨by rw [HRR.out], rfl⟩
    ·rw [decide_eq_false q2] at l2
     have HRR := Bx.mk (show R = false by rw [HR.out, decide_eq_false q2, Bool.false_and])
     generalize bstr x.1 = X at *
     clear q2
     go_wp2_with fail
     go_meet
     exact ⟨by rw [HRR.out], rfl⟩
   case rest =>
    obtain ⟨rfl, hwc⟩ := hcut
    subst hwc
    clear l0 l1 l2
    cases R with
    | true =>
     have HSRC := Bx.mk (src_str wc x.2)
     have HOWN := Bx.mk (show Slc.Own (wc.alloc (.cells #[.string (bstr x.2)] 9)) w.heap.size 9 1 encS (.slice av out.length cv) out from hG.out.own.below ((Below.refl _ _).alloc (Nat.le_refl _) _))
     have HG3 := Bx.mk (hG.out.below (show Below wc.heap.size wc (wc.alloc (.cells #[.string (bstr x.2)] 9)) from (Below.refl _ _).alloc (Nat.le_refl _) _))
     have hm1 : out.length + 1 ≤ maxLen := by unfold maxLen; omega
     have hm2 : (out.length + 1) * 16 ≤ 140737488355328 := by omega
     have hbz : w.heap.size ≤ (wc.alloc (.cells #[.string (bstr x.2)] 9)).heap.size := HG3.out.sz
     go_wp2_with (at_builtin; refine wpList_append_any rfl _ _ _ rfl w.heap.size 9 i0 _ 1 16 und_strs hi0 hz0 hz1 hz2 rfl (by decide) _ out.length (out.flatMap encS) rfl HOWN.out _ 1 ([x.2].flatMap encS) rfl HSRC.out hm1 hm2 hbz ?_)
     intro v9 w9 hapd
     have HG9 := Bx.mk (HG3.out.apd (m := [x.2]) hapd)
     have HF9 := Bx.mk (show out ++ [x.2] = gK l (k + 1) p by rw [HKS.out, hF.out]; rfl)
     clear hapd hm1 hm2 hbz
     go_wp2_with fail
     go_roundw
     case rel => exact ⟨k + 1, out ++ [x.2], by omega, by go_num, by simp; omega, HG9, HF9⟩
     case measure => simp [intOf]; omega
    | false =>
     have HF9 := Bx.mk (show out = gK l (k + 1) p by rw [HKS.out, hF.out]; simp)
     go_wp2_with fail
     go_roundw
     case rel => exact ⟨k + 1, out, by omega, by go_num, by omega, hG, HF9⟩
     case measure => simp [intOf]; omega
  ·obtain rfl : k = N := by omega
   have hset := rset_any wr _ out hG.out.own.rd (by omega)
   have HF2 := Bx.mk (show subL l p = setB out by rw [hF.out, HN.out]; exact (gK_all l p).symm)
   clear hF
   have HBW := Bx.mk hb0
   clear hb0
   go_wp2_with fail
   go_at_call 54
   refine hset.mono ?_
   rintro e w2 ⟨v2, rfl, ho, hb2⟩
   obtain ⟨a2, c2, rfl, -⟩ := ho.rd.form
   have HO := Bx.mk ho
   have HB2 := Bx.mk hb2
   clear hset ho hb2
   go_wp2_with fail
   go_ret
   refine ⟨_, rfl, ?_, HBW.out.trans (HB2.out.mono HBW.out.size)⟩
   rw [HF2.out]
   exact HO.out.mono HBW.out.size
end Go.Proofs.YtmagjdocondmhaaGreat.Tr
namespace Go.Proofs.YtmagjdocondmhaaGreat.Tr
open Go Go.RowKit Go.Proofs.YtmagjdocondmhaaGreat.Slc Go.Proofs.YtmagjdocondmhaaGreat.St Go.Proofs.YtmagjdocondmhaaGreat.Mp Go.Proofs.YtmagjdocondmhaaGreat.Rg
attribute [local go_sem] Oper.semAt_some
end Go.Proofs.YtmagjdocondmhaaGreat.Tr
