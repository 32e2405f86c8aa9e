/-
pgraph.Size, pgraph.Root.
pgraph.Policies.
certpathlaw32.awake.
-/
import Derived.Test.YtmagjdocondmhaaGreatPkSs17
import Derived.Test.YtmagjdocondmhaaGreatPkSs23
import Derived.Test.YtmagjdocondmhaaGreatPkSs19
import Derived.Test.YtmagjdocondmhaaGreatPkSs24
namespace Go.Proofs.YtmagjdocondmhaaGreat.Tr.Gr
open Go Go.RowKit Go.Proofs.YtmagjdocondmhaaGreat.Slc Go.Proofs.YtmagjdocondmhaaGreat.St Go.Proofs.YtmagjdocondmhaaGreat.Mp Go.Proofs.YtmagjdocondmhaaGreat.Tr Go.Proofs.YtmagjdocondmhaaGreat.Rg
set_option linter.unusedVariables false
set_option linter.unusedSimpArgs false
attribute [local go_sem] Oper.semAt_some

/-- the number of vertices in the first k levels -/
def sizK (g : List (List Vx)) (k : Nat) : Nat := ((g.take k).map List.length).sum
def sizG (g : List (List Vx)) : Nat := sizK g g.length
theorem sizK_succ (g : List (List Vx)) (k : Nat) (hk : k < g.length) : sizK g (k + 1) = sizK g k + (g[k]!).length := by
  unfold sizK
  rw [List.take_succ_eq_append_getElem hk, List.map_append, List.sum_append, getElem!_pos g k hk]; simp
theorem sizK_le {g : List (List Vx)} (h : ∀ l ∈ g, l.length ≤ 100000) (k : Nat) (hk : k ≤ g.length) : sizK g k ≤ k * 100000 := by
  induction k with
  | zero => simp [sizK]
  | succ k ih =>
    rw [sizK_succ g k (by omega), getElem!_pos g k (by omega)]
    have := ih (by omega)
    have := h _ (List.getElem_mem (show k < g.length by omega))
    omega
set_option maxRecDepth 100000 in
set_option maxHeartbeats 4000000 in
theorem gsize_any (w : World) (v : Value) (g : List Lv) (h : GQ w v g) (hn : g.length ≤ 100000) (hln : ∀ L ∈ g, L.vs.length ≤ 100000) :
    Calls Tryz.prog 17 #[v] w fun e w' => e = .returned (.int .i64 (sizG (gxs g) : Nat)) ∧ Below w.heap.size w w' := by
  obtain ⟨ad, c, rfl, -⟩ := h.rd.form
  have HG := Bx.mk h
  have HLN := Bx.mk hln
  obtain ⟨N, hN⟩ : ∃ N, N = g.length := ⟨_, rfl⟩
  have HN := Bx.mk hN
  have HSL := Bx.mk (show ∀ k, k ≤ N → sizK (gxs g) k ≤ k * 100000 from fun k hk => sizK_le (fun l hl => by
    obtain ⟨L0, h0, rfl⟩ := List.mem_map.1 hl
    rw [vxs_len]; exact hln L0 h0) k (by rw [gxs_len, ← hN]; exact hk))
  rw [← hN] at hn ⊢
  clear h hln hN
  go_enter Tryz.func17, Tryz.ntmps17
  go_wp2_with fail
  go_loopw [3, 8] (fun s i wr => ∃ (k n : Nat), k ≤ N ∧ i = .int .i64 k ∧ s = .int .i64 n ∧ Bx (n = sizK (gxs g) k) ∧ Bx (Below w.heap.size w wr)) (fun _ i _ => N - (intOf i).toNat)
  case atStart => exact ⟨0, 0, by omega, rfl, rfl, ⟨by simp [sizK]⟩, ⟨Below.refl _ _⟩⟩
  case round =>
    obtain ⟨k, n, hk, rfl, rfl, hS, hB⟩ := hrel
    by_cases hlt : k < N
    · have hkl : k < g.length := by rw [← HN.out]; exact hlt
      obtain ⟨b, o, rfl, -, c0⟩ := HG.out.at1 wr hB.out k hkl
      have HSS := Bx.mk (show sizK (gxs g) (k + 1) = sizK (gxs g) k + (g[k]).vs.length by rw [sizK_succ _ k (by rw [gxs_len]; exact hkl), gxs_at g k hkl, vxs_len])
      obtain ⟨la, lc, hls, -⟩ := (HG.out.lv _ (List.getElem_mem hkl)).rd.form
      rw [hls] at c0
      obtain ⟨M, hM⟩ : ∃ M, M = (g[k]'hkl).vs.length := ⟨_, rfl⟩
      rw [← hM] at c0 HSS
      clear hls hM hkl
      have hb := HSL.out (k + 1) (by omega)
      rw [HSS.out, ← hS.out] at hb
      have hw1 : IntKind.i64.wrap ((n : Int) + (M : Int)) = ((n + M : Nat) : Int) := by rw [IntWalk.i64_in _ (by omega)]; omega
      have hba : Below wr.heap.size wr (wr.alloc (.cells #[.slice la M lc] 63)) := (Below.refl _ _).alloc (Nat.le_refl _) _
      have HB2 := Bx.mk (hB.out.trans (hba.mono hB.out.size))
      have HS2 := Bx.mk (show n + M = sizK (gxs g) (k + 1) by rw [HSS.out, hS.out])
      clear hba
      go_wp2_with fail
      go_roundw
      case rel => exact ⟨k + 1, n + M, by omega, by go_num, by go_num, HS2, HB2⟩
      case measure => simp [intOf]; omega
    · obtain rfl : N = k := by omega
      have HS2 := Bx.mk (show n = sizG (gxs g) by rw [hS.out]; unfold sizG; rw [gxs_len, HN.out])
      go_wp2_with fail
      go_ret
      exact ⟨by rw [← HS2.out]; rfl, hB.out⟩
def rootG : List (List Vx) := [[⟨anyP, [anyP], []⟩]]
set_option maxRecDepth 100000 in
theorem groot_any (w : World) : Calls Tryz.prog 20 #[] w fun e w' => ∃ v' g', e = .returned v' ∧ GO w' w.heap.size v' g' ∧ gxs g' = rootG ∧ Below w.heap.size w w' := by
  go_enter Tryz.func20, Tryz.ntmps20
  go_wp2
  go_ret
  obtain ⟨W1, hW1⟩ : ∃ W1, W1 = w.alloc (.cells #[.string ⟨#[50, 46, 53, 46, 50, 57, 46, 51, 50, 46, 48]⟩] 9) := ⟨_, rfl⟩
  have ho1 : Slc.Own W1 w.heap.size 9 1 encS (.slice (some ⟨w.heap.size, 0, none⟩) 1 1) [anyP] := by
    rw [hW1]; exact own_alloc encS_ok w [anyP] _ rfl (Nat.le_refl _) (by unfold maxLen; simp)
  have hs1 : W1.heap.size = w.heap.size + 1 := by rw [hW1]; simp
  have hb1 : Below w.heap.size w W1 := by rw [hW1]; exact (Below.refl _ _).alloc (Nat.le_refl _) _
  rw [← hW1]
  obtain ⟨W2, hW2⟩ : ∃ W2, W2 = W1.alloc (.cells #[.string ⟨#[50, 46, 53, 46, 50, 57, 46, 51, 50, 46, 48]⟩, .slice (some ⟨w.heap.size, 0, none⟩) 1 1, .slice none 0 0] 65) := ⟨_, rfl⟩
  have ho2 : Slc.Own W2 w.heap.size 65 3 encV (.slice (some ⟨w.heap.size + 1, 0, none⟩) 1 1) [⟨⟨anyP, [anyP], []⟩, ⟨some ⟨w.heap.size, 0, none⟩, 1, 1⟩, ⟨none, 0, 0⟩⟩] := by
    rw [hW2, ← hs1]; exact own_alloc encV_ok W1 [⟨⟨anyP, [anyP], []⟩, ⟨some ⟨w.heap.size, 0, none⟩, 1, 1⟩, ⟨none, 0, 0⟩⟩] _ rfl (by omega) (by unfold maxLen; simp)
  have hs2 : W2.heap.size = w.heap.size + 2 := by rw [hW2]; simp [hs1]
  have hb2 : Below w.heap.size w W2 := by rw [hW2]; exact hb1.alloc (by omega) _
  have ho12 : Slc.Own W2 w.heap.size 9 1 encS (.slice (some ⟨w.heap.size, 0, none⟩) 1 1) [anyP] := by rw [hW2]; exact ho1.below ((Below.refl _ _).alloc (Nat.le_refl _) _)
  rw [← hW2]
  obtain ⟨W3, hW3⟩ : ∃ W3, W3 = W2.alloc (.cells #[.slice (some ⟨w.heap.size + 1, 0, none⟩) 1 1] 63) := ⟨_, rfl⟩
  have hba : Below W2.heap.size W2 W3 := by rw [hW3]; exact (Below.refl _ _).alloc (Nat.le_refl _) _
  have ho3 : Slc.Own W3 w.heap.size 63 1 encL (.slice (some ⟨w.heap.size + 2, 0, none⟩) 1 1) [⟨[⟨⟨anyP, [anyP], []⟩, ⟨some ⟨w.heap.size, 0, none⟩, 1, 1⟩, ⟨none, 0, 0⟩⟩], ⟨some ⟨w.heap.size + 1, 0, none⟩, 1, 1⟩⟩] := by
    rw [hW3, ← hs2]; exact own_alloc encL_ok W2 [⟨[⟨⟨anyP, [anyP], []⟩, ⟨some ⟨w.heap.size, 0, none⟩, 1, 1⟩, ⟨none, 0, 0⟩⟩], ⟨some ⟨w.heap.size + 1, 0, none⟩, 1, 1⟩⟩] _ rfl (by omega) (by unfold maxLen; simp)
  rw [← hW3]
  refine ⟨_, [⟨[⟨⟨anyP, [anyP], []⟩, ⟨some ⟨w.heap.size, 0, none⟩, 1, 1⟩, ⟨none, 0, 0⟩⟩], ⟨some ⟨w.heap.size + 1, 0, none⟩, 1, 1⟩⟩], rfl, ⟨ho3, fun L hL => ?_, fun i j hi hj hij => ?_, fun L hL k hk => ?_, fun L hL x hx => ?_⟩, rfl, hb2.trans (hba.mono hb2.size)⟩
  · rw [List.mem_singleton] at hL; subst hL; exact ho2.below hba
  · simp only [List.length_singleton] at hi hj; omega
  · rw [List.mem_singleton] at hL; subst hL
    have hk' : some (w.heap.size + 1) = some k := hk
    rw [← hk']
    simp [Value.ownBlock]
  · rw [List.mem_singleton] at hL; subst hL
    rw [List.mem_singleton] at hx; subst hx
    refine ⟨⟨(ho12.below hba).rd, fun k hk hn => ?_⟩, .inl ⟨rfl, _, _, rfl⟩, ⟨by simp, fun b hb => ?_⟩, by show 11 ≤ 1000000; omega, by simp, fun p hp => by cases hp⟩
    · have hk' : some w.heap.size = some k := hk
      simp only [Option.some.injEq] at hk'
      rcases hn with hn | ⟨L, hL, hn⟩
      · have : some (w.heap.size + 2) = some k := hn
        simp only [Option.some.injEq] at this; omega
      · rw [List.mem_singleton] at hL; subst hL
        have : some (w.heap.size + 1) = some k := hn
        simp only [Option.some.injEq] at this; omega
    · rw [List.mem_singleton] at hb; subst hb
      show 11 ≤ 1000000; omega
end Go.Proofs.YtmagjdocondmhaaGreat.Tr.Gr
namespace Go.Proofs.YtmagjdocondmhaaGreat.Tr.Gr
open Go Go.RowKit Go.Proofs.YtmagjdocondmhaaGreat.Slc Go.Proofs.YtmagjdocondmhaaGreat.St Go.Proofs.YtmagjdocondmhaaGreat.Mp Go.Proofs.YtmagjdocondmhaaGreat.Tr Go.Proofs.YtmagjdocondmhaaGreat.Rg
set_option linter.unusedVariables false
set_option linter.unusedSimpArgs false
attribute [local go_sem] Oper.semAt_some

/-- vertices whose policies are told -/
def polV (g : List (List Vx)) (k : Nat) (v : Vx) : Bool := (decide (0 ≤ fndP g[k - 1]! anyP) && decide (fndP g[k - 1]! anyP ∈ v.par)) && (!specV v || decide (k = g.length - 1))
def polL (g : List (List Vx)) (k : Nat) : List B := (List.range k).flatMap fun i => if i = 0 then [] else ((g[i]!).filter (polV g i)).map (·.pol)
def polM (g : List (List Vx)) (k j : Nat) : List B := polL g k ++ (((g[k]!).take j).filter (polV g k)).map (·.pol)
theorem polM_zero (g : List (List Vx)) (k : Nat) : polM g k 0 = polL g k := by simp [polM]
theorem polM_all (g : List (List Vx)) (k : Nat) (hk : 0 < k) : polM g k (g[k]!).length = polL g (k + 1) := by
  unfold polM polL
  rw [List.take_length, List.range_succ, List.flatMap_append]
  simp [show ¬ k = 0 by omega]
theorem polM_succ (g : List (List Vx)) (k j : Nat) (hj : j < (g[k]!).length) : polM g k (j + 1) = polM g k j ++ if polV g k (g[k]!)[j]! then [((g[k]!)[j]!).pol] else [] := by
  unfold polM
  generalize g[k]! = l at hj ⊢
  rw [List.take_succ_eq_append_getElem hj, List.filter_append, List.map_append, List.append_assoc, getElem!_pos l j hj]
  congr 2
  cases h : polV g k l[j] <;> simp [List.filter_cons, h]
theorem polL_one (g : List (List Vx)) : polL g 1 = [] := by simp [polL]
theorem polL_zero (g : List (List Vx)) : polL g 0 = [] := by simp [polL]
/-- Policies -/
def gpolP (g : List (List Vx)) : List B := if gvalidB g then setB (polL g g.length) else []
set_option maxRecDepth 100000 in
set_option maxHeartbeats 8000000 in
theorem gpol_any (w : World) (v : Value) (g : List Lv) (h : GQ w v g) (hn : g.length ≤ 1000) (hln : ∀ L ∈ g, L.vs.length ≤ 1000) :
    Calls Tryz.prog 31 #[v] w fun e w' => ∃ v', e = .returned v' ∧ Slc.Own w' w.heap.size 9 1 encS v' (gpolP (gxs g)) ∧ Below w.heap.size w w' := by
  have hval := gvalid_q w v g h (by omega) (fun L hL => by have := hln L hL; omega)
  obtain ⟨ad, c, rfl, -⟩ := h.rd.form
  have HQ := Bx.mk h
  have HLN := Bx.mk hln
  obtain ⟨N, hN⟩ : ∃ N, N = g.length := ⟨_, rfl⟩
  have HN := Bx.mk hN
  obtain ⟨R, hR⟩ : ∃ R, R = gpolP (gxs g) := ⟨_, rfl⟩
  rw [← hR]
  unfold gpolP at hR
  obtain ⟨V, hV⟩ : ∃ V, V = gvalidB (gxs g) := ⟨_, rfl⟩
  rw [← hV] at hval hR
  have HV := Bx.mk hV
  have HRR := Bx.mk hR
  rw [← hN] at hn hval ⊢
  clear h hln hN hV hR
  go_enter Tryz.func31, Tryz.ntmps31
  go_wp2_with fail
  go_at_call 15
  refine hval.mono ?_
  rintro e w1 ⟨rfl, hb1⟩
  clear hval
  cases V with
  | false =>
    have HF := Bx.mk (show R = [] by rw [HRR.out]; rfl)
    go_wp2_with fail
    go_ret
    exact ⟨_, rfl, by rw [HF.out]; exact Slc.Own.nil _ _, hb1⟩
  | true =>
    have HGL := Bx.mk (HQ.out.gl HV.out.symm (fun L hL => by have := HLN.out L hL; omega))
    have HRF := Bx.mk (show R = setB (polL (gxs g) N) by rw [HRR.out, if_pos rfl, gxs_len, HN.out])
    have HB1 := Bx.mk hb1
    have hmm := @run_makeMap Tryz.prog
    obtain ⟨W3, hW3⟩ : ∃ W3, W3 = w1.alloc (.map #[] 0) := ⟨_, rfl⟩
    obtain ⟨fm, hfm⟩ : ∃ be, be = w1.heap.size := ⟨_, rfl⟩
    have HFM := Bx.mk (show w.heap.size ≤ fm by rw [hfm]; exact hb1.size)
    have HM3 := Bx.mk (show ∃ q, q ≤ 1 * 1000 ∧ OwnF W3 kS rdB edB fm q (exF (polL (gxs g) 1)) by rw [polL_one, exF_nil]; exact ⟨0, by omega, by rw [hW3, hfm]; exact OwnF.made w1 kS rdB edB⟩)
    have HBA := Bx.mk (show Below w.heap.size w W3 by rw [hW3]; exact hb1.alloc hb1.size _)
    clear hb1
    go_upto_region 4 with fail
    rw [← hW3, ← hfm]
    clear hW3 hfm hmm
    go_wp2_with fail
    go_loopw [4] (fun i wr => ∃ k : Nat, 1 ≤ k ∧ (k ≤ N ∨ k = 1) ∧ i = .int .i64 k ∧ Bx (∃ q, q ≤ k * 1000 ∧ OwnF wr kS rdB edB fm q (exF (polL (gxs g) k))) ∧ Bx (Below w.heap.size w wr)) (fun i _ => N - (intOf i).toNat)
    case atStart => exact ⟨1, by omega, .inr rfl, rfl, HM3, HBA⟩
    case round =>
      clear HM3 HBA
      obtain ⟨k, hk1, hk, rfl, hO, hB⟩ := hrel
      by_cases hlt : k < N
      · have hkl : k < g.length := by rw [← HN.out]; exact hlt
        have hkl1 : k - 1 < g.length := by omega
        have hgb := HGL.out.below hB.out
        obtain ⟨b, o, rfl, -, c0⟩ := HQ.out.at1 wr hB.out k hkl
        obtain ⟨b', o', hbe, -, c1⟩ := HQ.out.at1 wr hB.out (k - 1) hkl1
        simp only [Option.some.injEq, Addr.mk.injEq, and_true] at hbe
        obtain ⟨rfl, rfl⟩ := hbe
        have HVL := Bx.mk (hgb.lv _ (List.getElem_mem hkl))
        have HVA := Bx.mk (hgb.lv _ (List.getElem_mem hkl1))
        have hll := HLN.out _ (List.getElem_mem hkl)
        have hla := HLN.out _ (List.getElem_mem hkl1)
        have HXL := Bx.mk (gxs_at g k hkl)
        have HXA := Bx.mk (gxs_at g (k - 1) hkl1)
        obtain ⟨L, hL⟩ : ∃ L, L = g[k]'hkl := ⟨_, rfl⟩
        obtain ⟨A, hA⟩ : ∃ A, A = g[k - 1]'hkl1 := ⟨_, rfl⟩
        rw [← hL] at c0 HVL hll HXL
        have HLG := Bx.mk (show L ∈ g by rw [hL]; exact List.getElem_mem hkl)
        rw [← hA] at c1 HVA hla HXA
        obtain ⟨lad, lc, hls, -⟩ := HVL.out.rd.form
        obtain ⟨aad, ac, has, -⟩ := HVA.out.rd.form
        have HLS := Bx.mk hls
        rw [hls] at c0 HVL
        rw [has] at c1 HVA
        have hfd := find_any wr (.slice aad A.vs.length ac) A.vs HVA.out (by omega) anyP
        rw [anyP_str] at hfd
        obtain ⟨ST, hST⟩ : ∃ ST, ST = fndP (vxs A.vs) anyP := ⟨_, rfl⟩
        have HST := Bx.mk (show fndP (gxs g)[k - 1]! anyP = ST by rw [HXA.out, hST])
        rw [← hST] at hfd
        obtain ⟨M, hM⟩ : ∃ M, M = L.vs.length := ⟨_, rfl⟩
        obtain ⟨AN, hAN⟩ : ∃ M, M = A.vs.length := ⟨_, rfl⟩
        have HM := Bx.mk hM
        rw [← hM] at c0 hll
        rw [← hAN] at c1 hla hfd
        clear hL hA hls has hST hM hAN hgb hkl hkl1 HVA
        go_wp2_with fail
        go_at_call 50
        refine hfd.mono ?_
        rintro e w3 ⟨rfl, hb3⟩
        have HB3 := Bx.mk hb3
        have c0' := (hb3.cell (p := ⟨b, o + k, none⟩) (World.block_lt_of_cell? wr _ c0)).trans c0
        have HVL3 := Bx.mk (HVL.out.below hb3)
        have HBW3 := Bx.mk (hB.out.trans (hb3.mono hB.out.size))
        have HO3 := Bx.mk (show ∃ q, q ≤ k * 1000 + 0 ∧ OwnF w3 kS rdB edB fm q (exF (polM (gxs g) k 0)) by
          rw [polM_zero]
          obtain ⟨q, h1, h2⟩ := hO.out
          exact ⟨q, by omega, h2.below hb3⟩)
        clear hfd c0 c1 hb3 HVL hO hB
        go_wp2_with fail
        clear c0'
        go_loopw [30] (fun i wr => ∃ j : Nat, j ≤ M ∧ i = .int .i64 j ∧ Bx (∃ q, q ≤ k * 1000 + j ∧ OwnF wr kS rdB edB fm q (exF (polM (gxs g) k j))) ∧ Bx (Below w3.heap.size w3 wr ∨ True) ∧ Bx (Below w.heap.size w wr)) (fun i _ => M - (intOf i).toNat)
        case atStart => exact ⟨0, by omega, rfl, HO3, ⟨.inr trivial⟩, HBW3⟩
        case round =>
          clear HO3
          obtain ⟨j, hj, rfl, hO, -, hB⟩ := hrel
          by_cases hltj : j < M
          · have hjl : j < L.vs.length := by rw [← HM.out]; exact hltj
            obtain ⟨bv, ov, rfl, -, c0, c1, c2⟩ := VL.at3 (HGL.out.lv _ HLG.out |> fun q => by rw [HLS.out] at q; exact q) wr hB.out j hjl
            have HXA2 := Bx.mk (((HGL.out.lv _ HLG.out).at_ _ (List.getElem_mem hjl)))
            have HXN := Bx.mk (vxs_at L.vs j hjl)
            obtain ⟨x, hx⟩ : ∃ x, x = L.vs[j]'hjl := ⟨_, rfl⟩
            rw [← hx] at c0 c1 c2 HXA2 HXN
            simp only [Sl.val] at c1 c2
            have HPS := Bx.mk (polM_succ (gxs g) k j (by rw [HXL.out, vxs_len, ← HM.out]; exact hltj))
            obtain ⟨R1, hR1⟩ : ∃ R1, R1 = polV (gxs g) k x.n := ⟨_, rfl⟩
            have HPS2 := Bx.mk (show polM (gxs g) k (j + 1) = polM (gxs g) k j ++ if R1 then [x.n.pol] else [] by rw [HPS.out, HXL.out, HXN.out, hR1])
            have HRV := Bx.mk (show R1 = ((decide (0 ≤ ST) && decide (ST ∈ x.n.par)) && (!specV x.n || decide (k = N - 1))) by rw [hR1]; unfold polV; rw [HST.out, gxs_len, HN.out])
            have HPL := Bx.mk HXA2.out.2.2.2.1
            have HPAL := Bx.mk HXA2.out.2.2.2.2.1
            clear hx hjl hR1 HPS
            obtain ⟨W4, hW4⟩ : ∃ W4, W4 = wr.alloc (.cells #[.string (bstr x.n.pol), .slice x.u.ad x.u.n x.u.c, .slice x.q.ad x.q.n x.q.c] 65) := ⟨_, rfl⟩
            obtain ⟨q7, hq7⟩ : ∃ q, q = wr.heap.size := ⟨_, rfl⟩
            have HR4 := Bx.mk (show W4.heap[q7]? = some (.cells #[.string (bstr x.n.pol), .slice x.u.ad x.u.n x.u.c, .slice x.q.ad x.q.n x.q.c] 65 (0, 0)) by rw [hW4, hq7]; exact heap_alloc_new _ _)
            have hba : Below wr.heap.size wr W4 := by rw [hW4]; exact (Below.refl _ _).alloc (Nat.le_refl _) _
            have HB4 := Bx.mk (hB.out.trans (hba.mono hB.out.size))
            have HO4 := Bx.mk (show ∃ q, q ≤ k * 1000 + j ∧ OwnF W4 kS rdB edB fm q (exF (polM (gxs g) k j)) by obtain ⟨q, h1, h2⟩ := hO.out; exact ⟨q, h1, h2.below hba⟩)
            have hci := containsI_any W4 x.q.val x.n.par ST (Ri.below HXA2.out.2.1 HB4.out) (by have := HPAL.out; omega)
            simp only [Sl.val] at hci
            have HSP := Bx.mk (gspec_any x W4)
            clear hO hB hba
            go_upto_region 11 with fail
            rw [← hW4, ← hq7]
            clear hW4 hq7 c0 c1 c2
            go_cut [53] (fun cc wx => cc = .bool R1 ∧ Below W4.heap.size W4 wx)
            case first =>
              have hr4 := HR4.out
              have m0 := cell_of_row _ _ 0 _ _ _ hr4
              have m1 := cell_of_row _ _ 1 _ _ _ hr4
              have m2 := cell_of_row _ _ 2 _ _ _ hr4
              simp only [List.getElem?_toArray, List.getElem?_cons_zero, List.getElem?_cons_succ] at m0 m1 m2
              have hsp := HSP.out
              unfold verV at hsp
              simp only [Sl.val] at hsp
              have hRw := HRV.out
              obtain ⟨tc, htc⟩ : ∃ t, t = decide (ST ∈ x.n.par) := ⟨_, rfl⟩
              obtain ⟨ts, hts⟩ : ∃ t, t = specV x.n := ⟨_, rfl⟩
              rw [← htc] at hci hRw
              rw [← hts] at hsp hRw
              clear hr4 htc hts HRV
              by_cases hst : 0 ≤ ST
              · have t35 : decide (ST ≥ 0) = true := decide_eq_true hst
                rw [decide_eq_true hst, Bool.true_and] at hRw
                have HH := Bx.mk hRw
                clear hRw
                go_wp2_with fail
                go_at_call 78
                refine hci.mono ?_
                rintro e w5 ⟨rfl, rfl⟩
                clear hci
                cases tc with
                | false =>
                  go_wp2_with fail
                  go_meet
                  exact ⟨by rw [HH.out]; rfl, Below.refl _ _⟩
                | true =>
                  go_wp2_with fail
                  go_at_call 41
                  refine hsp.mono ?_
                  rintro e w6 ⟨rfl, hb6⟩
                  clear hsp m0 m1 m2
                  cases ts with
                  | false =>
                    go_wp2_with fail
                    go_meet
                    exact ⟨by rw [HH.out]; rfl, hb6⟩
                  | true =>
                    by_cases hkn : k = N - 1
                    · have tk : ((k : Int) == (N : Int) - 1) = true := by simp; omega
                      have HH3 := Bx.mk (show R1 = true by rw [HH.out, decide_eq_true hkn]; rfl)
                      clear hkn
                      go_wp2_with fail
                      go_meet
                      exact ⟨by rw [HH3.out], hb6⟩
                    · have tk : ((k : Int) == (N : Int) - 1) = false := by simp; omega
                      have HH3 := Bx.mk (show R1 = false by rw [HH.out, decide_eq_false hkn]; rfl)
                      go_wp2_with fail
                      go_meet
                      exact ⟨by rw [HH3.out], hb6⟩
              · have t35 : decide (ST ≥ 0) = false := decide_eq_false hst
                have HH := Bx.mk (show R1 = false by rw [hRw, decide_eq_false hst]; rfl)
                clear hRw hci hsp
                go_wp2_with fail
                go_meet
                exact ⟨by rw [HH.out], Below.refl _ _⟩
            case rest =>
            obtain ⟨rfl, hbx⟩ := hcut
            have HBX := Bx.mk (HB4.out.trans (hbx.mono HB4.out.size))
            obtain ⟨q, hq, hop⟩ := HO4.out
            have hr5 := (hbx.block q7 (lt_of_some HR4.out)).trans HR4.out
            have m0 := cell_of_row _ _ 0 _ _ _ hr5
            simp only [List.getElem?_toArray, List.getElem?_cons_zero, List.getElem?_cons_succ] at m0
            cases R1 with
            | true =>
              have hopx := hop.below hbx
              obtain ⟨w6, hrun, ho6, hg6⟩ := hopx.putS u_mapSB (by unfold maxLen; omega) (k := x.n.pol) (by have := HPL.out; unfold maxLen; omega) true (.bool true) (rdB_mk _)
              have HO6 := Bx.mk (show ∃ q, q ≤ k * 1000 + (j + 1) ∧ OwnF w6 kS rdB edB fm q (exF (polM (gxs g) k (j + 1))) by
                rw [HPS2.out, if_pos rfl, exF_snoc]; exact ⟨_, by omega, ho6⟩)
              have HB6 := Bx.mk (HBX.out.grown hg6 HBX.out.size fun i hi => by simp only [Option.some.injEq] at hi; have := HFM.out; omega)
              have hrun' : (Instr.mapUpdate 98 (.map (some fm)) (.string (bstr x.n.pol)) (.bool true)).run Tryz.prog wc = .ok () w6 := hrun
              clear hr5 hop hq hbx hopx ho6 hg6 hrun
              go_wp2_with fail
              go_roundw
              case rel => exact ⟨j + 1, by omega, by go_num, HO6, ⟨.inr trivial⟩, HB6⟩
              case measure => simp [intOf]; omega
            | false =>
              have HO6 := Bx.mk (show ∃ q, q ≤ k * 1000 + (j + 1) ∧ OwnF wc kS rdB edB fm q (exF (polM (gxs g) k (j + 1))) by
                rw [HPS2.out, if_neg (by simp), List.append_nil]; exact ⟨q, by omega, hop.below hbx⟩)
              clear hr5 hop hq hbx
              go_wp2_with fail
              go_roundw
              case rel => exact ⟨j + 1, by omega, by go_num, HO6, ⟨.inr trivial⟩, HBX⟩
              case measure => simp [intOf]; omega
          · obtain rfl : j = M := by omega
            have HO4 := Bx.mk (show ∃ q, q ≤ (k + 1) * 1000 ∧ OwnF wr kS rdB edB fm q (exF (polL (gxs g) (k + 1))) by
              obtain ⟨q, h1, h2⟩ := hO.out
              rw [HM.out, ← vxs_len, ← HXL.out, polM_all _ _ (by omega)] at h2
              exact ⟨q, by omega, h2⟩)
            go_wp2_with fail
            go_roundw
            case rel => exact ⟨k + 1, by omega, .inl (by omega), by go_num, HO4, hB⟩
            case measure => simp [intOf]; omega
      · obtain ⟨q, hq, hop⟩ := hO.out
        have hPN : polL (gxs g) k = polL (gxs g) N := by
          rcases hk with e | e
          · rw [show k = N by omega]
          · subst e
            rcases Nat.lt_or_ge 0 N with e1 | e1
            · rw [show N = 1 by omega]
            · rw [show N = 0 by omega, polL_one, polL_zero]
        have hsk := sortedTB fm q _ wr hop (by omega) (setB (polL (gxs g) N)) (setB_asc _) (fun p => by
          rw [setB_mem, hPN]; unfold exF
          by_cases e : p ∈ polL (gxs g) N <;> simp [e])
        have hkk := keysTB (some fm) wr
        obtain ⟨W6, hW6⟩ : ∃ W6, W6 = wr.alloc (.cells #[.map (some fm)] 98) := ⟨_, rfl⟩
        obtain ⟨kb, hkb⟩ : ∃ kb, kb = wr.heap.size := ⟨_, rfl⟩
        have HKB := Bx.mk hkb
        have HB6 := Bx.mk (show Below wr.heap.size wr W6 by rw [hW6]; exact (Below.refl _ _).alloc (Nat.le_refl _) _)
        have HS6 := Bx.mk (show W6.heap.size = kb + 1 by rw [hW6, hkb]; simp)
        have HBW := Bx.mk hB.out
        rw [← hW6, ← hkb] at hsk hkk
        have hdl : decide ((k : Int) < (N : Int)) = false := decide_eq_false (by omega)
        clear hO hop hq hPN hW6 hkb hB
        go_wp2_with fail
        go_at_call 79
        refine hkk.mono ?_
        rintro e w6 ⟨rfl, rfl⟩
        clear hkk
        go_wp2_with fail
        go_at_call 63
        refine hsk.mono ?_
        rintro e w7 ⟨sv, rfl, ho7, hb7⟩
        obtain ⟨sa, sc, rfl, -⟩ := ho7.rd.form
        have hle : w.heap.size ≤ kb + 1 := by have := HBW.out.size; have := HKB.out; omega
        have HO7 := Bx.mk (show Slc.Own w7 w.heap.size 9 1 encS (.slice sa (setB (polL (gxs g) N)).length sc) R by rw [HRF.out]; exact ho7.mono hle)
        have HB7 := Bx.mk (show Below w.heap.size w w7 from HBW.out.trans ((HB6.out.mono HBW.out.size).trans (hb7.mono hle)))
        clear hsk ho7 hb7
        go_wp2_with fail
        go_ret
        exact ⟨_, rfl, HO7.out, HB7.out⟩
end Go.Proofs.YtmagjdocondmhaaGreat.Tr.Gr
namespace Go.Proofs.YtmagjdocondmhaaGreat.Tr.Gr
open Go Go.RowKit Go.Proofs.YtmagjdocondmhaaGreat.Slc Go.Proofs.YtmagjdocondmhaaGreat.St Go.Proofs.YtmagjdocondmhaaGreat.Mp Go.Proofs.YtmagjdocondmhaaGreat.Tr Go.Proofs.YtmagjdocondmhaaGreat.Rg
set_option linter.unusedVariables false
set_option linter.unusedSimpArgs false
attribute [local go_sem] Oper.semAt_some

def p12 : B := [49, 46, 50]
def p13 : B := [49, 46, 51]
def p51 : B := [53, 46, 49]
def p52 : B := [53, 46, 50]
/-- levels are short -/
def litG (K : Nat) (g : List (List Vx)) : Bool := g.all fun l => decide (l.length ≤ K) && (decide ((allJ l l.length).length ≤ K) && l.all fun v => decide (v.par.length ≤ K))
theorem litG_len {K : Nat} {g : List Lv} (h : litG K (gxs g) = true) : ∀ L ∈ g, L.vs.length ≤ K := fun L hL => by
  have := List.all_eq_true.1 h (vxs L.vs) (List.mem_map.2 ⟨L, hL, rfl⟩)
  simp only [Bool.and_eq_true, decide_eq_true_eq] at this
  have := this.1
  rwa [vxs_len] at this
theorem litG_all {K : Nat} {g : List Lv} (h : litG K (gxs g) = true) : ∀ L ∈ g, (allJ (vxs L.vs) L.vs.length).length ≤ K := fun L hL => by
  have := List.all_eq_true.1 h (vxs L.vs) (List.mem_map.2 ⟨L, hL, rfl⟩)
  simp only [Bool.and_eq_true, decide_eq_true_eq] at this
  have := this.2.1
  rwa [vxs_len] at this
theorem litG_pb {K : Nat} {g : List (List Vx)} (h : litG K g = true) : PB K g := fun l hl v hv => by
  have := List.all_eq_true.1 h l hl
  simp only [Bool.and_eq_true, decide_eq_true_eq, List.all_eq_true] at this
  exact this.2.2 v hv
def awG1 : List (List Vx) × Int := genterP rootG [p12, p13] true
def awG2 : List (List Vx) × Int := gmapP awG1.1 [(p12, p51), (p12, p52), (p13, p51), (p13, p52)] true
def awG3 : List (List Vx) × Int := genterP awG2.1 [p51, p52] true
def awG4 : List (List Vx) × Int := gresP awG3.1 [p13]
theorem ag0 : litG 1000 rootG = true := by kernel_rfl
theorem ag1 : awG1.2 = 0 ∧ awG1.1.length = 2 ∧ litG 1000 awG1.1 = true := ⟨by kernel_rfl, by kernel_rfl, by kernel_rfl⟩
theorem ag2 : awG2.2 = 0 ∧ awG2.1.length = 2 ∧ litG 1000 awG2.1 = true := ⟨by kernel_rfl, by kernel_rfl, by kernel_rfl⟩
theorem ag3 : awG3.2 = 0 ∧ awG3.1.length = 3 ∧ litG 1000 awG3.1 = true := ⟨by kernel_rfl, by kernel_rfl, by kernel_rfl⟩
theorem ag3' : (awG3.1[2]!).length = 2 ∧ ((awG3.1[2]!)[0]!).par.length = 2 ∧ sizG awG3.1 = 5 ∧ gvalidB awG3.1 = true := ⟨by kernel_rfl, by kernel_rfl, by kernel_rfl, by kernel_rfl⟩
theorem ag4 : awG4.2 = 0 ∧ litG 1000 awG4.1 = true ∧ awG4.1.length = 3 := ⟨by kernel_rfl, by kernel_rfl, by kernel_rfl⟩
theorem ag5 : gpolP awG4.1 = [p13] := by kernel_rfl
theorem rdS {w : World} {l : List B} {cs : Array Value} (hc : cs.toList = l.flatMap encS) (hl : l.length ≤ 1000) : Rd (w.alloc (.cells cs 9)) encS (.slice (some ⟨w.heap.size, 0, none⟩) l.length l.length) l :=
  (own_alloc (Bk := w.heap.size) encS_ok w l cs hc (Nat.le_refl _) (by unfold maxLen; omega)).rd
theorem rdM {w : World} {l : List (B × B)} {cs : Array Value} (hc : cs.toList = l.flatMap encP) (hl : l.length ≤ 1000) : Rd (w.alloc (.cells cs 49)) encP (.slice (some ⟨w.heap.size, 0, none⟩) l.length l.length) l :=
  (own_alloc (Bk := w.heap.size) encP_ok w l cs hc (Nat.le_refl _) (by unfold maxLen; omega)).rd
/-- what a function says, its answer known -/
theorem GrP.ok {w : World} {R : List (List Vx) × Int} {e : Ending} {w' : World} (h : GrP w R e w') {c : Int} (hc : R.2 = c) : ∃ ad k g', e = .returned (.tuple #[.slice ad g'.length k, .int .i64 c]) ∧ GO w' w.heap.size (.slice ad g'.length k) g' ∧ gxs g' = R.1 ∧ Below w.heap.size w w' := by
  obtain ⟨v', l', he, ho, hn, hb⟩ := h
  obtain ⟨ad, k, rfl, -⟩ := ho.own.rd.form
  exact ⟨ad, k, l', by rw [he, hc], ho, hn, hb⟩
set_option maxRecDepth 100000 in
set_option maxHeartbeats 8000000 in
theorem gawake_any (w : World) : Calls Tryz.prog 11 #[] w fun e w' => e = .returned (.bool true) ∧ Below w.heap.size w w' := by
  have h0 := groot_any w
  go_enter Tryz.func11, Tryz.ntmps11
  go_wp2_with fail
  go_at_call 20
  refine h0.mono ?_
  rintro e w1 ⟨v1, g1, rfl, ho1, hn1, hb1⟩
  obtain ⟨a1, c1, rfl, -⟩ := ho1.own.rd.form
  obtain ⟨W1, hW1⟩ : ∃ W1, W1 = w1.alloc (.cells #[.string ⟨#[49, 46, 50]⟩, .string ⟨#[49, 46, 51]⟩] 9) := ⟨_, rfl⟩
  have hB1 : Below w1.heap.size w1 W1 := by rw [hW1]; exact (Below.refl _ _).alloc (Nat.le_refl _) _
  have hr1 : Rd W1 encS (.slice (some ⟨w1.heap.size, 0, none⟩) 2 2) [p12, p13] := by rw [hW1]; exact rdS (l := [p12, p13]) rfl (by simp)
  have hl1 : g1.length = 1 := by rw [← gxs_len, hn1]; rfl
  have hc1 : Calls Tryz.prog 23 #[.slice a1 g1.length c1, .slice (some ⟨w1.heap.size, 0, none⟩) 2 2, .bool true] W1 fun e w' => GrP W1 awG1 e w' := by
    have hlt : litG 1000 (gxs g1) = true := by rw [hn1]; exact ag0
    have := genter_any W1 (.slice a1 g1.length c1) (.slice (some ⟨w1.heap.size, 0, none⟩) 2 2) g1 [p12, p13] (ho1.gl.q.below hB1) hr1 (by omega) (fun L hL => by have := litG_len hlt L hL; omega) (fun L hL => by have := litG_all hlt L hL; simp; omega) (by simp) (by intro p hp; simp [p12, p13] at hp; rcases hp with rfl | rfl <;> simp) true
    rw [hn1] at this; exact this
  have HBW1 := Bx.mk (hb1.trans (hB1.mono hb1.size))
  rw [hl1] at hc1 ⊢
  clear h0 ho1 hn1 hb1 hB1 hr1 hl1
  go_wp2_with fail
  rw [← hW1]
  clear hW1
  go_at_call 23
  refine hc1.mono ?_
  intro e w2 hE
  obtain ⟨a2, c2, g2, rfl, ho2, hn2, hb2⟩ := hE.ok ag1.1
  have hl2 : g2.length = 2 := by rw [← gxs_len, hn2]; exact ag1.2.1
  obtain ⟨W2, hW2⟩ : ∃ W2, W2 = w2.alloc (.cells #[.string ⟨#[49, 46, 50]⟩, .string ⟨#[53, 46, 49]⟩, .string ⟨#[49, 46, 50]⟩, .string ⟨#[53, 46, 50]⟩, .string ⟨#[49, 46, 51]⟩, .string ⟨#[53, 46, 49]⟩, .string ⟨#[49, 46, 51]⟩, .string ⟨#[53, 46, 50]⟩] 49) := ⟨_, rfl⟩
  have hB2 : Below w2.heap.size w2 W2 := by rw [hW2]; exact (Below.refl _ _).alloc (Nat.le_refl _) _
  have hr2 : Rd W2 encP (.slice (some ⟨w2.heap.size, 0, none⟩) 4 4) [(p12, p51), (p12, p52), (p13, p51), (p13, p52)] := by rw [hW2]; exact rdM (l := [(p12, p51), (p12, p52), (p13, p51), (p13, p52)]) rfl (by simp)
  have hc2 : Calls Tryz.prog 26 #[.slice a2 g2.length c2, .slice (some ⟨w2.heap.size, 0, none⟩) 4 4, .bool true] W2 fun e w' => GrP W2 awG2 e w' := by
    have hlt : litG 1000 (gxs g2) = true := by rw [hn2]; exact ag1.2.2
    have := gmap_any W2 (.slice a2 g2.length c2) (.slice (some ⟨w2.heap.size, 0, none⟩) 4 4) g2 [(p12, p51), (p12, p52), (p13, p51), (p13, p52)] (ho2.gl.q.below hB2) hr2 (by omega) (fun L hL => by have := litG_len hlt L hL; omega) (by simp) (by intro p hp; simp at hp; rcases hp with rfl | rfl | rfl | rfl <;> simp [p12, p13, p51, p52]) true
    rw [hn2] at this; exact this
  have HBW2 := Bx.mk ((HBW1.out.trans (hb2.mono HBW1.out.size)).trans (hB2.mono (Nat.le_trans HBW1.out.size hb2.size)))
  rw [hl2] at hc2 ⊢
  clear hc1 hE ho2 hn2 hb2 hB2 hr2 hl2
  go_wp2_with fail
  rw [← hW2]
  clear hW2
  go_at_call 26
  refine hc2.mono ?_
  intro e w3 hE
  obtain ⟨a3, c3, g3, rfl, ho3, hn3, hb3⟩ := hE.ok ag2.1
  have hl3 : g3.length = 2 := by rw [← gxs_len, hn3]; exact ag2.2.1
  obtain ⟨W3, hW3⟩ : ∃ W3, W3 = w3.alloc (.cells #[.string ⟨#[53, 46, 49]⟩, .string ⟨#[53, 46, 50]⟩] 9) := ⟨_, rfl⟩
  have hB3 : Below w3.heap.size w3 W3 := by rw [hW3]; exact (Below.refl _ _).alloc (Nat.le_refl _) _
  have hr3 : Rd W3 encS (.slice (some ⟨w3.heap.size, 0, none⟩) 2 2) [p51, p52] := by rw [hW3]; exact rdS (l := [p51, p52]) rfl (by simp)
  have hc3 : Calls Tryz.prog 23 #[.slice a3 g3.length c3, .slice (some ⟨w3.heap.size, 0, none⟩) 2 2, .bool true] W3 fun e w' => GrP W3 awG3 e w' := by
    have hlt : litG 1000 (gxs g3) = true := by rw [hn3]; exact ag2.2.2
    have := genter_any W3 (.slice a3 g3.length c3) (.slice (some ⟨w3.heap.size, 0, none⟩) 2 2) g3 [p51, p52] (ho3.gl.q.below hB3) hr3 (by omega) (fun L hL => by have := litG_len hlt L hL; omega) (fun L hL => by have := litG_all hlt L hL; simp; omega) (by simp) (by intro p hp; simp [p51, p52] at hp; rcases hp with rfl | rfl <;> simp) true
    rw [hn3] at this; exact this
  have HBW3 := Bx.mk ((HBW2.out.trans (hb3.mono HBW2.out.size)).trans (hB3.mono (Nat.le_trans HBW2.out.size hb3.size)))
  rw [hl3] at hc3 ⊢
  clear hc2 hE ho3 hn3 hb3 hB3 hr3 hl3
  go_wp2_with fail
  rw [← hW3]
  clear hW3
  go_at_call 23
  refine hc3.mono ?_
  intro e w4 hE
  obtain ⟨a4, c4, g4, rfl, ho4, hn4, hb4⟩ := hE.ok ag3.1
  have HLT4 := Bx.mk (show litG 1000 (gxs g4) = true by rw [hn4]; exact ag3.2.2)
  have hl4 : g4.length = 3 := by rw [← gxs_len, hn4]; exact ag3.2.1
  obtain ⟨W4, hW4⟩ : ∃ W4, W4 = w4.alloc (.cells #[.string ⟨#[49, 46, 51]⟩] 9) := ⟨_, rfl⟩
  have hB4 : Below w4.heap.size w4 W4 := by rw [hW4]; exact (Below.refl _ _).alloc (Nat.le_refl _) _
  have hr4 : Rd W4 encS (.slice (some ⟨w4.heap.size, 0, none⟩) 1 1) [p13] := by rw [hW4]; exact rdS (l := [p13]) rfl (by simp)
  have hc4 : Calls Tryz.prog 28 #[.slice a4 g4.length c4, .slice (some ⟨w4.heap.size, 0, none⟩) 1 1] W4 fun e w' => GrP W4 awG4 e w' := by
    have := grestr_any W4 (.slice a4 g4.length c4) (.slice (some ⟨w4.heap.size, 0, none⟩) 1 1) g4 [p13] (ho4.gl.q.below hB4) hr4 (by omega) (fun L hL => by have := litG_len HLT4.out L hL; omega) (fun l hl v hv => by have := litG_pb HLT4.out l hl v hv; omega) (by simp) (by intro p hp; simp [p13] at hp; subst hp; simp)
    rw [hn4] at this; exact this
  have HBW4 := Bx.mk ((HBW3.out.trans (hb4.mono HBW3.out.size)).trans (hB4.mono (Nat.le_trans HBW3.out.size hb4.size)))
  have HGL4 := Bx.mk (ho4.gl.below hB4)
  have HN4 := Bx.mk hn4
  have HL4 := Bx.mk hl4
  rw [hl4] at hc4 ⊢
  clear hc3 hE ho4 hn4 hb4 hB4 hr4 hl4
  go_wp2_with fail
  rw [← hW4]
  clear hW4
  go_at_call 28
  refine hc4.mono ?_
  intro e w5 hE
  obtain ⟨a5, c5, g5, rfl, ho5, hn5, hb5⟩ := hE.ok ag4.1
  have hlt5 : litG 1000 (gxs g5) = true := by rw [hn5]; exact ag4.2.1
  have hl5 : g5.length = 3 := by rw [← gxs_len, hn5]; exact ag4.2.2
  have hc5 := gpol_any w5 (.slice a5 g5.length c5) g5 ho5.gl.q (by omega) (fun L hL => litG_len hlt5 L hL)
  rw [hn5, ag5] at hc5
  have HBW5 := Bx.mk (HBW4.out.trans (hb5.mono HBW4.out.size))
  have HGL5 := Bx.mk (HGL4.out.below hb5)
  rw [hl5] at hc5 ⊢
  clear hc4 hE ho5 hn5 hb5 hlt5 hl5
  go_wp2_with fail
  go_at_call 31
  refine hc5.mono ?_
  rintro e w6 ⟨v6, rfl, ho6, hb6⟩
  obtain ⟨a6, c6, rfl, -⟩ := ho6.rd.form
  have HGL6 := Bx.mk (HGL5.out.below hb6)
  have HBW6 := Bx.mk (HBW5.out.trans (hb6.mono HBW5.out.size))
  have HC6 := Bx.mk (strs_cells ho6.rd).2
  have hl6 : ([p13] : List B).length = 1 := rfl
  rw [hl6]
  obtain ⟨K, hK⟩ : ∃ K, K = g4[2]'(by rw [HL4.out]; omega) := ⟨_, rfl⟩
  have HK := Bx.mk hK
  have hvs : vxs K.vs = awG3.1[2]! := by rw [hK, ← gxs_at g4 2 (by rw [HL4.out]; omega), HN4.out]
  have HKL := Bx.mk (show K.vs.length = 2 by rw [← vxs_len, hvs]; exact ag3'.1)
  obtain ⟨b, o, he, hbl, hcl⟩ := (ls_cells HGL6.out.rd).2 w6 (fun _ _ _ => rfl) 2 (by rw [HL4.out]; omega)
  subst he
  rw [← hK] at hcl
  have hvk := HGL6.out.lv K (by rw [hK]; exact List.getElem_mem _)
  obtain ⟨ka, kc, hks, -⟩ := hvk.rd.form
  rw [hks, HKL.out] at hcl
  rw [hks] at hvk
  obtain ⟨b2, o2, he2, -, -, -, x2⟩ := hvk.at3 w6 (Below.refl _ _) 0 (by rw [HKL.out]; omega)
  subst he2
  have hvx := hvk.at_ _ (List.getElem_mem (show 0 < K.vs.length by rw [HKL.out]; omega))
  have hp0 : (K.vs[0]'(by rw [HKL.out]; omega)).n.par.length = 2 := by
    have h1 := ag3'.2.1
    rw [← hvs, vxs_at K.vs 0 (by rw [HKL.out]; omega)] at h1
    exact h1
  obtain ⟨pa, pc, hpq, -⟩ := RqIn.form hvx.2.1
  rw [hpq, hp0] at x2
  have x2' : w6.cell? ⟨b2, o2 + 2, none⟩ = some (.slice pa 2 pc) := by simpa using x2
  have hsz := gsize_any w6 (.slice (some ⟨b, o, none⟩) g4.length c4) g4 HGL6.out.q (by rw [HL4.out]; omega) (fun L hL => by have := litG_len HLT4.out L hL; omega)
  rw [HN4.out, ag3'.2.2.1, HL4.out] at hsz
  have hvd := fun (W : World) (hW : Below w6.heap.size w6 W) => gvalid_q W (.slice (some ⟨b, o, none⟩) g4.length c4) g4 (HGL6.out.below hW).q (by rw [HL4.out]; omega) (fun L hL => by have := litG_len HLT4.out L hL; omega)
  rw [HN4.out, ag3'.2.2.2, HL4.out] at hvd
  have HVD := Bx.mk hvd
  clear hc5 ho6 hb6 hl6 hK hvs hbl hvk hks hvx hp0 hpq x2 hvd
  go_wp2_with fail
  go_at_call 17
  refine hsz.mono ?_
  rintro e w7 ⟨rfl, hb7⟩
  have HB7 := Bx.mk hb7
  obtain ⟨b6, o6, he6, -, hx6⟩ := HC6.out w7 hb7 0 (by simp)
  subst he6
  have hx6' : w7.cell? ⟨b6, o6, none⟩ = some (.string ⟨#[49, 46, 51]⟩) := hx6
  have hvd := HVD.out w7 hb7
  clear hsz hcl x2' hb7 hx6
  go_wp2_with fail
  go_at_call 15
  refine hvd.mono ?_
  rintro e w8 ⟨rfl, hb8⟩
  have HB8 := Bx.mk (HBW6.out.trans ((HB7.out.trans (hb8.mono HB7.out.size)).mono HBW6.out.size))
  clear hvd hx6' hb8
  go_wp2_with fail
  go_ret
  exact ⟨rfl, HB8.out⟩
end Go.Proofs.YtmagjdocondmhaaGreat.Tr.Gr
