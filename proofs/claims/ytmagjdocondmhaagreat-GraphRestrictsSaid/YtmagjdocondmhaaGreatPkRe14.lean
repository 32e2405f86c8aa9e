/- packed -/
import Derived.Test.YtmagjdocondmhaaGreatPkRe13
set_option linter.unusedVariables false
set_option linter.unusedSimpArgs false
set_option maxRecDepth 100000
set_option maxHeartbeats 64000000
namespace Go.Proofs.YtmagjdocondmhaaGreat.Tr.Gr
open Go Go.RowKit Slc St Mp Tr Rg
attribute [local go_sem] Oper.semAt_some
theorem any_take {l : List Vx} {j : Nat} (hj : j < l.length) (f : Vx -> Bool) : (l.take (j + 1)).any f = ((l.take j).any f || f l[j]!) := by
 rw [zA hj, List.any_append, getElem!_pos l j hj];simp
theorem mem_take {l : List Int} {n : Nat} (hn : n < l.length) (r : Int) : decide (r ∈ l.take (n + 1)) = (decide (r ∈ l.take n) || decide (l[n] = r)) := by
 rw [zA hn, Bool.eq_iff_iff];simp only [decide_eq_true_eq, Bool.or_eq_true, List.mem_append, zS]
 constructor
 ·rintro (h | h)
  ·exact .inl h
  ·exact .inr h.symm
 ·rintro (h | h)
  ·exact .inl h
  ·exact .inr h.symm
def PrN (w : World) (B : Nat) (v : Value) (g : List Lv) (e : Ending) (w' : World) : Prop :=
 ∃ v' g', e = .returned v' /\ GO w' B v' g' /\ gxs g' = pruneG (gxs g) /\ Fr (GB v g) w w' /\ (∀ k, GB v' g' k -> GB v g k \/ w.heap.size <= k) /\ NK w g g'
theorem rprune_any (w : World) (B : Nat) (v : Value) (g : List Lv) (h : GO w B v g) (hP : PG (gxs g)) (hn : g.length <= 100000) :
  Calls Tryz.prog 58 #[v] w fun e w' => PrN w B v g e w' := by
 have ho := rorph_any w B v g h hP hn;obtain ⟨ad, c, rfl, -⟩ := h.own.rd.form;have HP := Bx.mk hP;obtain ⟨N, hN⟩ : ∃ N, N = g.length := ⟨_, rfl⟩
 have HN := Bx.mk hN;obtain ⟨v, hv⟩ : ∃ v, v = Value.slice ad g.length c := ⟨_, rfl⟩
 rw [<- hv] at h ho |-;have hvN : v = .slice ad N c := by rw [hv, hN]
 rw [<- hN] at hn;have HVN := Bx.mk hvN;obtain ⟨Q, hQ⟩ : ∃ Q, Q = fun (e : Ending) (w' : World) => PrN w B v g e w' := ⟨_, rfl⟩
 have HQ := Bx.mk hQ;have HGO := Bx.mk h;rw [<- hQ, hvN];rw [hvN] at ho;obtain ⟨F, hF⟩ : ∃ F, F = fwdG (gxs g) (g.length - 1) := ⟨_, rfl⟩
 have HF := Bx.mk hF;have HFL := Bx.mk (show F.length = N by rw [hF, fwdG_len, gxs_len, hN]);have HFP := Bx.mk (show PG F by rw [hF]; exact fwdG_pg hP _ (by rw [gxs_len]; omega));obtain ⟨z0, hz0⟩ : ∃ z0, z0 = (N : Int) - 2 := ⟨_, rfl⟩
 have HZ0 := Bx.mk (show z0 = (N : Int) - 2 - (0 : Nat) /\ 0 <= N - 1 by omega);have wz : IntKind.i64.wrap ((N : Int) - 2) = z0 := by rw [IntWalk.i64_in _ (by omega), hz0]
 clear hP h hN hv hvN hQ hF hz0;go_enter Tryz.func58, Tryz.ntmps58;go_wp2_with fail
 go_at_call 75;refine ho.mono ?_;rintro e w1 ⟨⟨u, rfl⟩, g1, hs1, hg1, hk1⟩;have HK1 := Bx.mk hk1;rw [<- HVN.out] at hs1;have HS1 := Bx.mk (show GStep w B v g w1 g1 /\ gxs g1 = bwdG F 0 from ⟨hs1, by rw [hg1, HF.out]; rfl⟩);clear ho hs1 hg1 hk1;go_wp2_with fail
 clear wz;go_loopw [3] (fun i wr => ∃ (n : Nat) (x : Int) (g2 : List Lv), Bx (x = (N : Int) - 2 - n /\ n <= N - 1) /\ i = .int .i64 x /\ Bx (GStep w B v g wr g2 /\ gxs g2 = bwdG F n) /\ Bx (NK w g g2)) (fun i _ => (intOf i + 1).toNat)
 case atStart => exact ⟨0, z0, g1, HZ0, rfl, HS1, HK1⟩
 case round =>
  clear HS1 HZ0 HK1;obtain ⟨n, x, g2, HX, rfl, hS, hNK⟩ := hrel;by_cases hx0 : 0 <= x
  ·obtain ⟨i, rfl⟩ : ∃ i : Nat, x = (i : Int) := ⟨x.toNat, by omega⟩
   have hiN : i + 1 < N := by have := HX.out; omega
   obtain ⟨G, hG⟩ : ∃ G, G = bwdG F n := ⟨_, rfl⟩
   have HGD := Bx.mk hG;have HGL := Bx.mk (show G.length = N by rw [hG, bwdG_len, HFL.out]);have HPG := Bx.mk (show PG G by rw [hG]; exact bwdG_pg HFP.out n (by have := HX.out; have := HFL.out; omega));obtain ⟨i1, hi1⟩ : ∃ i1, i1 = i + 1 := ⟨_, rfl⟩
   have HI1 := Bx.mk hi1;have hi1N : i1 < N := by omega
   obtain ⟨M, hM⟩ : ∃ M, M = marksB (G[i]!).length G[i1]! := ⟨_, rfl⟩
   have HM := Bx.mk hM;have HML := Bx.mk (show M.length = (G[i]!).length by rw [hM, marksB_len]);have HGE := Bx.mk (show gxs g2 = G by rw [hG]; exact hS.out.2);have HJL := Bx.mk (show i < G.length by rw [HGL.out]; omega)
   have HMB := Bx.mk (show M.length <= 100000 by
    rw [HML.out, getElem!_pos G i HJL.out]; exact HPG.out.len _ (zM _))
   have HJ1 := Bx.mk (show i < g2.length by rw [gx_len HGE.out]; exact HJL.out);have HLV := Bx.mk (show (g2[i]'HJ1.out).vs.length = M.length by rw [HML.out, <- HGE.out, gxs_at' g2 i HJ1.out, vxs_len]);have hgo := hS.out.1.go;rw [HVN.out] at hgo;obtain ⟨gb, rfl, l0, -⟩ := hgo.cellL i HJ1.out;obtain ⟨la, lc, hls, -⟩ := (hgo.gl.lv _ (zM HJ1.out)).rd.form;rw [HLV.out] at hls;rw [hls] at l0;obtain ⟨K, hK⟩ : ∃ K, K = M.length := ⟨_, rfl⟩
   have HK := Bx.mk hK;rw [<- hK] at l0;have hKb : K <= 100000 := by rw [hK]; exact HMB.out
   obtain ⟨z1, hz1⟩ : ∃ z1, z1 = (K : Int) - 1 := ⟨_, rfl⟩
   have HZ1 := Bx.mk hz1;have wz : IntKind.i64.wrap ((K : Int) - 1) = z1 := by rw [IntWalk.i64_in _ (by omega), hz1]
   have HS2 := Bx.mk (show GStep w B v g wr g2 /\ gxs g2 = filtG G i (upM M K) from ⟨hS.out.1, by rw [HGE.out, hK]; exact (filtG_up HPG.out HJL.out HML.out).symm⟩);have HWI := Bx.mk (show IntKind.i64.wrap ((i : Int) + 1) = (i1 : Int) by rw [IntWalk.i64_in _ (by omega)]; omega);have tx : decide ((i : Int) >= 0) = true := by simp
   clear hG hM hK hz1 hgo hls hS hi1 hx0;go_wp2_with fail
   clear l0 wz tx;go_loopw [4] (fun z wz => ∃ (m : Nat) (x : Int) (g3 : List Lv), m <= K /\ z = .int .i64 x /\ Bx (x = (m : Int) - 1) /\ Bx (GStep w B v g wz g3 /\ gxs g3 = filtG G i (upM M m)) /\ Bx (NK w g g3)) (fun z _ => (intOf z + 1).toNat)
   case atStart => exact ⟨K, z1, g2, zR _, rfl, HZ1, HS2, hNK⟩
   case round =>
    clear HS2;obtain ⟨m, x, g3, hm, rfl, HX3, hS3, hNK3⟩ := hrel
    cases m with
    | zero =>
     obtain rfl : x = -1 := (by have := HX3.out; omega);have t1 : decide ((-1 : Int) >= 0) = false := rfl
     have HFE := Bx.mk (show gxs g3 = bwdG F (n + 1) by
      have := hS3.out.2;rw [upM_zero] at this;have hi := HX.out;have hl := HFL.out
      rw [this, bwdG, <- HGD.out, HM.out, show F.length - 2 - n = i by omega, HI1.out])
     have HX4 := Bx.mk (show (i : Int) - 1 = (N : Int) - 2 - (n + 1 : Nat) /\ n + 1 <= N - 1 by have := HX.out; omega);have HSE := Bx.mk hS3.out.1;clear hS3;go_wp2_with fail
     go_roundw
     case rel => exact ⟨n + 1, (i : Int) - 1, g3, HX4, by first | rfl | go_num, ⟨HSE.out, HFE.out⟩, hNK3⟩
     case measure => simp [intOf]; try omega
    | succ r =>
     obtain rfl : x = (r : Int) := (by have := HX3.out; omega);have HRM := Bx.mk (show r < M.length by rw [<- HK.out]; omega);have HG3 := Bx.mk (show i < g3.length by rw [gx_len hS3.out.2, filtG_len]; exact HJL.out);have HG31 := Bx.mk (show i1 < g3.length by rw [gx_len hS3.out.2, filtG_len, HGL.out]; exact hi1N);have hgo := hS3.out.1.go;rw [HVN.out] at hgo;have HGO3 := Bx.mk hgo;have HPG3 := Bx.mk (show PG (gxs g3) by rw [hS3.out.2]; exact HPG.out.filt HJL.out _);have HGN3 := Bx.mk (show g3.length <= 100000 by rw [gx_len hS3.out.2, filtG_len, HGL.out]; exact hn);obtain ⟨gb2, heq, l1, -⟩ := hgo.cellL i1 HG31.out;simp only [zO, Addr.mk.injEq, and_true] at heq
     subst heq;obtain ⟨X, hX⟩ : ∃ X, X = g3[i1]'HG31.out := ⟨_, rfl⟩
     have HX := Bx.mk hX;obtain ⟨la2, lc2, hls, -⟩ := (hgo.gl.lv _ (zM HG31.out)).rd.form;rw [<- hX] at l1 hls;have HLS := Bx.mk hls;rw [hls] at l1;have HLL := Bx.mk (pg_len HPG3.out _ (zM HG31.out));rw [<- hX] at HLL;obtain ⟨NV, hNV⟩ : ∃ NV, NV = X.vs.length := ⟨_, rfl⟩
     have HNV := Bx.mk hNV;have hNVb : NV <= 100000 := (by rw [hNV]; exact HLL.out);rw [<- hNV] at l1;have HL1 := Bx.mk l1
     have HKID := Bx.mk (show ((vxs X.vs).any fun v => decide ((r : Int) ∈ v.par)) = M[r]! by
      have h1 := up_kid (m := M) HPG.out (show i + 1 < G.length by rw [HGL.out]; exact hiN) HRM.out;rw [<- hS3.out.2, <- HI1.out, gxs_at' g3 i1 HG31.out, <- hX] at h1
      rw [h1, HM.out, marksB_at (by rw [<- HML.out]; exact HRM.out)])
     have HS4 := Bx.mk hS3.out;have hrK : r <= K := (by omega);obtain ⟨W4, hW4⟩ : ∃ W4, W4 = wr := ⟨_, rfl⟩
     have HW4 := Bx.mk hW4;have t0 : decide ((r : Int) >= 0) = true := (by simp);have wi := HWI.out;clear hgo hX hls hNV hS3 hW4 l1;go_upto_block 4 with fail
     clear t0;go_cut [5] (fun s5 wx => ∃ kb : Bool, s5 = .bool kb /\ Bx (kb = M[r]!) /\ wx = wr)
     case first =>
      go_wp2_with fail
      go_loopw [5, 6] (fun s5 iv wx => ∃ (j : Nat) (kb : Bool), j <= NV /\ s5 = .bool kb /\ iv = .int .i64 j /\ Bx (kb = ((vxs X.vs).take j).any fun v => decide ((r : Int) ∈ v.par)) /\ wx = wr) (fun _ iv _ => NV - (intOf iv).toNat)
      case atStart => exact ⟨0, false, by omega, rfl, rfl, ⟨rfl⟩, rfl⟩
      case round =>
       obtain ⟨j, kb, hj, rfl, rfl, hkb, rfl⟩ := hrel;by_cases hlt : j < NV
       ·have hjl : j < X.vs.length := by rw [<- HNV.out]; exact hlt
        have hpc := HGO3.out.parC HG31.out (la := la2) (lc := lc2) (NV := X.vs.length) (by rw [<- HX.out]; exact HLS.out) (r := j) (by rw [<- HX.out]; exact hjl);simp only [<- HX.out] at hpc
        obtain ⟨b, o, pa, pc, rfl, c2, hri⟩ := hpc;have HJX := Bx.mk (vxs_at X.vs j hjl);have hPNb : (X.vs[j]).n.par.length <= 100000 := (HGO3.out.nm _ (zM HG31.out) _ (by rw [<- HX.out]; exact zM hjl)).2.2.2.2.1;have HJL2 := Bx.mk (show j < (vxs X.vs).length by rw [vxs_len]; exact hjl);obtain ⟨y, hy⟩ : ∃ y, y = (X.vs[j]).n := ⟨_, rfl⟩
        rw [<- hy] at c2 hri hPNb HJX;have HPC := Bx.mk (Ri.cells hri);obtain ⟨PN, hPN⟩ : ∃ PN, PN = y.par.length := ⟨_, rfl⟩
        have HPN := Bx.mk hPN;rw [<- hPN] at c2 hPNb;have l1 := HL1.out;clear hri hPN hy hjl;go_wp2_with fail
        clear l1 c2;go_loopw [5, 8] (fun s5 iv wx => ∃ (n : Nat) (kc : Bool), n <= PN /\ s5 = .bool kc /\ iv = .int .i64 n /\ Bx (kc = (kb || decide ((r : Int) ∈ y.par.take n))) /\ wx = wr) (fun _ iv _ => PN - (intOf iv).toNat)
        case atStart => exact ⟨0, kb, by omega, rfl, rfl, ⟨by simp⟩, rfl⟩
        case round =>
         obtain ⟨n, kc, hn', rfl, rfl, hkc, rfl⟩ := hrel;by_cases hlt3 : n < PN
         ·have hnl : n < y.par.length := by rw [<- HPN.out]; exact hlt3
          obtain ⟨bp, op, rfl, hbp, d0⟩ := HPC.out wr (Below.refl _ _) n hnl;have HMT := Bx.mk (mem_take hnl (r : Int));obtain ⟨p, hp⟩ : ∃ p, p = y.par[n] := ⟨_, rfl⟩
          rw [<- hp] at d0 HMT;obtain ⟨bq, hbq⟩ : ∃ b, b = decide (p = (r : Int)) := ⟨_, rfl⟩
          have t1 : (p == (r : Int)) = bq := (by rw [hbq, Bool.eq_iff_iff]; simp);have t2 : decide (p = (r : Int)) = bq := hbq.symm;have HE := Bx.mk (show (kc || bq) = (kb || decide ((r : Int) ∈ y.par.take (n + 1))) by rw [HMT.out, hkc.out, hbq, Bool.or_assoc]);clear hp hnl hbq HMT
          cases kc with
          | true =>
           go_wp2_with fail
           go_roundw
           case rel => exact ⟨n + 1, true, by omega, by first | rfl | go_num, by first | rfl | go_num, ⟨HE.out⟩, by first | rfl | trivial⟩
           case measure => simp [intOf]; omega
          | false =>
           cases bq with
           | true =>
            have tp : p = (r : Int) := of_decide_eq_true t2;go_wp2_with fail
            go_roundw
            case rel => exact ⟨n + 1, true, by omega, by first | rfl | go_num, by first | rfl | go_num, ⟨HE.out⟩, by first | rfl | trivial⟩
            case measure => simp [intOf]; omega
           | false =>
            have tp : ¬ p = (r : Int) := of_decide_eq_false t2;go_wp2_with fail
            go_roundw
            case rel => exact ⟨n + 1, false, by omega, by first | rfl | go_num, by first | rfl | go_num, ⟨HE.out⟩, by first | rfl | trivial⟩
            case measure => simp [intOf]; omega
         ·obtain rfl : n = PN := by omega
          have HE := Bx.mk (show kc = ((vxs X.vs).take (j + 1)).any fun v => decide ((r : Int) ∈ v.par) by
           rw [any_take HJL2.out, <- hkb.out, hkc.out, HJX.out, HPN.out, List.take_length])
          go_wp2_with fail
          go_roundw
          case rel => exact ⟨j + 1, kc, by omega, rfl, by go_num, HE, by first | rfl | trivial⟩
          case measure => simp [intOf]; omega
       ·obtain rfl : j = NV := by omega
        have HE := Bx.mk (show kb = M[r]! by rw [hkb.out, <- HKID.out, HNV.out, <- vxs_len, List.take_length]);have l1 := HL1.out;go_wp2_with fail
        go_meet;exact ⟨kb, rfl, HE, rfl⟩
     case rest =>
      obtain ⟨kb, rfl, hkb, rfl⟩ := hcut;have hj2 := HG3.out;have hat := up_at HJL.out HML.out HRM.out;rw [<- HS4.out.2, gxs_at' g3 i hj2, vxs_len] at hat
      cases kb with
      | true =>
       have HS5 := Bx.mk (show GStep w B v g wc g3 /\ gxs g3 = filtG G i (upM M r) from ⟨HS4.out.1, by rw [HS4.out.2, upM_keep HRM.out hkb.out.symm]⟩);clear hat hj2;go_wp2_with fail
       go_roundw
       case rel => exact ⟨r, (r : Int) - 1, g3, by omega, by first | rfl | go_num, ⟨rfl⟩, HS5, hNK3⟩
       case measure => simp [intOf]; try omega
      | false =>
       have hd := rdrop_any wc B v g3 HS4.out.1.go HPG3.out HGN3.out i hj2 r hat.1;rw [HVN.out] at hd;clear hat hj2;go_wp2_with fail
       go_at_call 68;refine hd.mono ?_;rintro e w2 ⟨⟨u, rfl⟩, g4, hs4, hg4, hk4⟩;have HNK4 := Bx.mk (hNK3.out.trans HS4.out.1.fr.size hk4);have HS5 := Bx.mk (show GStep w B v g w2 g4 /\ gxs g4 = filtG G i (upM M r) from ⟨HS4.out.1.trans (by rw [HVN.out]; exact hs4), by rw [hg4, HS4.out.2, up_drop HPG.out HJL.out HML.out HRM.out hkb.out.symm]⟩);clear hd hs4 hg4 hk4;go_wp2_with fail
       go_roundw
       case rel => exact ⟨r, (r : Int) - 1, g4, by omega, by first | rfl | go_num, ⟨rfl⟩, HS5, HNK4⟩
       case measure => simp [intOf]; try omega
  ·have tx : decide (x >= 0) = false := zF (by omega)
   have HH := Bx.mk (show gxs g2 = bwdG (fwdG (gxs g) ((gxs g).length - 1)) ((gxs g).length - 1) by
    have h1 := HX.out;rw [hS.out.2, HF.out, gxs_len, <- HN.out];congr 1
    omega)
   have HSE := Bx.mk hS.out.1;have HL2 := Bx.mk (show g2.length = N by rw [gx_len hS.out.2, bwdG_len, HFL.out]);have HPG2 := Bx.mk (show PG (gxs g2) by rw [hS.out.2]; exact bwdG_pg HFP.out n (by have := HX.out; have := HFL.out; omega));clear hS HX;go_wp2_with fail
   clear tx;go_loopw [9] (fun iv wx => ∃ j : Nat, j <= N /\ iv = .int .i64 j /\ Bx (∀ q, q < j -> ((gxs g2)[q]!).length ≠ 0) /\ wx = wr) (fun iv _ => N - (intOf iv).toNat)
   case atStart => exact ⟨0, by omega, rfl, ⟨fun q hq => by omega⟩, rfl⟩
   case round =>
    obtain ⟨j, hj, rfl, hall, rfl⟩ := hrel;by_cases hlt : j < N
    ·have HJ2 := Bx.mk (show j < g2.length by rw [HL2.out]; exact hlt);have hgo := HSE.out.go;rw [HVN.out] at hgo;obtain ⟨gb, rfl, l0, -⟩ := hgo.cellL j HJ2.out;obtain ⟨la, lc, hls, -⟩ := (hgo.gl.lv _ (zM HJ2.out)).rd.form;rw [hls] at l0;have hlb := pg_len HPG2.out _ (zM HJ2.out);have hle : ((gxs g2)[j]!).length = (g2[j]'HJ2.out).vs.length := (by rw [gxs_at' g2 j HJ2.out, vxs_len]);obtain ⟨LN, hLN⟩ : ∃ LN, LN = (g2[j]'HJ2.out).vs.length := ⟨_, rfl⟩
     rw [<- hLN] at l0 hlb hle;have HLE := Bx.mk hle;clear hgo hls hLN hle;by_cases h0 : LN = 0
     ·subst h0;have t1 : (((0 : Nat) : Int) == 0) = true := rfl
      have HPE := Bx.mk (show pruneG (gxs g) = [] by
       unfold pruneG;simp only [<- HH.out]
       rw [if_pos];rw [List.any_eq_true];refine ⟨(gxs g2)[j]!, ?_, zT HLE.out⟩;rw [getElem!_pos (gxs g2) j (by rw [gxs_len]; exact HJ2.out)]
       exact zM _)
      go_wp2_with fail
      rw [HQ.out];refine ⟨_, [], rfl, GO.nil _ _, HPE.out.symm, HSE.out.fr, fun k hk => ?_, fun B' _ _ => NQ.nil _⟩;rcases hk with q | ⟨L, hL, -⟩
      ·simp [Value.ownBlock] at q
      ·cases hL
     ·have t1 : ((LN : Int) == 0) = false := by simp; omega
      have t2 : ¬ (LN : Int) = 0 := by omega
      have HA := Bx.mk (show ∀ q, q < j + 1 -> ((gxs g2)[q]!).length ≠ 0 from fun q hq => by
       by_cases e : q = j
       ·subst e; rw [HLE.out]; exact h0
       ·exact hall.out q (by omega))
      clear h0;go_wp2_with fail
      go_roundw
      case rel => exact ⟨j + 1, by omega, by go_num, HA, by first | rfl | trivial⟩
      case measure => simp [intOf]; omega
    ·obtain rfl : j = N := by omega
     have HPE := Bx.mk (show pruneG (gxs g) = gxs g2 by
      unfold pruneG;simp only [<- HH.out]
      rw [if_neg];rw [List.any_eq_true];rintro ⟨l, hl, he⟩;rw [decide_eq_true_eq] at he;obtain ⟨q, hq, rfl⟩ := List.getElem_of_mem hl;have hq' : q < g2.length := (by rw [<- gxs_len g2]; exact hq);refine hall.out q (by rw [<- HL2.out]; exact hq') ?_
      rw [getElem!_pos (gxs g2) q hq]; exact he)
     go_wp2_with fail
     rw [HQ.out];exact ⟨_, g2, rfl, by rw [<- HVN.out]; exact HSE.out.go, HPE.out.symm, HSE.out.fr, fun k hk => HSE.out.nb k (by rw [HVN.out]; exact hk), hNK.out⟩
end Go.Proofs.YtmagjdocondmhaaGreat.Tr.Gr
namespace Go.Proofs.YtmagjdocondmhaaGreat
open Go
def regC (n : Nat) : Code -> Code
 | .region id ops d => if id = n then .region id ops d else .skip
 | .seq a b => match regC n a with | .skip => regC n b | c => c
 | .cond _ a b => match regC n a with | .skip => regC n b | c => c
 | .block _ b => regC n b
 | .loop b => regC n b
 | .scope b => regC n b
 | .rangeFunc _ _ a b => match regC n a with | .skip => regC n b | c => c
 | _ => .skip
end Go.Proofs.YtmagjdocondmhaaGreat
namespace Go.Proofs.YtmagjdocondmhaaGreat.Tr.Gr
open Go Go.RowKit Slc St Mp Tr Rg
attribute [local go_sem] Oper.semAt_some
def risB (l : List Int) (n : Int) : Bool := decide (l.Pairwise (· < ·)) && l.all fun p => decide (0 <= p) && decide (p < n)
theorem risB_bad {l : List Int} {n : Int} {i : Nat} (hi : i < l.length) (h : ¬ (0 <= l[i] /\ l[i] < n)) : risB l n = false := by
 unfold risB
 have : (l.all fun p => decide (0 <= p) && decide (p < n)) = false := by
  rw [List.all_eq_false];exact ⟨l[i], zM hi, by simpa using h⟩
 rw [this, Bool.and_false]
theorem risB_bad2 {l : List Int} {n : Int} {i : Nat} (hi : i + 1 < l.length) (h : ¬ l[i] < l[i + 1]) : risB l n = false := by
 unfold risB;rw [zF (fun hp => h (List.pairwise_iff_getElem.1 hp i (i + 1) (by omega) hi (by omega))), Bool.false_and]
theorem risB_good {l : List Int} {n : Int} (h1 : ∀ k (hk : k < l.length), 0 <= l[k] /\ l[k] < n) (h2 : ∀ k (hk : k + 1 < l.length), l[k] < l[k + 1]) : risB l n = true := by
 unfold risB;rw [zT (pairI_chain l h2), Bool.true_and, List.all_eq_true];intro p hp;obtain ⟨k, hk, rfl⟩ := List.getElem_of_mem hp;simpa using h1 k hk
theorem ris_bad (v : Vx) (n : Nat) : badV v n = (!ascB v.ex || (decide (v.par.length = 0) || !risB v.par n)) := by
 unfold badV;congr 1
 by_cases hz : v.par.length = 0
 ·have : v.par = [] := List.length_eq_zero_iff.1 hz;rw [this]; simp [ascI]
 ·rw [zF hz, Bool.false_or];have hp : 0 < v.par.length := by omega
  by_cases ha : ascI v.par = true
  ·have hpw : v.par.Pairwise (· < ·) := by
    unfold ascI at ha;simp only [Bool.and_eq_true, decide_eq_true_eq] at ha
    exact ha.1
   rw [ha, Bool.not_true, Bool.false_or];by_cases h0 : v.par[0]! < 0
   ·rw [zT h0, Bool.true_or, risB_bad hp (by rw [getElem!_pos v.par 0 hp] at h0; omega)]; rfl
   ·rw [zF h0, Bool.false_or];by_cases h1 : v.par[v.par.length - 1]! >= (n : Int)
    ·rw [zT h1, risB_bad (i := v.par.length - 1) (by omega) (by rw [getElem!_pos v.par _ (by omega)] at h1; omega)]; rfl
    ·rw [zF h1, risB_good (fun k hk => par_in ha h0 h1 _ (zM hk)) (fun k hk => List.pairwise_iff_getElem.1 hpw k (k + 1) (by omega) hk (by omega))]; rfl
  ·have hf : ascI v.par = false := by simpa using ha
   rw [hf]
   have : risB v.par n = false := by
    unfold risB;unfold ascI at hf;rw [Bool.and_eq_false_iff] at hf;rcases hf with e | e
    ·rw [e, Bool.false_and]
    ·cases hv : v.par with
     | nil => rw [hv] at hp; simp at hp
     | cons a b => rw [hv] at e; simp at e
   rw [this]; rfl
theorem rris_any (w : World) (v : Value) (l : List Int) (h : Ri w v l) (hn : l.length <= 1000000) (n : Nat) : Calls Tryz.prog 46 #[v, .int .i64 n] w fun e w' => e = .returned (.bool (risB l n)) /\ Below w.heap.size w w' := by
 obtain ⟨ad, c, rfl, -⟩ := RqIn.form h;have HC := Bx.mk h.cells;obtain ⟨R, hR⟩ : ∃ R, R = risB l n := ⟨_, rfl⟩
 rw [<- hR];have HR := Bx.mk hR;obtain ⟨N, hN⟩ : ∃ N, N = l.length := ⟨_, rfl⟩
 have HN := Bx.mk hN;have hNb : N <= 1000000 := by omega
 rw [<- hN];clear hR hN h hn;go_enter Tryz.func46, Tryz.ntmps46;go_wp2_with fail
 go_loopw [5] (fun iv wr => ∃ i : Nat, iv = .int .i64 (i : Nat) /\ i <= N /\ Bx (∀ k (hk : k < l.length), k < i -> 0 <= l[k] /\ l[k] < (n : Int)) /\ Bx (∀ k (hk : k + 1 < l.length), k + 1 < i -> l[k] < l[k + 1]) /\ Below w.heap.size w wr) (fun iv _ => N - (intOf iv).toNat)
 case atStart => exact ⟨0, rfl, by omega, ⟨fun k hk h => by omega⟩, ⟨fun k hk h => by omega⟩, Below.refl _ _⟩
 case round =>
  obtain ⟨i, rfl, h2, hA, hB, hbel⟩ := hrel;by_cases hlt : i < N
  ·have hil : i < l.length := by rw [<- HN.out]; exact hlt
   obtain ⟨b, o, rfl, hbl, hx⟩ := HC.out wr hbel i hil;have HBEL := Bx.mk hbel;obtain ⟨X, hX⟩ : ∃ X, X = l[i] := ⟨_, rfl⟩
   have HX := Bx.mk hX;rw [<- hX] at hx;by_cases c1 : X < 0
   ·have t1 : decide (X < 0) = true := zT c1;have HF := Bx.mk (show R = false by rw [HR.out]; exact risB_bad hil (by rw [<- HX.out]; omega));clear hbel hX c1;go_wp2_with fail
    go_quiet (fail)
    go_wp2_with fail
    go_ret;exact ⟨by rw [HF.out]; rfl, below_drawn HBEL.out _⟩
   have t1 : decide (X < 0) = false := zF c1;by_cases c2 : X < (n : Int)
   rotate_left
   ·have t2 : decide (X >= (n : Int)) = true := zT (by omega);have t3 : decide ((n : Int) <= X) = true := zT (by omega);have HF := Bx.mk (show R = false by rw [HR.out]; exact risB_bad hil (by rw [<- HX.out]; omega));clear hbel hX c1 c2;go_wp2_with fail
    go_quiet (fail)
    go_wp2_with fail
    go_ret;exact ⟨by rw [HF.out]; rfl, below_drawn HBEL.out _⟩
   have t2 : decide (X >= (n : Int)) = false := zF (by omega);have t3 : decide ((n : Int) <= X) = false := zF (by omega)
   have HA2 := Bx.mk (show ∀ k (hk : k < l.length), k < i + 1 -> 0 <= l[k] /\ l[k] < (n : Int) from fun k hk hki => by
    rcases Nat.lt_or_ge k i with q | q
    ·exact hA.out k hk q
    ·obtain rfl : k = i := by omega
     rw [<- HX.out]; omega)
   by_cases hz : i = 0
   ·subst hz;have HB2 := Bx.mk (show ∀ k (hk : k + 1 < l.length), k + 1 < 0 + 1 -> l[k] < l[k + 1] from fun k hk h => by omega);simp only [Nat.add_zero] at hx
    clear hbel hX c1 c2;go_wp2_with fail
    go_quiet (fail)
    go_wp2_with fail
    go_roundw
    case rel => exact ⟨0 + 1, by go_num, by omega, HA2, HB2, below_drawn HBEL.out _⟩
    case measure => simp [intOf]; omega
   obtain ⟨j, rfl⟩ : ∃ j, i = j + 1 := ⟨i - 1, by omega⟩
   obtain ⟨b', o', hbo, -, hy⟩ := HC.out wr hbel j (by omega);simp only [zO, Addr.mk.injEq, and_true] at hbo
   obtain ⟨rfl, rfl⟩ := hbo;have wj : IntKind.i64.wrap (((j + 1 : Nat) : Int) - 1) = (j : Int) := by rw [IntWalk.i64_in _ (by omega)]; omega
   have ej : ((j : Int) + 1).toNat = j + 1 := by omega
   have t4 : decide (((j + 1 : Nat) : Int) > 0) = true := zT (by omega);have hjl : j < l.length := by omega
   obtain ⟨Y, hY⟩ : ∃ Y, Y = l[j]'hjl := ⟨_, rfl⟩
   have HY := Bx.mk hY;rw [<- hY] at hy;by_cases hc : Y < X
   ·have HB2 := Bx.mk (show ∀ k (hk : k + 1 < l.length), k + 1 < j + 1 + 1 -> l[k] < l[k + 1] by
     intro k hk hkj;rcases Nat.lt_or_ge (k + 1) (j + 1) with q | q
     ·exact hB.out k hk q
     ·obtain rfl : k = j := by omega
      rw [<- HX.out, <- HY.out]; exact hc)
    have t5 : decide (Y >= X) = false := zF (by omega);have t6 : decide (X <= Y) = false := zF (by omega);clear hbel hc hX hY c1 c2 hz;go_wp2_with fail
    go_quiet (fail)
    go_wp2_with fail
    go_roundw
    case rel => exact ⟨j + 2, by go_num, by omega, HA2, HB2, below_drawn HBEL.out _⟩
    case measure => simp [intOf]; omega
   ·have HF := Bx.mk (show R = false by rw [HR.out]; exact risB_bad2 hil (by rw [<- HX.out, <- HY.out]; exact hc));have t5 : decide (Y >= X) = true := zT (by omega);have t6 : decide (X <= Y) = true := zT (by omega);clear hbel hc hX hY c1 c2 hz;go_wp2_with fail
    go_quiet (fail)
    go_wp2_with fail
    go_ret;exact ⟨by rw [HF.out]; rfl, below_drawn HBEL.out _⟩
  ·have HE := Bx.mk (show R = true by
    rw [HR.out];have := HN.out
    exact risB_good (fun k hk => hA.out k hk (by omega)) (fun k hk => hB.out k hk (by omega)))
   have HBEL := Bx.mk hbel;clear hbel;go_wp2_with fail
   go_ret;exact ⟨by rw [HE.out]; rfl, HBEL.out⟩
variable {W2 a0 a1 a2 a3 a4 a5 a6 a7 a8 a9 b0 b1 b2 b3 b4 b5 b6 b7 b8 b9 c1 c2 c3 c4 c5 c6 c7 c8 c9 d0 d1 d2 d3 d4 d5 d6 d7 d8 d9 e0 e2 e3 e4 e5 e6 e7 e8 e9 f0 f1 f2 f3 f4 f5 f6 f7 f8 f9 g0 g1 g2 g3 g4 g5 g6 g7 g8 g9 h0 h1 h2 h3 h4 h5 h6 h7 h8 h9 i0 i1 i2 i3 i4 i5 i6 i7 i8 i9 j0 j1 j2 j3 j4 j5 j6 j7 j8 j9 k0 k1 k2 k3 k4 k5 k6 k7 k8 k9 l0 l1 l2 l4 l5 l6 l7 l8 l9 m0 m1 m2 m3 m4 m5 m6 m7 m8 m9 n3 n4 n5 n6 n7 n8 n9 o0 o1 o2 o3 o4 o5 o6 o7 o8 o9 p0 p1 p2 p3 p4 p5 p6 p7 p8 p9 q0 q1 q2 q3 q4 q5 q6 q7 q8 q9 r0 r1 r2 r3 r4 r5 r6 r7 r8 r9 s0 s3 t0 t3 t4 t5 t6 t7 t8 t9 u0 u1 u2 u3 u4 u5 u6 u7 u8 u9 v0 v1 v2 v3 v4 v5 v6 c0 n0 n1 n2 s5 s6 s7 t1 t2 : Value}
theorem reg4_a {Q : Exit -> Act -> World -> Prop} {W2 : World} {gb go : Nat} {GN gc M rc : Nat} {ra : Option Addr}
  (t1 : ((M : Int) != 1) = true) (t2 : ((M : Int) == 1) = false)
  (hQ : ∀ (W' : World), Below W2.heap.size W2 W' -> ∀ (o18 o19 o20 o21 o22 o23 o24 o25 o26 o27 o28 o29 o30 o31 o32 o33 o34 o35 o36 o37 o38 o39 o40 o41 o42 o43 : Value), Q .normal { tmps := List.toArray (.slice (some ⟨gb, go, none⟩) GN gc::a0::a1::.slice ra M rc::a2::a3::a4::a5::a6::a7::a8::a9::b0::b1::b2::b3::b4::b5::o18::o19::o20::o21::o22::o23::o24::o25::o26::o27::o28::o29::o30::o31::o32::o33::o34::o35::o36::o37::o38::o39::o40::o41::o42::o43::.bool (true)::b6::b7::b8::b9::c1::c2::c3::c4::c5::c6::c7::c8::c9::d0::d1::d2::d3::d4::d5::d6::d7::d8::d9::e0::e2::e3::e4::e5::e6::e7::e8::e9::f0::f1::f2::f3::f4::f5::f6::f7::f8::f9::g0::g1::g2::g3::g4::g5::g6::g7::g8::g9::h0::h1::h2::h3::h4::h5::h6::h7::h8::h9::i0::i1::i2::i3::i4::i5::i6::i7::i8::i9::j0::j1::j2::j3::j4::j5::j6::j7::j8::j9::k0::k1::k2::k3::k4::k5::k6::k7::k8::k9::l0::l1::l2::l4::l5::l6::l7::l8::l9::m0::m1::m2::m3::m4::m5::m6::m7::m8::m9::n3::n4::n5::n6::n7::n8::n9::o0::o1::o2::o3::o4::o5::o6::o7::o8::o9::p0::p1::p2::p3::p4::p5::p6::p7::p8::p9::q0::q1::q2::q3::q4::q5::q6::q7::q8::q9::r0::r1::r2::r3::r4::r5::r6::r7::r8::r9::[]), defers := [] } W') :
  (regC 4 (Tryz.f16.body.getD .skip)).wp Tryz.prog Q { tmps := List.toArray (.slice (some ⟨gb, go, none⟩) GN gc::a0::a1::.slice ra M rc::a2::a3::a4::a5::a6::a7::a8::a9::b0::b1::b2::b3::b4::b5::s0::s3::t0::t3::t4::t5::t6::t7::t8::t9::u0::u1::u2::u3::u4::u5::u6::u7::u8::u9::v0::v1::v2::v3::v4::v5::v6::b6::b7::b8::b9::c1::c2::c3::c4::c5::c6::c7::c8::c9::d0::d1::d2::d3::d4::d5::d6::d7::d8::d9::e0::e2::e3::e4::e5::e6::e7::e8::e9::f0::f1::f2::f3::f4::f5::f6::f7::f8::f9::g0::g1::g2::g3::g4::g5::g6::g7::g8::g9::h0::h1::h2::h3::h4::h5::h6::h7::h8::h9::i0::i1::i2::i3::i4::i5::i6::i7::i8::i9::j0::j1::j2::j3::j4::j5::j6::j7::j8::j9::k0::k1::k2::k3::k4::k5::k6::k7::k8::k9::l0::l1::l2::l4::l5::l6::l7::l8::l9::m0::m1::m2::m3::m4::m5::m6::m7::m8::m9::n3::n4::n5::n6::n7::n8::n9::o0::o1::o2::o3::o4::o5::o6::o7::o8::o9::p0::p1::p2::p3::p4::p5::p6::p7::p8::p9::q0::q1::q2::q3::q4::q5::q6::q7::q8::q9::r0::r1::r2::r3::r4::r5::r6::r7::r8::r9::[]), defers := [] } W2 := by
 rw [show regC 4 (Tryz.f16.body.getD .skip) = Code.region 4 _ true from rfl];refine wp_region_self (by kernel_rfl) (by kernel_rfl) ?_
 repeat (go_big_quiet_step (fail))
 refine wpQuiet_nil ?_;rintro _ ⟨e1, rfl⟩;exact hQ _ e1.bel _ _ _ _ _ _ _ _ _ _ _ _ _ _ _ _ _ _ _ _ _ _ _ _ _ _
theorem reg4_b {Q : Exit -> Act -> World -> Prop} {W2 : World} {gb go b o : Nat} {GN gc rc : Nat} {X : ByteArray}
  (n0 : ∀ (e : Ext W2), e.out.cell? ⟨b, o, none⟩ = some (.string X)) (l3 : (X.toList == ([50, 46, 53, 46, 50, 57, 46, 51, 50, 46, 48] : List UInt8)) = false)
  (hQ : ∀ (W' : World), Below W2.heap.size W2 W' -> ∀ (o18 o19 o20 o21 o22 o23 o24 o25 o26 o27 o28 o29 o30 o31 o32 o33 o34 o35 o36 o37 o38 o39 o40 o41 o42 o43 : Value), Q .normal { tmps := List.toArray (.slice (some ⟨gb, go, none⟩) GN gc::a0::a1::.slice (some ⟨b, o, none⟩) 1 rc::a2::a3::a4::a5::a6::a7::a8::a9::b0::b1::b2::b3::b4::b5::o18::o19::o20::o21::o22::o23::o24::o25::o26::o27::o28::o29::o30::o31::o32::o33::o34::o35::o36::o37::o38::o39::o40::o41::o42::o43::.bool (true)::b6::b7::b8::b9::c1::c2::c3::c4::c5::c6::c7::c8::c9::d0::d1::d2::d3::d4::d5::d6::d7::d8::d9::e0::e2::e3::e4::e5::e6::e7::e8::e9::f0::f1::f2::f3::f4::f5::f6::f7::f8::f9::g0::g1::g2::g3::g4::g5::g6::g7::g8::g9::h0::h1::h2::h3::h4::h5::h6::h7::h8::h9::i0::i1::i2::i3::i4::i5::i6::i7::i8::i9::j0::j1::j2::j3::j4::j5::j6::j7::j8::j9::k0::k1::k2::k3::k4::k5::k6::k7::k8::k9::l0::l1::l2::l4::l5::l6::l7::l8::l9::m0::m1::m2::m3::m4::m5::m6::m7::m8::m9::n3::n4::n5::n6::n7::n8::n9::o0::o1::o2::o3::o4::o5::o6::o7::o8::o9::p0::p1::p2::p3::p4::p5::p6::p7::p8::p9::q0::q1::q2::q3::q4::q5::q6::q7::q8::q9::r0::r1::r2::r3::r4::r5::r6::r7::r8::r9::[]), defers := [] } W') :
  (regC 4 (Tryz.f16.body.getD .skip)).wp Tryz.prog Q { tmps := List.toArray (.slice (some ⟨gb, go, none⟩) GN gc::a0::a1::.slice (some ⟨b, o, none⟩) 1 rc::a2::a3::a4::a5::a6::a7::a8::a9::b0::b1::b2::b3::b4::b5::s0::s3::t0::t3::t4::t5::t6::t7::t8::t9::u0::u1::u2::u3::u4::u5::u6::u7::u8::u9::v0::v1::v2::v3::v4::v5::v6::b6::b7::b8::b9::c1::c2::c3::c4::c5::c6::c7::c8::c9::d0::d1::d2::d3::d4::d5::d6::d7::d8::d9::e0::e2::e3::e4::e5::e6::e7::e8::e9::f0::f1::f2::f3::f4::f5::f6::f7::f8::f9::g0::g1::g2::g3::g4::g5::g6::g7::g8::g9::h0::h1::h2::h3::h4::h5::h6::h7::h8::h9::i0::i1::i2::i3::i4::i5::i6::i7::i8::i9::j0::j1::j2::j3::j4::j5::j6::j7::j8::j9::k0::k1::k2::k3::k4::k5::k6::k7::k8::k9::l0::l1::l2::l4::l5::l6::l7::l8::l9::m0::m1::m2::m3::m4::m5::m6::m7::m8::m9::n3::n4::n5::n6::n7::n8::n9::o0::o1::o2::o3::o4::o5::o6::o7::o8::o9::p0::p1::p2::p3::p4::p5::p6::p7::p8::p9::q0::q1::q2::q3::q4::q5::q6::q7::q8::q9::r0::r1::r2::r3::r4::r5::r6::r7::r8::r9::[]), defers := [] } W2 := by
 rw [show regC 4 (Tryz.f16.body.getD .skip) = Code.region 4 _ true from rfl];refine wp_region_self (by kernel_rfl) (by kernel_rfl) ?_
 repeat (go_big_quiet_step (fail))
 refine wpQuiet_nil ?_;rintro _ ⟨e1, rfl⟩;exact hQ _ e1.bel _ _ _ _ _ _ _ _ _ _ _ _ _ _ _ _ _ _ _ _ _ _ _ _ _ _
def VgN (W0 : World) (lv uv pv : Value) (b o PN : Nat) (X : ByteArray) (PG : Bool) : Nat -> Value -> World -> Prop
 | 0, v, _ => v = lv
 | 1, v, _ => v = .int .i64 1
 | 2, v, _ => v = .bool false
 | 3, v, _ => v = .bool false
 | 4, v, _ => v = lv
 | 5, v, _ => v = .pointer (some ⟨b, o, none⟩)
 | 6, v, _ => v = .pointer (some ⟨b, o, none⟩)
 | 7, v, _ => v = .string X
 | 8, v, _ => v = .bool false
 | 9, v, _ => v = .bool false
 | 10, v, _ => v = .bool false
 | 11, v, _ => v = lv
 | 12, v, _ => v = .pointer (some ⟨b, o, none⟩)
 | 13, v, _ => v = .pointer (some ⟨b, o + 1, none⟩)
 | 14, v, _ => v = uv
 | 15, v, w => Slc.Own w W0.heap.size 9 1 encS v [anyP]
 | 16, v, _ => v = .bool false
 | 17, v, _ => v = .bool true
 | 18, v, _ => v = .bool true
 | 19, v, _ => v = .bool true
 | 26, v, _ => v = .bool true
 | _, _, _ => True
theorem VgN.stable (W0 : World) (lv uv pv : Value) (b o PN : Nat) (X : ByteArray) (PG : Bool) (i : Nat) (v : Value) (w w' : World) (h : VgN W0 lv uv pv b o PN X PG i v w) (hb : Below w.heap.size w w') : VgN W0 lv uv pv b o PN X PG i v w' := by
 match i with
 | 0 | 1 | 2 | 3 | 4 | 5 | 6 | 7 | 8 | 9 | 10 | 11 | 12 | 13 | 14 | 16 | 17 | 18 | 19 | 26 => exact h
 | 15 => exact Slc.Own.below (t := 9) h hb
 | 20 | 21 | 22 | 23 | 24 | 25 => exact trivial
 | _ + 27 => exact trivial
theorem reg4_c {Q : Exit -> Act -> World -> Prop} {W2 : World} {gb go b o : Nat} {GN gc rc : Nat} {X : ByteArray} {ua : Option Addr} {un uc : Nat}
  (n0 : W2.cell? ⟨b, o, none⟩ = some (.string X)) (n1 : W2.cell? ⟨b, o + 1, none⟩ = some (.slice ua un uc)) (hbl : b < W2.heap.size)
  (l3 : (X.toList == ([50, 46, 53, 46, 50, 57, 46, 51, 50, 46, 48] : List UInt8)) = true) (hsm : ∀ W, Below W2.heap.size W2 W -> ∀ u, Rd W encS u [anyP] -> Calls Tryz.prog 30 #[.slice ua un uc, u] W fun e w' => e = .returned (.bool false) /\ Below W.heap.size W w')
  (hQ : ∀ (W' : World), Below W2.heap.size W2 W' -> ∀ (o18 o19 o20 o21 o22 o23 o24 o25 o26 o27 o28 o29 o30 o31 o32 o33 o34 o35 o36 o37 o38 o39 o40 o41 o42 o43 : Value), Q .normal { tmps := List.toArray (.slice (some ⟨gb, go, none⟩) GN gc::a0::a1::.slice (some ⟨b, o, none⟩) 1 rc::a2::a3::a4::a5::a6::a7::a8::a9::b0::b1::b2::b3::b4::b5::o18::o19::o20::o21::o22::o23::o24::o25::o26::o27::o28::o29::o30::o31::o32::o33::o34::o35::o36::o37::o38::o39::o40::o41::o42::o43::.bool (true)::b6::b7::b8::b9::c1::c2::c3::c4::c5::c6::c7::c8::c9::d0::d1::d2::d3::d4::d5::d6::d7::d8::d9::e0::e2::e3::e4::e5::e6::e7::e8::e9::f0::f1::f2::f3::f4::f5::f6::f7::f8::f9::g0::g1::g2::g3::g4::g5::g6::g7::g8::g9::h0::h1::h2::h3::h4::h5::h6::h7::h8::h9::i0::i1::i2::i3::i4::i5::i6::i7::i8::i9::j0::j1::j2::j3::j4::j5::j6::j7::j8::j9::k0::k1::k2::k3::k4::k5::k6::k7::k8::k9::l0::l1::l2::l4::l5::l6::l7::l8::l9::m0::m1::m2::m3::m4::m5::m6::m7::m8::m9::n3::n4::n5::n6::n7::n8::n9::o0::o1::o2::o3::o4::o5::o6::o7::o8::o9::p0::p1::p2::p3::p4::p5::p6::p7::p8::p9::q0::q1::q2::q3::q4::q5::q6::q7::q8::q9::r0::r1::r2::r3::r4::r5::r6::r7::r8::r9::[]), defers := [] } W') :
  (regC 4 (Tryz.f16.body.getD .skip)).wp Tryz.prog Q { tmps := List.toArray (.slice (some ⟨gb, go, none⟩) GN gc::a0::a1::.slice (some ⟨b, o, none⟩) 1 rc::a2::a3::a4::a5::a6::a7::a8::a9::b0::b1::b2::b3::b4::b5::s0::s3::t0::t3::t4::t5::t6::t7::t8::t9::u0::u1::u2::u3::u4::u5::u6::u7::u8::u9::v0::v1::v2::v3::v4::v5::v6::b6::b7::b8::b9::c1::c2::c3::c4::c5::c6::c7::c8::c9::d0::d1::d2::d3::d4::d5::d6::d7::d8::d9::e0::e2::e3::e4::e5::e6::e7::e8::e9::f0::f1::f2::f3::f4::f5::f6::f7::f8::f9::g0::g1::g2::g3::g4::g5::g6::g7::g8::g9::h0::h1::h2::h3::h4::h5::h6::h7::h8::h9::i0::i1::i2::i3::i4::i5::i6::i7::i8::i9::j0::j1::j2::j3::j4::j5::j6::j7::j8::j9::k0::k1::k2::k3::k4::k5::k6::k7::k8::k9::l0::l1::l2::l4::l5::l6::l7::l8::l9::m0::m1::m2::m3::m4::m5::m6::m7::m8::m9::n3::n4::n5::n6::n7::n8::n9::o0::o1::o2::o3::o4::o5::o6::o7::o8::o9::p0::p1::p2::p3::p4::p5::p6::p7::p8::p9::q0::q1::q2::q3::q4::q5::q6::q7::q8::q9::r0::r1::r2::r3::r4::r5::r6::r7::r8::r9::[]), defers := [] } W2 := by
 rw [show regC 4 (Tryz.f16.body.getD .skip) = Code.region 4 _ true from rfl];have HQB := Bx.mk hQ;clear hQ;have HC4 := Bx.mk (And.intro n0 (And.intro n1 trivial));have HBB4 := Bx.mk hbl;have HSM := Bx.mk hsm;clear n0 n1 hbl hsm;refine wp_region_facts 27 (VgN W2 (.slice (some ⟨b, o, none⟩) 1 rc) (.slice ua un uc) undef b o 0 X false) (by kernel_rfl) (by kernel_rfl) (by rfl) (VgN.stable _ _ _ _ _ _ _ _ _) ?_ ?_
 ·intro i oo hi ho xs w7 hb hd;have hcs : i = 0 \/ i = 1 \/ i = 2 \/ i = 3 \/ i = 4 \/ i = 5 \/ i = 6 \/ i = 7 \/ i = 8 \/ i = 9 \/ i = 10 \/ i = 11 \/ i = 12 \/ i = 13 \/ i = 14 \/ i = 15 \/ i = 16 \/ i = 17 \/ i = 18 \/ i = 19 \/ i = 20 \/ i = 21 \/ i = 22 \/ i = 23 \/ i = 24 \/ i = 25 \/ i = 26 := by omega
  simp only [List.take_succ_cons, List.take_zero, putFrom, Act.put, List.setIfInBounds_toArray, List.set_cons_succ, List.set_cons_zero, Nat.zero_add, Nat.reduceAdd]
  have HB7 := Bx.mk hb;have hal := alone_any w7;have hsm := HSM.out w7 hb;clear hb;rcases hcs with rfl | rfl | rfl | rfl | rfl | rfl | rfl | rfl | rfl | rfl | rfl | rfl | rfl | rfl | rfl | rfl | rfl | rfl | rfl | rfl | rfl | rfl | rfl | rfl | rfl | rfl | rfl
  all_goals
   simp only [List.getElem?_cons_succ, List.getElem?_cons_zero, zO] at ho
   subst ho;simp [Needs, Region.binds, VgN] at hd
  all_goals clear hi
  case inr.inr.inr.inr.inr.inr.inr.inl =>
   have c0 := (HB7.out.cell (p := ⟨b, o, none⟩) HBB4.out).trans HC4.out.1;go_wp2_with fail
   exact ⟨rfl, rfl, rfl, Below.refl _ _⟩
  case inr.inr.inr.inr.inr.inr.inr.inr.inr.inr.inr.inr.inr.inr.inl =>
   have c0 := (HB7.out.cell (p := ⟨b, o + 1, none⟩) HBB4.out).trans HC4.out.2.1;go_wp2_with fail
   exact ⟨rfl, rfl, rfl, Below.refl _ _⟩
  case inr.inr.inr.inr.inr.inr.inr.inr.inr.inr.inr.inr.inr.inr.inr.inl =>
   have HS7 := Bx.mk HB7.out.size;go_wp2_with (go_at_call 44; refine hal.mono ?_; rintro e w8 ⟨v8, rfl, ho8, hb8⟩)
   exact ⟨rfl, rfl, ho8.mono HS7.out, hb8⟩
  case inr.inr.inr.inr.inr.inr.inr.inr.inr.inr.inr.inr.inr.inr.inr.inr.inl =>
   have h24 : Slc.Own w7 W2.heap.size 9 1 encS (xs 15) [anyP] := by first | exact hd.2.1 | exact hd.1 | exact hd.2.2 | exact hd.2
   have hs := hsm _ h24.rd;clear h24;go_wp2_with (go_at_call 30; refine hs.mono ?_; rintro e w8 ⟨rfl, hb8⟩)
   exact ⟨rfl, rfl, rfl, hb8⟩
  all_goals
   go_wp2_with fail
   first | exact ⟨rfl, rfl, rfl, Below.refl _ _⟩ | exact ⟨rfl, rfl, trivial, Below.refl _ _⟩
 ·intro xs w7 hb hf;have f26 := hf 26 (by omega);simp only [VgN] at f26
  have HB7 := Bx.mk hb;clear hb;simp only [List.take_succ_cons, List.take_zero, List.drop_succ_cons, List.drop_zero, putFrom, Act.put, List.setIfInBounds_toArray, List.set_cons_succ, List.set_cons_zero, Nat.zero_add, Nat.reduceAdd, f26]
  clear f26 hf;go_wp2_with fail
  exact HQB.out _ HB7.out _ _ _ _ _ _ _ _ _ _ _ _ _ _ _ _ _ _ _ _ _ _ _ _ _ _
def VgT (W0 : World) (lv uv pv : Value) (b o PN : Nat) (X : ByteArray) (PG : Bool) : Nat -> Value -> World -> Prop
 | 0, v, _ => v = lv
 | 1, v, _ => v = .int .i64 1
 | 2, v, _ => v = .bool false
 | 3, v, _ => v = .bool false
 | 4, v, _ => v = lv
 | 5, v, _ => v = .pointer (some ⟨b, o, none⟩)
 | 6, v, _ => v = .pointer (some ⟨b, o, none⟩)
 | 7, v, _ => v = .string X
 | 8, v, _ => v = .bool false
 | 9, v, _ => v = .bool false
 | 10, v, _ => v = .bool false
 | 11, v, _ => v = lv
 | 12, v, _ => v = .pointer (some ⟨b, o, none⟩)
 | 13, v, _ => v = .pointer (some ⟨b, o + 1, none⟩)
 | 14, v, _ => v = uv
 | 15, v, w => Slc.Own w W0.heap.size 9 1 encS v [anyP]
 | 16, v, _ => v = .bool true
 | 17, v, _ => v = .bool false
 | 18, v, _ => v = .bool false
 | 19, v, _ => v = .bool false
 | 20, v, _ => v = lv
 | 21, v, _ => v = .pointer (some ⟨b, o, none⟩)
 | 22, v, _ => v = .pointer (some ⟨b, o + 2, none⟩)
 | 23, v, _ => v = pv
 | 24, v, _ => v = .int .i64 (PN : Nat)
 | 25, v, _ => v = .bool PG
 | 26, v, _ => v = .bool PG
 | _, _, _ => True
theorem VgT.stable (W0 : World) (lv uv pv : Value) (b o PN : Nat) (X : ByteArray) (PG : Bool) (i : Nat) (v : Value) (w w' : World) (h : VgT W0 lv uv pv b o PN X PG i v w) (hb : Below w.heap.size w w') : VgT W0 lv uv pv b o PN X PG i v w' := by
 match i with
 | 0 | 1 | 2 | 3 | 4 | 5 | 6 | 7 | 8 | 9 | 10 | 11 | 12 | 13 | 14 | 16 | 17 | 18 | 19 | 20 | 21 | 22 | 23 | 24 | 25 | 26 => exact h
 | 15 => exact Slc.Own.below (t := 9) h hb
 | _ + 27 => exact trivial
theorem reg4_d {Q : Exit -> Act -> World -> Prop} {W2 : World} {gb go b o : Nat} {GN gc rc : Nat} {X : ByteArray} {ua pa : Option Addr} {un uc PN pc : Nat}
  (n0 : W2.cell? ⟨b, o, none⟩ = some (.string X)) (n1 : W2.cell? ⟨b, o + 1, none⟩ = some (.slice ua un uc)) (n2 : W2.cell? ⟨b, o + 2, none⟩ = some (.slice pa PN pc)) (hbl : b < W2.heap.size)
  (l3 : (X.toList == ([50, 46, 53, 46, 50, 57, 46, 51, 50, 46, 48] : List UInt8)) = true) (hsm : ∀ W, Below W2.heap.size W2 W -> ∀ u, Rd W encS u [anyP] -> Calls Tryz.prog 30 #[.slice ua un uc, u] W fun e w' => e = .returned (.bool true) /\ Below W.heap.size W w')
  (hQ : ∀ (W' : World), Below W2.heap.size W2 W' -> ∀ (o18 o19 o20 o21 o22 o23 o24 o25 o26 o27 o28 o29 o30 o31 o32 o33 o34 o35 o36 o37 o38 o39 o40 o41 o42 o43 : Value), Q .normal { tmps := List.toArray (.slice (some ⟨gb, go, none⟩) GN gc::a0::a1::.slice (some ⟨b, o, none⟩) 1 rc::a2::a3::a4::a5::a6::a7::a8::a9::b0::b1::b2::b3::b4::b5::o18::o19::o20::o21::o22::o23::o24::o25::o26::o27::o28::o29::o30::o31::o32::o33::o34::o35::o36::o37::o38::o39::o40::o41::o42::o43::.bool (decide ((PN : Int) > 0))::b6::b7::b8::b9::c1::c2::c3::c4::c5::c6::c7::c8::c9::d0::d1::d2::d3::d4::d5::d6::d7::d8::d9::e0::e2::e3::e4::e5::e6::e7::e8::e9::f0::f1::f2::f3::f4::f5::f6::f7::f8::f9::g0::g1::g2::g3::g4::g5::g6::g7::g8::g9::h0::h1::h2::h3::h4::h5::h6::h7::h8::h9::i0::i1::i2::i3::i4::i5::i6::i7::i8::i9::j0::j1::j2::j3::j4::j5::j6::j7::j8::j9::k0::k1::k2::k3::k4::k5::k6::k7::k8::k9::l0::l1::l2::l4::l5::l6::l7::l8::l9::m0::m1::m2::m3::m4::m5::m6::m7::m8::m9::n3::n4::n5::n6::n7::n8::n9::o0::o1::o2::o3::o4::o5::o6::o7::o8::o9::p0::p1::p2::p3::p4::p5::p6::p7::p8::p9::q0::q1::q2::q3::q4::q5::q6::q7::q8::q9::r0::r1::r2::r3::r4::r5::r6::r7::r8::r9::[]), defers := [] } W') :
  (regC 4 (Tryz.f16.body.getD .skip)).wp Tryz.prog Q { tmps := List.toArray (.slice (some ⟨gb, go, none⟩) GN gc::a0::a1::.slice (some ⟨b, o, none⟩) 1 rc::a2::a3::a4::a5::a6::a7::a8::a9::b0::b1::b2::b3::b4::b5::s0::s3::t0::t3::t4::t5::t6::t7::t8::t9::u0::u1::u2::u3::u4::u5::u6::u7::u8::u9::v0::v1::v2::v3::v4::v5::v6::b6::b7::b8::b9::c1::c2::c3::c4::c5::c6::c7::c8::c9::d0::d1::d2::d3::d4::d5::d6::d7::d8::d9::e0::e2::e3::e4::e5::e6::e7::e8::e9::f0::f1::f2::f3::f4::f5::f6::f7::f8::f9::g0::g1::g2::g3::g4::g5::g6::g7::g8::g9::h0::h1::h2::h3::h4::h5::h6::h7::h8::h9::i0::i1::i2::i3::i4::i5::i6::i7::i8::i9::j0::j1::j2::j3::j4::j5::j6::j7::j8::j9::k0::k1::k2::k3::k4::k5::k6::k7::k8::k9::l0::l1::l2::l4::l5::l6::l7::l8::l9::m0::m1::m2::m3::m4::m5::m6::m7::m8::m9::n3::n4::n5::n6::n7::n8::n9::o0::o1::o2::o3::o4::o5::o6::o7::o8::o9::p0::p1::p2::p3::p4::p5::p6::p7::p8::p9::q0::q1::q2::q3::q4::q5::q6::q7::q8::q9::r0::r1::r2::r3::r4::r5::r6::r7::r8::r9::[]), defers := [] } W2 := by
 rw [show regC 4 (Tryz.f16.body.getD .skip) = Code.region 4 _ true from rfl];have HQB := Bx.mk hQ;clear hQ;have HC4 := Bx.mk (And.intro n0 (And.intro n1 n2));have HBB4 := Bx.mk hbl;have HSM := Bx.mk hsm;clear n0 n1 n2 hbl hsm;refine wp_region_facts 27 (VgT W2 (.slice (some ⟨b, o, none⟩) 1 rc) (.slice ua un uc) (.slice pa PN pc) b o PN X (decide ((PN : Int) > 0))) (by kernel_rfl) (by kernel_rfl) (by rfl) (VgT.stable _ _ _ _ _ _ _ _ _) ?_ ?_
 ·intro i oo hi ho xs w7 hb hd;have hcs : i = 0 \/ i = 1 \/ i = 2 \/ i = 3 \/ i = 4 \/ i = 5 \/ i = 6 \/ i = 7 \/ i = 8 \/ i = 9 \/ i = 10 \/ i = 11 \/ i = 12 \/ i = 13 \/ i = 14 \/ i = 15 \/ i = 16 \/ i = 17 \/ i = 18 \/ i = 19 \/ i = 20 \/ i = 21 \/ i = 22 \/ i = 23 \/ i = 24 \/ i = 25 \/ i = 26 := by omega
  simp only [List.take_succ_cons, List.take_zero, putFrom, Act.put, List.setIfInBounds_toArray, List.set_cons_succ, List.set_cons_zero, Nat.zero_add, Nat.reduceAdd]
  have HB7 := Bx.mk hb;have hal := alone_any w7;have hsm := HSM.out w7 hb;clear hb;rcases hcs with rfl | rfl | rfl | rfl | rfl | rfl | rfl | rfl | rfl | rfl | rfl | rfl | rfl | rfl | rfl | rfl | rfl | rfl | rfl | rfl | rfl | rfl | rfl | rfl | rfl | rfl | rfl
  all_goals
   simp only [List.getElem?_cons_succ, List.getElem?_cons_zero, zO] at ho
   subst ho;simp [Needs, Region.binds, VgT] at hd
  all_goals clear hi
  case inr.inr.inr.inr.inr.inr.inr.inl =>
   have c0 := (HB7.out.cell (p := ⟨b, o, none⟩) HBB4.out).trans HC4.out.1;go_wp2_with fail
   exact ⟨rfl, rfl, rfl, Below.refl _ _⟩
  case inr.inr.inr.inr.inr.inr.inr.inr.inr.inr.inr.inr.inr.inr.inl =>
   have c0 := (HB7.out.cell (p := ⟨b, o + 1, none⟩) HBB4.out).trans HC4.out.2.1;go_wp2_with fail
   exact ⟨rfl, rfl, rfl, Below.refl _ _⟩
  case inr.inr.inr.inr.inr.inr.inr.inr.inr.inr.inr.inr.inr.inr.inr.inr.inr.inr.inr.inr.inr.inr.inr.inl =>
   have c0 := (HB7.out.cell (p := ⟨b, o + 2, none⟩) HBB4.out).trans HC4.out.2.2;go_wp2_with fail
   exact ⟨rfl, rfl, rfl, Below.refl _ _⟩
  case inr.inr.inr.inr.inr.inr.inr.inr.inr.inr.inr.inr.inr.inr.inr.inl =>
   have HS7 := Bx.mk HB7.out.size;go_wp2_with (go_at_call 44; refine hal.mono ?_; rintro e w8 ⟨v8, rfl, ho8, hb8⟩)
   exact ⟨rfl, rfl, ho8.mono HS7.out, hb8⟩
  case inr.inr.inr.inr.inr.inr.inr.inr.inr.inr.inr.inr.inr.inr.inr.inr.inl =>
   have h24 : Slc.Own w7 W2.heap.size 9 1 encS (xs 15) [anyP] := by first | exact hd.2.1 | exact hd.1 | exact hd.2.2 | exact hd.2
   have hs := hsm _ h24.rd;clear h24;go_wp2_with (go_at_call 30; refine hs.mono ?_; rintro e w8 ⟨rfl, hb8⟩)
   exact ⟨rfl, rfl, rfl, hb8⟩
  all_goals
   go_wp2_with fail
   first | exact ⟨rfl, rfl, rfl, Below.refl _ _⟩ | exact ⟨rfl, rfl, trivial, Below.refl _ _⟩
 ·intro xs w7 hb hf;have f26 := hf 26 (by omega);simp only [VgT] at f26
  have HB7 := Bx.mk hb;clear hb;simp only [List.take_succ_cons, List.take_zero, List.drop_succ_cons, List.drop_zero, putFrom, Act.put, List.setIfInBounds_toArray, List.set_cons_succ, List.set_cons_zero, Nat.zero_add, Nat.reduceAdd, f26]
  clear f26 hf;go_wp2_with fail
  exact HQB.out _ HB7.out _ _ _ _ _ _ _ _ _ _ _ _ _ _ _ _ _ _ _ _ _ _ _ _ _ _
theorem reg14_a {Q : Exit -> Act -> World -> Prop} {W2 : World} {gb go b o k j : Nat} {GN gc M c KN kc : Nat} {ka : Option Addr} {X Y : ByteArray}
  (hk : k < M) (hj : j < M) (tk : decide ((k : Int) > 0) = true) (tk2 : decide (0 < k) = true) (wj : IntKind.i64.wrap ((k : Int) - 1) = (j : Int))
  (x0 : ∀ (e : Ext W2), e.out.cell? ⟨b, o + k * 3, none⟩ = some (.string X)) (y0 : ∀ (e : Ext W2), e.out.cell? ⟨b, o + j * 3, none⟩ = some (.string Y)) (l1 : Op.bytesLess Y.toList X.toList = false) (l2 : Op.bytesLess X.toList Y.toList = true) (l3 : (Y.toList == X.toList) = false)
  (hQ : ∀ (W' : World), Below W2.heap.size W2 W' -> ∀ (o70 o71 o72 o73 o74 o75 o76 o77 o78 o79 o80 o81 o82 o83 o84 o85 o86 o87 o88 o89 o90 o91 o92 o93 o94 o95 o96 o97 o98 o99 o100 o101 o102 o103 o104 o105 o106 o107 o108 o109 o110 o111 o112 o113 : Value), Q .normal { tmps := List.toArray (.slice (some ⟨gb, go, none⟩) GN gc::a0::a1::a2::a3::.slice (some ⟨b, o, none⟩) M c::.slice ka KN kc::.int .i64 (k : Nat)::a4::a5::a6::a7::a8::a9::b0::b1::b2::b3::b4::b5::b6::b7::b8::b9::c0::c1::c2::c3::c4::c5::c6::c7::c8::c9::d0::d1::d2::d3::d4::d5::d6::d7::d8::d9::e0::e2::e3::e4::e5::e6::e7::e8::e9::f0::f1::f2::f3::f4::f5::f6::f7::f8::f9::g0::g1::g2::g3::g4::g5::g6::o70::o71::o72::o73::o74::o75::o76::o77::o78::o79::o80::o81::o82::o83::o84::o85::o86::o87::o88::o89::o90::o91::o92::o93::o94::o95::o96::o97::o98::o99::o100::o101::o102::o103::o104::o105::o106::o107::o108::o109::o110::o111::o112::o113::.bool (true)::g7::g8::g9::h0::h1::h2::h3::h4::h5::h6::h7::h8::h9::i0::i1::i2::i3::i4::i5::i6::i7::i8::i9::j0::j1::j2::j3::j4::j5::j6::j7::j8::j9::k0::k1::k2::k3::k4::k5::k6::k7::k8::k9::l0::l4::l5::l6::l7::l8::l9::m0::m1::m2::m3::m4::m5::m6::m7::m8::m9::n0::n1::n2::n3::n4::n5::n6::n7::n8::n9::o0::o1::o2::o3::o4::o5::o6::o7::o8::o9::p0::p1::p2::p3::p4::p5::p6::p7::[]), defers := [] } W') :
  (regC 14 (Tryz.f16.body.getD .skip)).wp Tryz.prog Q { tmps := List.toArray (.slice (some ⟨gb, go, none⟩) GN gc::a0::a1::a2::a3::.slice (some ⟨b, o, none⟩) M c::.slice ka KN kc::.int .i64 (k : Nat)::a4::a5::a6::a7::a8::a9::b0::b1::b2::b3::b4::b5::b6::b7::b8::b9::c0::c1::c2::c3::c4::c5::c6::c7::c8::c9::d0::d1::d2::d3::d4::d5::d6::d7::d8::d9::e0::e2::e3::e4::e5::e6::e7::e8::e9::f0::f1::f2::f3::f4::f5::f6::f7::f8::f9::g0::g1::g2::g3::g4::g5::g6::p8::p9::q0::q1::q2::q3::q4::q5::q6::q7::q8::q9::r0::r1::r2::r3::r4::r5::r6::r7::r8::r9::s0::s5::s6::s7::t0::t1::t2::t3::t4::t5::t6::t7::t8::t9::u0::u1::u2::u3::u4::u5::u6::u7::u8::g7::g8::g9::h0::h1::h2::h3::h4::h5::h6::h7::h8::h9::i0::i1::i2::i3::i4::i5::i6::i7::i8::i9::j0::j1::j2::j3::j4::j5::j6::j7::j8::j9::k0::k1::k2::k3::k4::k5::k6::k7::k8::k9::l0::l4::l5::l6::l7::l8::l9::m0::m1::m2::m3::m4::m5::m6::m7::m8::m9::n0::n1::n2::n3::n4::n5::n6::n7::n8::n9::o0::o1::o2::o3::o4::o5::o6::o7::o8::o9::p0::p1::p2::p3::p4::p5::p6::p7::[]), defers := [] } W2 := by
 rw [show regC 14 (Tryz.f16.body.getD .skip) = Code.region 14 _ true from rfl];refine wp_region_self (by kernel_rfl) (by kernel_rfl) ?_
 repeat (go_big_quiet_step (fail))
 refine wpQuiet_nil ?_;rintro _ ⟨e1, rfl⟩;exact hQ _ e1.bel _ _ _ _ _ _ _ _ _ _ _ _ _ _ _ _ _ _ _ _ _ _ _ _ _ _ _ _ _ _ _ _ _ _ _ _ _ _ _ _ _ _ _ _
theorem reg14_b {Q : Exit -> Act -> World -> Prop} {W2 : World} {gb go b o k j : Nat} {GN gc M c KN kc : Nat} {ka : Option Addr} {X Y : ByteArray}
  (hk : k < M) (hj : j < M) (tk : decide ((k : Int) > 0) = true) (tk2 : decide (0 < k) = true) (wj : IntKind.i64.wrap ((k : Int) - 1) = (j : Int))
  (x0 : ∀ (e : Ext W2), e.out.cell? ⟨b, o + k * 3, none⟩ = some (.string X)) (y0 : ∀ (e : Ext W2), e.out.cell? ⟨b, o + j * 3, none⟩ = some (.string Y)) (l1 : Op.bytesLess Y.toList X.toList = false) (l2 : Op.bytesLess X.toList Y.toList = false) (l3 : (Y.toList == X.toList) = true)
  (hQ : ∀ (W' : World), Below W2.heap.size W2 W' -> ∀ (o70 o71 o72 o73 o74 o75 o76 o77 o78 o79 o80 o81 o82 o83 o84 o85 o86 o87 o88 o89 o90 o91 o92 o93 o94 o95 o96 o97 o98 o99 o100 o101 o102 o103 o104 o105 o106 o107 o108 o109 o110 o111 o112 o113 : Value), Q .normal { tmps := List.toArray (.slice (some ⟨gb, go, none⟩) GN gc::a0::a1::a2::a3::.slice (some ⟨b, o, none⟩) M c::.slice ka KN kc::.int .i64 (k : Nat)::a4::a5::a6::a7::a8::a9::b0::b1::b2::b3::b4::b5::b6::b7::b8::b9::c0::c1::c2::c3::c4::c5::c6::c7::c8::c9::d0::d1::d2::d3::d4::d5::d6::d7::d8::d9::e0::e2::e3::e4::e5::e6::e7::e8::e9::f0::f1::f2::f3::f4::f5::f6::f7::f8::f9::g0::g1::g2::g3::g4::g5::g6::o70::o71::o72::o73::o74::o75::o76::o77::o78::o79::o80::o81::o82::o83::o84::o85::o86::o87::o88::o89::o90::o91::o92::o93::o94::o95::o96::o97::o98::o99::o100::o101::o102::o103::o104::o105::o106::o107::o108::o109::o110::o111::o112::o113::.bool (true)::g7::g8::g9::h0::h1::h2::h3::h4::h5::h6::h7::h8::h9::i0::i1::i2::i3::i4::i5::i6::i7::i8::i9::j0::j1::j2::j3::j4::j5::j6::j7::j8::j9::k0::k1::k2::k3::k4::k5::k6::k7::k8::k9::l0::l4::l5::l6::l7::l8::l9::m0::m1::m2::m3::m4::m5::m6::m7::m8::m9::n0::n1::n2::n3::n4::n5::n6::n7::n8::n9::o0::o1::o2::o3::o4::o5::o6::o7::o8::o9::p0::p1::p2::p3::p4::p5::p6::p7::[]), defers := [] } W') :
  (regC 14 (Tryz.f16.body.getD .skip)).wp Tryz.prog Q { tmps := List.toArray (.slice (some ⟨gb, go, none⟩) GN gc::a0::a1::a2::a3::.slice (some ⟨b, o, none⟩) M c::.slice ka KN kc::.int .i64 (k : Nat)::a4::a5::a6::a7::a8::a9::b0::b1::b2::b3::b4::b5::b6::b7::b8::b9::c0::c1::c2::c3::c4::c5::c6::c7::c8::c9::d0::d1::d2::d3::d4::d5::d6::d7::d8::d9::e0::e2::e3::e4::e5::e6::e7::e8::e9::f0::f1::f2::f3::f4::f5::f6::f7::f8::f9::g0::g1::g2::g3::g4::g5::g6::p8::p9::q0::q1::q2::q3::q4::q5::q6::q7::q8::q9::r0::r1::r2::r3::r4::r5::r6::r7::r8::r9::s0::s5::s6::s7::t0::t1::t2::t3::t4::t5::t6::t7::t8::t9::u0::u1::u2::u3::u4::u5::u6::u7::u8::g7::g8::g9::h0::h1::h2::h3::h4::h5::h6::h7::h8::h9::i0::i1::i2::i3::i4::i5::i6::i7::i8::i9::j0::j1::j2::j3::j4::j5::j6::j7::j8::j9::k0::k1::k2::k3::k4::k5::k6::k7::k8::k9::l0::l4::l5::l6::l7::l8::l9::m0::m1::m2::m3::m4::m5::m6::m7::m8::m9::n0::n1::n2::n3::n4::n5::n6::n7::n8::n9::o0::o1::o2::o3::o4::o5::o6::o7::o8::o9::p0::p1::p2::p3::p4::p5::p6::p7::[]), defers := [] } W2 := by
 rw [show regC 14 (Tryz.f16.body.getD .skip) = Code.region 14 _ true from rfl];refine wp_region_self (by kernel_rfl) (by kernel_rfl) ?_
 repeat (go_big_quiet_step (fail))
 refine wpQuiet_nil ?_;rintro _ ⟨e1, rfl⟩;exact hQ _ e1.bel _ _ _ _ _ _ _ _ _ _ _ _ _ _ _ _ _ _ _ _ _ _ _ _ _ _ _ _ _ _ _ _ _ _ _ _ _ _ _ _ _ _ _ _
theorem reg14_c0 {Q : Exit -> Act -> World -> Prop} {W2 : World} {gb go b o k : Nat} {GN gc M c KN kc : Nat} {ka : Option Addr} {ua : Option Addr} {un uc : Nat}
  (hk : k < M) (tk : decide ((k : Int) > 0) = false) (tk2 : decide (0 < k) = false)
  (x1 : ∀ (e : Ext W2), e.out.cell? ⟨b, o + k * 3 + 1, none⟩ = some (.slice ua un uc)) (hasc : ∀ (e : Ext W2), Calls Tryz.prog 45 #[.slice ua un uc] e.out fun r w' => r = .returned (.bool false) /\ Below e.out.heap.size e.out w')
  (hQ : ∀ (W' : World), Below W2.heap.size W2 W' -> ∀ (o70 o71 o72 o73 o74 o75 o76 o77 o78 o79 o80 o81 o82 o83 o84 o85 o86 o87 o88 o89 o90 o91 o92 o93 o94 o95 o96 o97 o98 o99 o100 o101 o102 o103 o104 o105 o106 o107 o108 o109 o110 o111 o112 o113 : Value), Q .normal { tmps := List.toArray (.slice (some ⟨gb, go, none⟩) GN gc::a0::a1::a2::a3::.slice (some ⟨b, o, none⟩) M c::.slice ka KN kc::.int .i64 (k : Nat)::a4::a5::a6::a7::a8::a9::b0::b1::b2::b3::b4::b5::b6::b7::b8::b9::c0::c1::c2::c3::c4::c5::c6::c7::c8::c9::d0::d1::d2::d3::d4::d5::d6::d7::d8::d9::e0::e2::e3::e4::e5::e6::e7::e8::e9::f0::f1::f2::f3::f4::f5::f6::f7::f8::f9::g0::g1::g2::g3::g4::g5::g6::o70::o71::o72::o73::o74::o75::o76::o77::o78::o79::o80::o81::o82::o83::o84::o85::o86::o87::o88::o89::o90::o91::o92::o93::o94::o95::o96::o97::o98::o99::o100::o101::o102::o103::o104::o105::o106::o107::o108::o109::o110::o111::o112::o113::.bool (true)::g7::g8::g9::h0::h1::h2::h3::h4::h5::h6::h7::h8::h9::i0::i1::i2::i3::i4::i5::i6::i7::i8::i9::j0::j1::j2::j3::j4::j5::j6::j7::j8::j9::k0::k1::k2::k3::k4::k5::k6::k7::k8::k9::l0::l4::l5::l6::l7::l8::l9::m0::m1::m2::m3::m4::m5::m6::m7::m8::m9::n0::n1::n2::n3::n4::n5::n6::n7::n8::n9::o0::o1::o2::o3::o4::o5::o6::o7::o8::o9::p0::p1::p2::p3::p4::p5::p6::p7::[]), defers := [] } W') :
  (regC 14 (Tryz.f16.body.getD .skip)).wp Tryz.prog Q { tmps := List.toArray (.slice (some ⟨gb, go, none⟩) GN gc::a0::a1::a2::a3::.slice (some ⟨b, o, none⟩) M c::.slice ka KN kc::.int .i64 (k : Nat)::a4::a5::a6::a7::a8::a9::b0::b1::b2::b3::b4::b5::b6::b7::b8::b9::c0::c1::c2::c3::c4::c5::c6::c7::c8::c9::d0::d1::d2::d3::d4::d5::d6::d7::d8::d9::e0::e2::e3::e4::e5::e6::e7::e8::e9::f0::f1::f2::f3::f4::f5::f6::f7::f8::f9::g0::g1::g2::g3::g4::g5::g6::p8::p9::q0::q1::q2::q3::q4::q5::q6::q7::q8::q9::r0::r1::r2::r3::r4::r5::r6::r7::r8::r9::s0::s5::s6::s7::t0::t1::t2::t3::t4::t5::t6::t7::t8::t9::u0::u1::u2::u3::u4::u5::u6::u7::u8::g7::g8::g9::h0::h1::h2::h3::h4::h5::h6::h7::h8::h9::i0::i1::i2::i3::i4::i5::i6::i7::i8::i9::j0::j1::j2::j3::j4::j5::j6::j7::j8::j9::k0::k1::k2::k3::k4::k5::k6::k7::k8::k9::l0::l4::l5::l6::l7::l8::l9::m0::m1::m2::m3::m4::m5::m6::m7::m8::m9::n0::n1::n2::n3::n4::n5::n6::n7::n8::n9::o0::o1::o2::o3::o4::o5::o6::o7::o8::o9::p0::p1::p2::p3::p4::p5::p6::p7::[]), defers := [] } W2 := by
 rw [show regC 14 (Tryz.f16.body.getD .skip) = Code.region 14 _ true from rfl];refine wp_region_self (by kernel_rfl) (by kernel_rfl) ?_
 repeat (go_big_quiet_step (first | (go_at_call 45; exact ext_of (hasc _)) | (go_at_call 46; exact ext_of (hris _))))
 refine wpQuiet_nil ?_;rintro _ ⟨e1, rfl⟩;exact hQ _ e1.bel _ _ _ _ _ _ _ _ _ _ _ _ _ _ _ _ _ _ _ _ _ _ _ _ _ _ _ _ _ _ _ _ _ _ _ _ _ _ _ _ _ _ _ _
theorem reg14_d0 {Q : Exit -> Act -> World -> Prop} {W2 : World} {gb go b o k : Nat} {GN gc M c KN kc : Nat} {ka : Option Addr} {ua pa : Option Addr} {un uc PN pc : Nat}
  (hk : k < M) (tk : decide ((k : Int) > 0) = false) (tk2 : decide (0 < k) = false)
  (x1 : ∀ (e : Ext W2), e.out.cell? ⟨b, o + k * 3 + 1, none⟩ = some (.slice ua un uc)) (hasc : ∀ (e : Ext W2), Calls Tryz.prog 45 #[.slice ua un uc] e.out fun r w' => r = .returned (.bool true) /\ Below e.out.heap.size e.out w')
  (x2 : ∀ (e : Ext W2), e.out.cell? ⟨b, o + k * 3 + 2, none⟩ = some (.slice pa PN pc)) (tp : ((PN : Int) == 0) = true)
  (hQ : ∀ (W' : World), Below W2.heap.size W2 W' -> ∀ (o70 o71 o72 o73 o74 o75 o76 o77 o78 o79 o80 o81 o82 o83 o84 o85 o86 o87 o88 o89 o90 o91 o92 o93 o94 o95 o96 o97 o98 o99 o100 o101 o102 o103 o104 o105 o106 o107 o108 o109 o110 o111 o112 o113 : Value), Q .normal { tmps := List.toArray (.slice (some ⟨gb, go, none⟩) GN gc::a0::a1::a2::a3::.slice (some ⟨b, o, none⟩) M c::.slice ka KN kc::.int .i64 (k : Nat)::a4::a5::a6::a7::a8::a9::b0::b1::b2::b3::b4::b5::b6::b7::b8::b9::c0::c1::c2::c3::c4::c5::c6::c7::c8::c9::d0::d1::d2::d3::d4::d5::d6::d7::d8::d9::e0::e2::e3::e4::e5::e6::e7::e8::e9::f0::f1::f2::f3::f4::f5::f6::f7::f8::f9::g0::g1::g2::g3::g4::g5::g6::o70::o71::o72::o73::o74::o75::o76::o77::o78::o79::o80::o81::o82::o83::o84::o85::o86::o87::o88::o89::o90::o91::o92::o93::o94::o95::o96::o97::o98::o99::o100::o101::o102::o103::o104::o105::o106::o107::o108::o109::o110::o111::o112::o113::.bool (true)::g7::g8::g9::h0::h1::h2::h3::h4::h5::h6::h7::h8::h9::i0::i1::i2::i3::i4::i5::i6::i7::i8::i9::j0::j1::j2::j3::j4::j5::j6::j7::j8::j9::k0::k1::k2::k3::k4::k5::k6::k7::k8::k9::l0::l4::l5::l6::l7::l8::l9::m0::m1::m2::m3::m4::m5::m6::m7::m8::m9::n0::n1::n2::n3::n4::n5::n6::n7::n8::n9::o0::o1::o2::o3::o4::o5::o6::o7::o8::o9::p0::p1::p2::p3::p4::p5::p6::p7::[]), defers := [] } W') :
  (regC 14 (Tryz.f16.body.getD .skip)).wp Tryz.prog Q { tmps := List.toArray (.slice (some ⟨gb, go, none⟩) GN gc::a0::a1::a2::a3::.slice (some ⟨b, o, none⟩) M c::.slice ka KN kc::.int .i64 (k : Nat)::a4::a5::a6::a7::a8::a9::b0::b1::b2::b3::b4::b5::b6::b7::b8::b9::c0::c1::c2::c3::c4::c5::c6::c7::c8::c9::d0::d1::d2::d3::d4::d5::d6::d7::d8::d9::e0::e2::e3::e4::e5::e6::e7::e8::e9::f0::f1::f2::f3::f4::f5::f6::f7::f8::f9::g0::g1::g2::g3::g4::g5::g6::p8::p9::q0::q1::q2::q3::q4::q5::q6::q7::q8::q9::r0::r1::r2::r3::r4::r5::r6::r7::r8::r9::s0::s5::s6::s7::t0::t1::t2::t3::t4::t5::t6::t7::t8::t9::u0::u1::u2::u3::u4::u5::u6::u7::u8::g7::g8::g9::h0::h1::h2::h3::h4::h5::h6::h7::h8::h9::i0::i1::i2::i3::i4::i5::i6::i7::i8::i9::j0::j1::j2::j3::j4::j5::j6::j7::j8::j9::k0::k1::k2::k3::k4::k5::k6::k7::k8::k9::l0::l4::l5::l6::l7::l8::l9::m0::m1::m2::m3::m4::m5::m6::m7::m8::m9::n0::n1::n2::n3::n4::n5::n6::n7::n8::n9::o0::o1::o2::o3::o4::o5::o6::o7::o8::o9::p0::p1::p2::p3::p4::p5::p6::p7::[]), defers := [] } W2 := by
 rw [show regC 14 (Tryz.f16.body.getD .skip) = Code.region 14 _ true from rfl];refine wp_region_self (by kernel_rfl) (by kernel_rfl) ?_
 repeat (go_big_quiet_step (first | (go_at_call 45; exact ext_of (hasc _)) | (go_at_call 46; exact ext_of (hris _))))
 refine wpQuiet_nil ?_;rintro _ ⟨e1, rfl⟩;exact hQ _ e1.bel _ _ _ _ _ _ _ _ _ _ _ _ _ _ _ _ _ _ _ _ _ _ _ _ _ _ _ _ _ _ _ _ _ _ _ _ _ _ _ _ _ _ _ _
theorem reg14_e0 {Q : Exit -> Act -> World -> Prop} {W2 : World} {gb go b o k : Nat} {GN gc M c KN kc : Nat} {ka : Option Addr} {RB : Bool} {ua pa : Option Addr} {un uc PN pc : Nat}
  (hk : k < M) (tk : decide ((k : Int) > 0) = false) (tk2 : decide (0 < k) = false)
  (x1 : ∀ (e : Ext W2), e.out.cell? ⟨b, o + k * 3 + 1, none⟩ = some (.slice ua un uc)) (hasc : ∀ (e : Ext W2), Calls Tryz.prog 45 #[.slice ua un uc] e.out fun r w' => r = .returned (.bool true) /\ Below e.out.heap.size e.out w')
  (x2 : ∀ (e : Ext W2), e.out.cell? ⟨b, o + k * 3 + 2, none⟩ = some (.slice pa PN pc)) (tp : ((PN : Int) == 0) = false)
  (hris : ∀ (e : Ext W2), Calls Tryz.prog 46 #[.slice pa PN pc, .int .i64 (KN : Nat)] e.out fun r w' => r = .returned (.bool RB) /\ Below e.out.heap.size e.out w')
  (hQ : ∀ (W' : World), Below W2.heap.size W2 W' -> ∀ (o70 o71 o72 o73 o74 o75 o76 o77 o78 o79 o80 o81 o82 o83 o84 o85 o86 o87 o88 o89 o90 o91 o92 o93 o94 o95 o96 o97 o98 o99 o100 o101 o102 o103 o104 o105 o106 o107 o108 o109 o110 o111 o112 o113 : Value), Q .normal { tmps := List.toArray (.slice (some ⟨gb, go, none⟩) GN gc::a0::a1::a2::a3::.slice (some ⟨b, o, none⟩) M c::.slice ka KN kc::.int .i64 (k : Nat)::a4::a5::a6::a7::a8::a9::b0::b1::b2::b3::b4::b5::b6::b7::b8::b9::c0::c1::c2::c3::c4::c5::c6::c7::c8::c9::d0::d1::d2::d3::d4::d5::d6::d7::d8::d9::e0::e2::e3::e4::e5::e6::e7::e8::e9::f0::f1::f2::f3::f4::f5::f6::f7::f8::f9::g0::g1::g2::g3::g4::g5::g6::o70::o71::o72::o73::o74::o75::o76::o77::o78::o79::o80::o81::o82::o83::o84::o85::o86::o87::o88::o89::o90::o91::o92::o93::o94::o95::o96::o97::o98::o99::o100::o101::o102::o103::o104::o105::o106::o107::o108::o109::o110::o111::o112::o113::.bool (!RB)::g7::g8::g9::h0::h1::h2::h3::h4::h5::h6::h7::h8::h9::i0::i1::i2::i3::i4::i5::i6::i7::i8::i9::j0::j1::j2::j3::j4::j5::j6::j7::j8::j9::k0::k1::k2::k3::k4::k5::k6::k7::k8::k9::l0::l4::l5::l6::l7::l8::l9::m0::m1::m2::m3::m4::m5::m6::m7::m8::m9::n0::n1::n2::n3::n4::n5::n6::n7::n8::n9::o0::o1::o2::o3::o4::o5::o6::o7::o8::o9::p0::p1::p2::p3::p4::p5::p6::p7::[]), defers := [] } W') :
  (regC 14 (Tryz.f16.body.getD .skip)).wp Tryz.prog Q { tmps := List.toArray (.slice (some ⟨gb, go, none⟩) GN gc::a0::a1::a2::a3::.slice (some ⟨b, o, none⟩) M c::.slice ka KN kc::.int .i64 (k : Nat)::a4::a5::a6::a7::a8::a9::b0::b1::b2::b3::b4::b5::b6::b7::b8::b9::c0::c1::c2::c3::c4::c5::c6::c7::c8::c9::d0::d1::d2::d3::d4::d5::d6::d7::d8::d9::e0::e2::e3::e4::e5::e6::e7::e8::e9::f0::f1::f2::f3::f4::f5::f6::f7::f8::f9::g0::g1::g2::g3::g4::g5::g6::p8::p9::q0::q1::q2::q3::q4::q5::q6::q7::q8::q9::r0::r1::r2::r3::r4::r5::r6::r7::r8::r9::s0::s5::s6::s7::t0::t1::t2::t3::t4::t5::t6::t7::t8::t9::u0::u1::u2::u3::u4::u5::u6::u7::u8::g7::g8::g9::h0::h1::h2::h3::h4::h5::h6::h7::h8::h9::i0::i1::i2::i3::i4::i5::i6::i7::i8::i9::j0::j1::j2::j3::j4::j5::j6::j7::j8::j9::k0::k1::k2::k3::k4::k5::k6::k7::k8::k9::l0::l4::l5::l6::l7::l8::l9::m0::m1::m2::m3::m4::m5::m6::m7::m8::m9::n0::n1::n2::n3::n4::n5::n6::n7::n8::n9::o0::o1::o2::o3::o4::o5::o6::o7::o8::o9::p0::p1::p2::p3::p4::p5::p6::p7::[]), defers := [] } W2 := by
 rw [show regC 14 (Tryz.f16.body.getD .skip) = Code.region 14 _ true from rfl];refine wp_region_self (by kernel_rfl) (by kernel_rfl) ?_
 repeat (go_big_quiet_step (first | (go_at_call 45; exact ext_of (hasc _)) | (go_at_call 46; exact ext_of (hris _))))
 refine wpQuiet_nil ?_;rintro _ ⟨e1, rfl⟩;exact hQ _ e1.bel _ _ _ _ _ _ _ _ _ _ _ _ _ _ _ _ _ _ _ _ _ _ _ _ _ _ _ _ _ _ _ _ _ _ _ _ _ _ _ _ _ _ _ _
theorem reg14_c1 {Q : Exit -> Act -> World -> Prop} {W2 : World} {gb go b o k j : Nat} {GN gc M c KN kc : Nat} {ka : Option Addr} {X Y : ByteArray} {ua : Option Addr} {un uc : Nat}
  (hk : k < M) (hj : j < M) (tk : decide ((k : Int) > 0) = true) (tk2 : decide (0 < k) = true) (wj : IntKind.i64.wrap ((k : Int) - 1) = (j : Int))
  (x0 : ∀ (e : Ext W2), e.out.cell? ⟨b, o + k * 3, none⟩ = some (.string X)) (y0 : ∀ (e : Ext W2), e.out.cell? ⟨b, o + j * 3, none⟩ = some (.string Y)) (l1 : Op.bytesLess Y.toList X.toList = true) (l2 : Op.bytesLess X.toList Y.toList = false) (l3 : (Y.toList == X.toList) = false)
  (x1 : ∀ (e : Ext W2), e.out.cell? ⟨b, o + k * 3 + 1, none⟩ = some (.slice ua un uc)) (hasc : ∀ (e : Ext W2), Calls Tryz.prog 45 #[.slice ua un uc] e.out fun r w' => r = .returned (.bool false) /\ Below e.out.heap.size e.out w')
  (hQ : ∀ (W' : World), Below W2.heap.size W2 W' -> ∀ (o70 o71 o72 o73 o74 o75 o76 o77 o78 o79 o80 o81 o82 o83 o84 o85 o86 o87 o88 o89 o90 o91 o92 o93 o94 o95 o96 o97 o98 o99 o100 o101 o102 o103 o104 o105 o106 o107 o108 o109 o110 o111 o112 o113 : Value), Q .normal { tmps := List.toArray (.slice (some ⟨gb, go, none⟩) GN gc::a0::a1::a2::a3::.slice (some ⟨b, o, none⟩) M c::.slice ka KN kc::.int .i64 (k : Nat)::a4::a5::a6::a7::a8::a9::b0::b1::b2::b3::b4::b5::b6::b7::b8::b9::c0::c1::c2::c3::c4::c5::c6::c7::c8::c9::d0::d1::d2::d3::d4::d5::d6::d7::d8::d9::e0::e2::e3::e4::e5::e6::e7::e8::e9::f0::f1::f2::f3::f4::f5::f6::f7::f8::f9::g0::g1::g2::g3::g4::g5::g6::o70::o71::o72::o73::o74::o75::o76::o77::o78::o79::o80::o81::o82::o83::o84::o85::o86::o87::o88::o89::o90::o91::o92::o93::o94::o95::o96::o97::o98::o99::o100::o101::o102::o103::o104::o105::o106::o107::o108::o109::o110::o111::o112::o113::.bool (true)::g7::g8::g9::h0::h1::h2::h3::h4::h5::h6::h7::h8::h9::i0::i1::i2::i3::i4::i5::i6::i7::i8::i9::j0::j1::j2::j3::j4::j5::j6::j7::j8::j9::k0::k1::k2::k3::k4::k5::k6::k7::k8::k9::l0::l4::l5::l6::l7::l8::l9::m0::m1::m2::m3::m4::m5::m6::m7::m8::m9::n0::n1::n2::n3::n4::n5::n6::n7::n8::n9::o0::o1::o2::o3::o4::o5::o6::o7::o8::o9::p0::p1::p2::p3::p4::p5::p6::p7::[]), defers := [] } W') :
  (regC 14 (Tryz.f16.body.getD .skip)).wp Tryz.prog Q { tmps := List.toArray (.slice (some ⟨gb, go, none⟩) GN gc::a0::a1::a2::a3::.slice (some ⟨b, o, none⟩) M c::.slice ka KN kc::.int .i64 (k : Nat)::a4::a5::a6::a7::a8::a9::b0::b1::b2::b3::b4::b5::b6::b7::b8::b9::c0::c1::c2::c3::c4::c5::c6::c7::c8::c9::d0::d1::d2::d3::d4::d5::d6::d7::d8::d9::e0::e2::e3::e4::e5::e6::e7::e8::e9::f0::f1::f2::f3::f4::f5::f6::f7::f8::f9::g0::g1::g2::g3::g4::g5::g6::p8::p9::q0::q1::q2::q3::q4::q5::q6::q7::q8::q9::r0::r1::r2::r3::r4::r5::r6::r7::r8::r9::s0::s5::s6::s7::t0::t1::t2::t3::t4::t5::t6::t7::t8::t9::u0::u1::u2::u3::u4::u5::u6::u7::u8::g7::g8::g9::h0::h1::h2::h3::h4::h5::h6::h7::h8::h9::i0::i1::i2::i3::i4::i5::i6::i7::i8::i9::j0::j1::j2::j3::j4::j5::j6::j7::j8::j9::k0::k1::k2::k3::k4::k5::k6::k7::k8::k9::l0::l4::l5::l6::l7::l8::l9::m0::m1::m2::m3::m4::m5::m6::m7::m8::m9::n0::n1::n2::n3::n4::n5::n6::n7::n8::n9::o0::o1::o2::o3::o4::o5::o6::o7::o8::o9::p0::p1::p2::p3::p4::p5::p6::p7::[]), defers := [] } W2 := by
 rw [show regC 14 (Tryz.f16.body.getD .skip) = Code.region 14 _ true from rfl];refine wp_region_self (by kernel_rfl) (by kernel_rfl) ?_
 repeat (go_big_quiet_step (first | (go_at_call 45; exact ext_of (hasc _)) | (go_at_call 46; exact ext_of (hris _))))
 refine wpQuiet_nil ?_;rintro _ ⟨e1, rfl⟩;exact hQ _ e1.bel _ _ _ _ _ _ _ _ _ _ _ _ _ _ _ _ _ _ _ _ _ _ _ _ _ _ _ _ _ _ _ _ _ _ _ _ _ _ _ _ _ _ _ _
theorem reg14_d1 {Q : Exit -> Act -> World -> Prop} {W2 : World} {gb go b o k j : Nat} {GN gc M c KN kc : Nat} {ka : Option Addr} {X Y : ByteArray} {ua pa : Option Addr} {un uc PN pc : Nat}
  (hk : k < M) (hj : j < M) (tk : decide ((k : Int) > 0) = true) (tk2 : decide (0 < k) = true) (wj : IntKind.i64.wrap ((k : Int) - 1) = (j : Int))
  (x0 : ∀ (e : Ext W2), e.out.cell? ⟨b, o + k * 3, none⟩ = some (.string X)) (y0 : ∀ (e : Ext W2), e.out.cell? ⟨b, o + j * 3, none⟩ = some (.string Y)) (l1 : Op.bytesLess Y.toList X.toList = true) (l2 : Op.bytesLess X.toList Y.toList = false) (l3 : (Y.toList == X.toList) = false)
  (x1 : ∀ (e : Ext W2), e.out.cell? ⟨b, o + k * 3 + 1, none⟩ = some (.slice ua un uc)) (hasc : ∀ (e : Ext W2), Calls Tryz.prog 45 #[.slice ua un uc] e.out fun r w' => r = .returned (.bool true) /\ Below e.out.heap.size e.out w')
  (x2 : ∀ (e : Ext W2), e.out.cell? ⟨b, o + k * 3 + 2, none⟩ = some (.slice pa PN pc)) (tp : ((PN : Int) == 0) = true)
  (hQ : ∀ (W' : World), Below W2.heap.size W2 W' -> ∀ (o70 o71 o72 o73 o74 o75 o76 o77 o78 o79 o80 o81 o82 o83 o84 o85 o86 o87 o88 o89 o90 o91 o92 o93 o94 o95 o96 o97 o98 o99 o100 o101 o102 o103 o104 o105 o106 o107 o108 o109 o110 o111 o112 o113 : Value), Q .normal { tmps := List.toArray (.slice (some ⟨gb, go, none⟩) GN gc::a0::a1::a2::a3::.slice (some ⟨b, o, none⟩) M c::.slice ka KN kc::.int .i64 (k : Nat)::a4::a5::a6::a7::a8::a9::b0::b1::b2::b3::b4::b5::b6::b7::b8::b9::c0::c1::c2::c3::c4::c5::c6::c7::c8::c9::d0::d1::d2::d3::d4::d5::d6::d7::d8::d9::e0::e2::e3::e4::e5::e6::e7::e8::e9::f0::f1::f2::f3::f4::f5::f6::f7::f8::f9::g0::g1::g2::g3::g4::g5::g6::o70::o71::o72::o73::o74::o75::o76::o77::o78::o79::o80::o81::o82::o83::o84::o85::o86::o87::o88::o89::o90::o91::o92::o93::o94::o95::o96::o97::o98::o99::o100::o101::o102::o103::o104::o105::o106::o107::o108::o109::o110::o111::o112::o113::.bool (true)::g7::g8::g9::h0::h1::h2::h3::h4::h5::h6::h7::h8::h9::i0::i1::i2::i3::i4::i5::i6::i7::i8::i9::j0::j1::j2::j3::j4::j5::j6::j7::j8::j9::k0::k1::k2::k3::k4::k5::k6::k7::k8::k9::l0::l4::l5::l6::l7::l8::l9::m0::m1::m2::m3::m4::m5::m6::m7::m8::m9::n0::n1::n2::n3::n4::n5::n6::n7::n8::n9::o0::o1::o2::o3::o4::o5::o6::o7::o8::o9::p0::p1::p2::p3::p4::p5::p6::p7::[]), defers := [] } W') :
  (regC 14 (Tryz.f16.body.getD .skip)).wp Tryz.prog Q { tmps := List.toArray (.slice (some ⟨gb, go, none⟩) GN gc::a0::a1::a2::a3::.slice (some ⟨b, o, none⟩) M c::.slice ka KN kc::.int .i64 (k : Nat)::a4::a5::a6::a7::a8::a9::b0::b1::b2::b3::b4::b5::b6::b7::b8::b9::c0::c1::c2::c3::c4::c5::c6::c7::c8::c9::d0::d1::d2::d3::d4::d5::d6::d7::d8::d9::e0::e2::e3::e4::e5::e6::e7::e8::e9::f0::f1::f2::f3::f4::f5::f6::f7::f8::f9::g0::g1::g2::g3::g4::g5::g6::p8::p9::q0::q1::q2::q3::q4::q5::q6::q7::q8::q9::r0::r1::r2::r3::r4::r5::r6::r7::r8::r9::s0::s5::s6::s7::t0::t1::t2::t3::t4::t5::t6::t7::t8::t9::u0::u1::u2::u3::u4::u5::u6::u7::u8::g7::g8::g9::h0::h1::h2::h3::h4::h5::h6::h7::h8::h9::i0::i1::i2::i3::i4::i5::i6::i7::i8::i9::j0::j1::j2::j3::j4::j5::j6::j7::j8::j9::k0::k1::k2::k3::k4::k5::k6::k7::k8::k9::l0::l4::l5::l6::l7::l8::l9::m0::m1::m2::m3::m4::m5::m6::m7::m8::m9::n0::n1::n2::n3::n4::n5::n6::n7::n8::n9::o0::o1::o2::o3::o4::o5::o6::o7::o8::o9::p0::p1::p2::p3::p4::p5::p6::p7::[]), defers := [] } W2 := by
 rw [show regC 14 (Tryz.f16.body.getD .skip) = Code.region 14 _ true from rfl];refine wp_region_self (by kernel_rfl) (by kernel_rfl) ?_
 repeat (go_big_quiet_step (first | (go_at_call 45; exact ext_of (hasc _)) | (go_at_call 46; exact ext_of (hris _))))
 refine wpQuiet_nil ?_;rintro _ ⟨e1, rfl⟩;exact hQ _ e1.bel _ _ _ _ _ _ _ _ _ _ _ _ _ _ _ _ _ _ _ _ _ _ _ _ _ _ _ _ _ _ _ _ _ _ _ _ _ _ _ _ _ _ _ _
theorem reg14_e1 {Q : Exit -> Act -> World -> Prop} {W2 : World} {gb go b o k j : Nat} {GN gc M c KN kc : Nat} {ka : Option Addr} {X Y : ByteArray} {RB : Bool} {ua pa : Option Addr} {un uc PN pc : Nat}
  (hk : k < M) (hj : j < M) (tk : decide ((k : Int) > 0) = true) (tk2 : decide (0 < k) = true) (wj : IntKind.i64.wrap ((k : Int) - 1) = (j : Int))
  (x0 : ∀ (e : Ext W2), e.out.cell? ⟨b, o + k * 3, none⟩ = some (.string X)) (y0 : ∀ (e : Ext W2), e.out.cell? ⟨b, o + j * 3, none⟩ = some (.string Y)) (l1 : Op.bytesLess Y.toList X.toList = true) (l2 : Op.bytesLess X.toList Y.toList = false) (l3 : (Y.toList == X.toList) = false)
  (x1 : ∀ (e : Ext W2), e.out.cell? ⟨b, o + k * 3 + 1, none⟩ = some (.slice ua un uc)) (hasc : ∀ (e : Ext W2), Calls Tryz.prog 45 #[.slice ua un uc] e.out fun r w' => r = .returned (.bool true) /\ Below e.out.heap.size e.out w')
  (x2 : ∀ (e : Ext W2), e.out.cell? ⟨b, o + k * 3 + 2, none⟩ = some (.slice pa PN pc)) (tp : ((PN : Int) == 0) = false)
  (hris : ∀ (e : Ext W2), Calls Tryz.prog 46 #[.slice pa PN pc, .int .i64 (KN : Nat)] e.out fun r w' => r = .returned (.bool RB) /\ Below e.out.heap.size e.out w')
  (hQ : ∀ (W' : World), Below W2.heap.size W2 W' -> ∀ (o70 o71 o72 o73 o74 o75 o76 o77 o78 o79 o80 o81 o82 o83 o84 o85 o86 o87 o88 o89 o90 o91 o92 o93 o94 o95 o96 o97 o98 o99 o100 o101 o102 o103 o104 o105 o106 o107 o108 o109 o110 o111 o112 o113 : Value), Q .normal { tmps := List.toArray (.slice (some ⟨gb, go, none⟩) GN gc::a0::a1::a2::a3::.slice (some ⟨b, o, none⟩) M c::.slice ka KN kc::.int .i64 (k : Nat)::a4::a5::a6::a7::a8::a9::b0::b1::b2::b3::b4::b5::b6::b7::b8::b9::c0::c1::c2::c3::c4::c5::c6::c7::c8::c9::d0::d1::d2::d3::d4::d5::d6::d7::d8::d9::e0::e2::e3::e4::e5::e6::e7::e8::e9::f0::f1::f2::f3::f4::f5::f6::f7::f8::f9::g0::g1::g2::g3::g4::g5::g6::o70::o71::o72::o73::o74::o75::o76::o77::o78::o79::o80::o81::o82::o83::o84::o85::o86::o87::o88::o89::o90::o91::o92::o93::o94::o95::o96::o97::o98::o99::o100::o101::o102::o103::o104::o105::o106::o107::o108::o109::o110::o111::o112::o113::.bool (!RB)::g7::g8::g9::h0::h1::h2::h3::h4::h5::h6::h7::h8::h9::i0::i1::i2::i3::i4::i5::i6::i7::i8::i9::j0::j1::j2::j3::j4::j5::j6::j7::j8::j9::k0::k1::k2::k3::k4::k5::k6::k7::k8::k9::l0::l4::l5::l6::l7::l8::l9::m0::m1::m2::m3::m4::m5::m6::m7::m8::m9::n0::n1::n2::n3::n4::n5::n6::n7::n8::n9::o0::o1::o2::o3::o4::o5::o6::o7::o8::o9::p0::p1::p2::p3::p4::p5::p6::p7::[]), defers := [] } W') :
  (regC 14 (Tryz.f16.body.getD .skip)).wp Tryz.prog Q { tmps := List.toArray (.slice (some ⟨gb, go, none⟩) GN gc::a0::a1::a2::a3::.slice (some ⟨b, o, none⟩) M c::.slice ka KN kc::.int .i64 (k : Nat)::a4::a5::a6::a7::a8::a9::b0::b1::b2::b3::b4::b5::b6::b7::b8::b9::c0::c1::c2::c3::c4::c5::c6::c7::c8::c9::d0::d1::d2::d3::d4::d5::d6::d7::d8::d9::e0::e2::e3::e4::e5::e6::e7::e8::e9::f0::f1::f2::f3::f4::f5::f6::f7::f8::f9::g0::g1::g2::g3::g4::g5::g6::p8::p9::q0::q1::q2::q3::q4::q5::q6::q7::q8::q9::r0::r1::r2::r3::r4::r5::r6::r7::r8::r9::s0::s5::s6::s7::t0::t1::t2::t3::t4::t5::t6::t7::t8::t9::u0::u1::u2::u3::u4::u5::u6::u7::u8::g7::g8::g9::h0::h1::h2::h3::h4::h5::h6::h7::h8::h9::i0::i1::i2::i3::i4::i5::i6::i7::i8::i9::j0::j1::j2::j3::j4::j5::j6::j7::j8::j9::k0::k1::k2::k3::k4::k5::k6::k7::k8::k9::l0::l4::l5::l6::l7::l8::l9::m0::m1::m2::m3::m4::m5::m6::m7::m8::m9::n0::n1::n2::n3::n4::n5::n6::n7::n8::n9::o0::o1::o2::o3::o4::o5::o6::o7::o8::o9::p0::p1::p2::p3::p4::p5::p6::p7::[]), defers := [] } W2 := by
 rw [show regC 14 (Tryz.f16.body.getD .skip) = Code.region 14 _ true from rfl];refine wp_region_self (by kernel_rfl) (by kernel_rfl) ?_
 repeat (go_big_quiet_step (first | (go_at_call 45; exact ext_of (hasc _)) | (go_at_call 46; exact ext_of (hris _))))
 refine wpQuiet_nil ?_;rintro _ ⟨e1, rfl⟩;exact hQ _ e1.bel _ _ _ _ _ _ _ _ _ _ _ _ _ _ _ _ _ _ _ _ _ _ _ _ _ _ _ _ _ _ _ _ _ _ _ _ _ _ _ _ _ _ _ _
end Go.Proofs.YtmagjdocondmhaaGreat.Tr.Gr
