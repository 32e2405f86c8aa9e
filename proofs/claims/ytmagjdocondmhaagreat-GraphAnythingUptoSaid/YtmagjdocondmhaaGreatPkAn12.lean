/- packed -/
import Derived.Test.YtmagjdocondmhaaGreatPkAn11
set_option linter.unusedVariables false
set_option linter.unusedSimpArgs false
set_option maxRecDepth 100000
set_option maxHeartbeats 64000000
namespace Go.Proofs.YtmagjdocondmhaaGreat.Tr.Gr
open Go Go.RowKit Slc St Mp Tr Rg
attribute [local go_sem] Oper.semAt_some
theorem wan_len {ps : List B} {g : List (List Vx)} {g2 : List Lv} {n : Nat} (h : gxs g2 = wanG ps g n) : g2.length = g.length := by
 have := congrArg List.length h;rw [gxs_len, wanG_len] at this; exact this
theorem hasL_succ (ps : List B) (star : Int) (l : List Vx) (i : Nat) (hi : i < l.length) : hasL ps star (l.take (i + 1)) = hasL ps star (l.take i) ++ if hitV star l[i] && decide ((l[i]).pol ∈ ps) then [(l[i]).pol] else [] := by
 unfold hasL;rw [zA hi, List.filter_append, List.map_append];congr 1
 cases h : hitV star l[i] && decide ((l[i]).pol ∈ ps) <;> simp [List.filter_cons, h]
theorem WS.map {W w' : World} {Bk U Z : Nat} {v : Value} {g : List Lv} (h : WS W Bk U Z v g) {b n : Nat} {f : B -> Option Bool} (hU : U <= b) (ho : OwnF W kS rdB edB b n f) (hg : W.grownBy w' (some b)) : WS w' Bk U Z v g := by
 obtain ⟨es, c, hm⟩ := ownF_obj ho;refine h.keep hg.size fun k hkz hk hn => hg.block k hk ?_
 simp only [ne_eq, zO]
 rintro rfl;exact h.nomap hU hm hn
def WanI (ps : List B) (star : Int) (us vs : List Vt) (i : Nat) : Prop := vs.length = us.length /\ ∀ r, r < us.length -> (r < i -> (vs[r]!).n = wanV ps star (us[r]!).n) /\ (i <= r -> vs[r]! = us[r]!)
theorem WanI.zero (ps : List B) (star : Int) (us : List Vt) : WanI ps star us us 0 := ⟨rfl, fun r hr => ⟨fun h => by omega, fun _ => rfl⟩⟩
theorem WanI.at_ {ps : List B} {star : Int} {us vs : List Vt} {i : Nat} (h : WanI ps star us vs i) (hi : i < us.length) (hi' : i < vs.length) : vs[i] = us[i] := by
 have := (h.2 i hi).2 (zR _);rwa [getElem!_pos vs i hi', getElem!_pos us i hi] at this
theorem WanI.stay {ps : List B} {star : Int} {us vs : List Vt} {i : Nat} (h : WanI ps star us vs i) (hi : i < us.length) (he : wanV ps star (us[i]).n = (us[i]).n) : WanI ps star us vs (i + 1) := by
 refine ⟨h.1, fun r hr => ⟨fun h1 => ?_, fun h1 => (h.2 r hr).2 (by omega)⟩⟩;by_cases e : r = i
 ·subst e;rw [(h.2 r hr).2 (zR _), getElem!_pos us r hi, he]
 ·exact (h.2 r hr).1 (by omega)
theorem WanI.set {ps : List B} {star : Int} {us vs : List Vt} {i : Nat} (h : WanI ps star us vs i) (hi : i < us.length) {y : Vt} (he : y.n = wanV ps star (us[i]).n) : WanI ps star us (vs.set i y) (i + 1) := by
 have hl := h.1;refine ⟨by rw [zL]; exact hl, fun r hr => ?_⟩;rw [getElem!_pos (vs.set i y) r (by simp; omega), List.getElem_set];have h0 := h.2 r hr;rw [getElem!_pos vs r (by omega)] at h0;by_cases e : i = r
 ·subst e;rw [if_pos rfl];exact ⟨fun _ => by rw [he, getElem!_pos us i hi], fun h1 => by omega⟩
 ·rw [if_neg e];exact ⟨fun h1 => h0.1 (by omega), fun h1 => h0.2 (by omega)⟩
theorem WanI.all {ps : List B} {star : Int} {us vs : List Vt} (h : WanI ps star us vs us.length) : vxs vs = wanL ps star (vxs us) := by
 apply List.ext_getElem
 ·simp [vxs, wanL, h.1]
 ·intro r h1 h2;have hr : r < us.length := by simpa [vxs, wanL] using h2
  have := (h.2 r hr).1 hr;rw [getElem!_pos vs r (by rw [h.1]; exact hr), getElem!_pos us r hr] at this;simp only [vxs, wanL, List.getElem_map]
  exact this
theorem WS.lt {W : World} {Bk U Z : Nat} {v : Value} {g : List Lv} (h : WS W Bk U Z v g) {k : Nat} (hk : GB v g k \/ ∃ L ∈ g, ∃ x ∈ L.vs, x.u.val.ownBlock = some k \/ x.q.val.ownBlock = some k) : k < Z := by
 rcases hk with q | ⟨L, hL, x, hx, q | q⟩
 ·exact h.gz k q
 ·exact Nat.lt_of_lt_of_le (h.pd.ul L hL x hx k q) h.uz
 ·exact h.qz L hL x hx k q
theorem WS.setQ {w0 w : World} {Bk U Z : Nat} {v : Value} {g : List Lv} (h : WS w0 Bk U Z v g) (i : Nat) (hi : i < g.length) (j : Nat) (hj : j < (g[i]).vs.length) (hsz : w0.heap.size <= w.heap.size)
  (hk : ∀ k, k < w0.heap.size -> k < Z -> ((g[i]).vs[j]).q.val.ownBlock ≠ some k -> w.heap[k]? = w0.heap[k]?)
  (q' : Sl) (p' : List Int) (hq : Slc.Own w Bk 3 1 encI q'.val p') (hb : q'.val.ownBlock = ((g[i]).vs[j]).q.val.ownBlock) (hok : Vx.Ok ⟨((g[i]).vs[j]).n.pol, ((g[i]).vs[j]).n.ex, p'⟩) :
  ∃ nb cap, (g[i]).s.val = .slice (some ⟨nb, 0, none⟩) (g[i]).vs.length cap /\ (∀ r, w.frozen? ⟨nb, r, none⟩ = false) /\ w.cell? ⟨nb, j * 3 + 2, none⟩ = some ((g[i]).vs[j]).q.val /\
   WS (w.setCell ⟨nb, j * 3 + 2, none⟩ q'.val) Bk U Z v (g.set i ⟨(g[i]).vs.set j ⟨⟨((g[i]).vs[j]).n.pol, ((g[i]).vs[j]).n.ex, p'⟩, ((g[i]).vs[j]).u, q'⟩, (g[i]).s⟩) /\ w.grownBy (w.setCell ⟨nb, j * 3 + 2, none⟩ q'.val) (some nb) /\ GB v g nb := by
 obtain ⟨nb, cap, h1, h2, h3, h4, h5, h6, h7⟩ := h.go.setQ h.pd i hi j hj hsz (fun k hkl hn hne => hk k hkl (h.lt hn) hne) q' p' hq hb hok;refine ⟨nb, cap, h1, h2, h3, ⟨h4, h5, h.uz, fun k hkk => h.gz k ((GB.same hi _).1 hkk), fun L hL x hx k hkk => ?_⟩, h6, h7⟩;obtain ⟨a, ha, rfl⟩ := List.getElem_of_mem hL;rw [zL] at ha;rw [List.getElem_set] at hx;by_cases e : i = a
 ·rw [if_pos e] at hx;rcases List.mem_or_eq_of_mem_set hx with q | rfl
  ·exact h.qz _ (zM hi) x q k hkk
  ·exact h.qz _ (zM hi) _ (zM hj) k (by rw [<- hb]; exact hkk)
 ·rw [if_neg e] at hx;exact h.qz _ (zM ha) x hx k hkk
theorem wanV_ok {x : Vx} {st : Int} (h : Vx.Ok x) : Vx.Ok ⟨x.pol, x.ex, x.par.filter fun y => !decide (y = st)⟩ :=
 ⟨h.1, h.2.1, Nat.le_trans (List.length_filter_le _ _) h.2.2.1, fun p hp => h.2.2.2 p (List.mem_filter.1 hp).1⟩
theorem wanted_any (w : World) (Bk : Nat) (v pv : Value) (g : List Lv) (ps : List B) (h : GO w Bk v g) (hd : PDG w Bk w.heap.size g) (hP : PG (gxs g)) (hp : RdIn w (fun k => k < Bk) encS pv ps) (hn : g.length <= 90000) (hpl : ps.length <= 100000) (hB : Bk <= w.heap.size) (hgl : 0 < g.length) :
  Calls Tryz.prog 69 #[v, pv] w fun e w' => ∃ hb g', e = .returned (.map (some hb)) /\ w.heap.size <= hb /\ GO w' Bk v g' /\ PDG w' Bk w.heap.size g' /\ gxs g' = wanG ps (gxs g) (g.length - 1) /\ (∃ q, q <= 100000 * 100000 /\ OwnF w' kS rdB edB hb q (exF (hasG ps (gxs g) (g.length - 1)))) /\ Below Bk w w' := by
 obtain ⟨ib, hib, hib0, hib1, hib2⟩ := info_parts info_boo;obtain ⟨ad, c, rfl, -⟩ := h.own.rd.form;obtain ⟨pa, pc, rfl, -⟩ := hp.1.form;have HBK := Bx.mk hB;have HP := Bx.mk hP;have HPS := Bx.mk hp;obtain ⟨N, hN⟩ : ∃ N, N = g.length := ⟨_, rfl⟩
 have HN := Bx.mk hN;obtain ⟨PN, hPN⟩ : ∃ N, N = ps.length := ⟨_, rfl⟩
 have HPN := Bx.mk hPN;obtain ⟨gb, rfl, -, -⟩ := h.cellL 0 hgl;obtain ⟨U, hU⟩ : ∃ U, U = w.heap.size := ⟨_, rfl⟩
 have HU := Bx.mk hU;have hmm := @run_makeMap Tryz.prog;obtain ⟨W1, hW1⟩ : ∃ W1, W1 = w.alloc (.map #[] 0) := ⟨_, rfl⟩
 obtain ⟨hb, hhb⟩ : ∃ b, b = w.heap.size := ⟨_, rfl⟩
 have HHB := Bx.mk hhb;have hb1 : Below w.heap.size w W1 := by rw [hW1]; exact (Below.refl _ _).alloc (zR _) _
 have HM1 := Bx.mk (show ∃ q, q <= 1 * 100000 /\ OwnF W1 kS rdB edB hb q (exF (hasG ps (gxs g) (1 - 1))) from ⟨0, by omega, by
  rw [show (1 - 1 : Nat) = 0 from rfl];unfold hasG
  rw [exF_nil, hW1, hhb]; exact OwnF.made w kS rdB edB⟩)
 have HG1 := Bx.mk (h.below hb1);have HD1 := Bx.mk (show PDG W1 Bk U g by rw [hU]; exact hd.below hb1);have HB1 := Bx.mk (hb1.mono hB);have HZ1 := Bx.mk (show U <= W1.heap.size by rw [hU]; exact hb1.size);have HX1 := Bx.mk (show gxs g = wanG ps (gxs g) (1 - 1) from rfl);rw [<- hN] at hn hgl HG1 |-;rw [<- hPN] at hpl |-;rw [<- hPN] at HPS;rw [<- hU];clear h hd hP hp hN hPN hb1 hB hU;go_enter Tryz.func69, Tryz.ntmps69;go_upto_region 2 with fail
 rw [<- hW1, <- hhb];clear hmm hW1 hhb;go_wp2_with fail
 go_loopw [6] (fun i wr => ∃ (n : Nat) (g2 : List Lv), 1 <= n /\ n <= N /\ i = .int .i64 (n : Nat) /\ Bx (GO wr Bk (.slice (some ⟨gb, 0, none⟩) N c) g2) /\ Bx (PDG wr Bk U g2) /\ Bx (gxs g2 = wanG ps (gxs g) (n - 1)) /\ Bx (∃ q, q <= n * 100000 /\ OwnF wr kS rdB edB hb q (exF (hasG ps (gxs g) (n - 1)))) /\ Bx (Below Bk w wr) /\ Bx (U <= wr.heap.size)) (fun i _ => N - (intOf i).toNat)
 case atStart => exact ⟨1, g, by omega, by omega, rfl, HG1, HD1, HX1, HM1, HB1, HZ1⟩
 case round =>
  clear HG1 HD1 HX1 HM1 HB1 HZ1;obtain ⟨n, g2, hn1, hnN, rfl, hG, hD, hX, hM, hB, hZ⟩ := hrel;obtain ⟨wo, rfl⟩ : ∃ wo : World, wo = wr := ⟨_, rfl⟩
  by_cases hlt : n < N
  ·obtain ⟨k, rfl⟩ : ∃ k, n = k + 1 := ⟨n - 1, by omega⟩
   rw [Nat.add_sub_cancel] at hX hM;have HK2 := Bx.mk (show k + 1 < g2.length by rw [wan_len hX.out, gxs_len, <- HN.out]; exact hlt);have HK1 := Bx.mk (show k < g2.length by have := HK2.out; omega);have hpg2 : PG (gxs g2) := by rw [hX.out]; exact wanG_pg HP.out ps k (.inl (by rw [gxs_len, <- HN.out]; omega))
   have HPG2 := Bx.mk hpg2;have hgo := hG.out;obtain ⟨gb2, he2, l0, -⟩ := hgo.cellL (k + 1) HK2.out;simp only [zO, Addr.mk.injEq, and_true] at he2
   subst he2;obtain ⟨gb3, he3, a0, -⟩ := hgo.cellL k HK1.out;simp only [zO, Addr.mk.injEq, and_true] at he3
   subst he3;have hvl := hgo.gl.lv _ (zM HK2.out);have hva := hgo.gl.lv _ (zM HK1.out);have hll := pg_len hpg2 _ (zM HK2.out);have hla := pg_len hpg2 _ (zM HK1.out);obtain ⟨X, hXe⟩ : ∃ L, L = g2[k + 1]'HK2.out := ⟨_, rfl⟩
   rw [<- hXe] at l0 hvl hll;have HX := Bx.mk hXe
   have HAX := Bx.mk (show (wanG ps (gxs g) k)[k]! = vxs (g2[k]'HK1.out).vs /\ (wanG ps (gxs g) k)[k + 1]! = vxs X.vs by
    rw [<- hX.out, gxs_at g2 k HK1.out, gxs_at g2 (k + 1) HK2.out, hXe]; exact ⟨rfl, rfl⟩)
   obtain ⟨A, hA⟩ : ∃ L, L = g2[k]'HK1.out := ⟨_, rfl⟩
   rw [<- hA] at a0 hva hla HAX;obtain ⟨xa, xc, hxs, -⟩ := hvl.rd.form;have HXS := Bx.mk hxs;rw [hxs] at l0 hvl;obtain ⟨aa, ac, has, -⟩ := hva.rd.form;rw [has] at a0 hva;obtain ⟨NX, hNX⟩ : ∃ M, M = X.vs.length := ⟨_, rfl⟩
   have HNX := Bx.mk hNX;rw [<- hNX] at l0 hll;have hfd := find_any wo _ A.vs hva (by omega) anyP;rw [anyP_str] at hfd;obtain ⟨ST, hST⟩ : ∃ S, S = fndP (vxs A.vs) anyP := ⟨_, rfl⟩
   have HST := Bx.mk hST;rw [<- hST] at hfd;have HL0 := Bx.mk l0;have w1 : IntKind.i64.wrap (((k + 1 : Nat) : Int) - 1) = ((k : Nat) : Int) := by rw [IntWalk.i64_in _ (by omega)]; omega
   have w2 : (((k + 1 : Nat) : Int) - 1) = ((k : Nat) : Int) := by omega
   have w3 : (((k : Nat) : Int) + 1 - 1) = ((k : Nat) : Int) := by omega
   clear hgo hvl hva hXe hA hxs has hNX hST hpg2;go_wp2_with fail
   go_at_call 50;refine hfd.mono ?_;rintro e wf ⟨rfl, hbf⟩;clear hfd;obtain ⟨W5, hW5⟩ : ∃ W, W = wf.alloc (.cells #[.int .i64 ST] 3) := ⟨_, rfl⟩
   obtain ⟨q7, hq7⟩ : ∃ q, q = wf.heap.size := ⟨_, rfl⟩
   have hb5 : Below wf.heap.size wf W5 := by rw [hW5]; exact (Below.refl _ _).alloc (zR _) _
   have hr7 : W5.heap[q7]? = some (.cells #[.int .i64 ST] 3 (0, 0)) := by rw [hW5, hq7]; exact heap_alloc_new _ _
   have l5 : W5.cell? ⟨gb, k + 1, none⟩ = some (.slice xa NX xc) := ((hbf.trans (hb5.mono hbf.size)).cell (p := ⟨gb, k + 1, none⟩) (World.block_lt_of_cell? wo _ HL0.out)).trans HL0.out;have hmk := run_makeSlice (P := Tryz.prog) W5 75 4 ib (.bool false) Tryz.underlying75 hib hib0 .i64 .i64 (NX : Nat) (NX : Nat) (by omega) (by omega) (by rw [Int.toNat_natCast, hib1]; omega) (by rw [hib2]; omega) (by omega);simp only [Int.toNat_natCast, hib1, made_marks] at hmk
   obtain ⟨qm, hqm⟩ : ∃ q, q = W5.heap.size := ⟨_, rfl⟩
   obtain ⟨W6, hW6⟩ : ∃ W, W = W5.alloc (.cells (Array.replicate NX (Value.bool false)) 4) := ⟨_, rfl⟩
   have hb6 : Below W5.heap.size W5 W6 := by rw [hW6]; exact (Below.refl _ _).alloc (zR _) _
   obtain ⟨WL, hWL⟩ : ∃ L, L = wanL ps ST (vxs X.vs) := ⟨_, rfl⟩
   have HWL := Bx.mk hWL;have HML := Bx.mk (show (marksA WL).length = NX by rw [marksA_len, hWL]; simp [wanL, HNX.out])
   have HMB6 := Bx.mk (show MB W6 qm ((marksA WL).take 0 ++ List.replicate (NX - 0) false) by
    rw [hW6]; unfold MB
    rw [List.take_zero, List.nil_append, Nat.sub_zero, List.map_replicate, List.toArray_replicate]
    exact alloc_at hqm)
   have hbo6 : Below wo.heap.size wo W6 := hbf.trans ((hb5.trans (hb6.mono hb5.size)).mono hbf.size);obtain ⟨Z, hZe⟩ : ∃ Z, Z = wo.heap.size := ⟨_, rfl⟩
   have HWS6 := Bx.mk (show WS W6 Bk U Z (.slice (some ⟨gb, 0, none⟩) N c) (g2.set (k + 1) ⟨X.vs, X.s⟩) by
    have e : g2.set (k + 1) ⟨X.vs, X.s⟩ = g2 := by
     rw [HX.out]; exact List.set_getElem_self _
    rw [e, hZe]
    exact (WS.made hG.out hD.out hZ.out).below hbo6)
   have HQ7 := Bx.mk (show Z <= q7 /\ q7 < qm by rw [hZe, hqm, hq7]; have := hbf.size; rw [hW5]; simp; omega);have HR7 := Bx.mk ((hb6.block q7 (lt_of_some hr7)).trans hr7);have HHL := Bx.mk (show (gxs g2)[k]! = vxs A.vs /\ (gxs g2)[k + 1]! = vxs X.vs by rw [hX.out]; exact HAX.out);obtain ⟨HL, hHL⟩ : ∃ H, H = hasG ps (gxs g) k := ⟨_, rfl⟩
   have HHLE := Bx.mk hHL
   have HO6 := Bx.mk (show ∃ q, q <= (k + 1) * 100000 + 0 /\ OwnF W6 kS rdB edB hb q (exF (HL ++ hasL ps ST ((vxs X.vs).take 0))) by
    obtain ⟨q, h1, h2⟩ := hM.out;refine ⟨q, by rw [Nat.add_zero]; exact h1, ?_⟩;rw [<- hHL] at h2
    simpa [hasL] using h2.below hbo6)
   have HB6 := Bx.mk (hB.out.trans (hbo6.mono (by have := hB.out.size; have := HBK.out; omega)));have l6 := (hb6.cell (p := ⟨gb, k + 1, none⟩) (World.block_lt_of_cell? W5 _ l5)).trans l5;have HWI6 := Bx.mk (WanI.zero ps ST X.vs);have HZW := Bx.mk (show Z <= W6.heap.size by rw [hZe]; exact hbo6.size);clear hr7 hb5 hb6 hbo6 hbf hHL hZe hWL;go_upto_region 6 with fail
   rw [<- hW5, <- hq7];clear hW5 hq7;go_upto_region 7 with fail
   rw [<- hW6, <- hqm];clear hW6 hqm hmk l5;go_wp2_with fail
   clear l6;go_loopw [37] (fun i wr => ∃ (i' : Nat) (vs2 : List Vt), i' <= NX /\ i = .int .i64 (i' : Nat) /\ Bx (WanI ps ST X.vs vs2 i') /\ Bx (WS wr Bk U Z (.slice (some ⟨gb, 0, none⟩) N c) (g2.set (k + 1) ⟨vs2, X.s⟩)) /\ Bx (MB wr qm ((marksA WL).take i' ++ List.replicate (NX - i') false)) /\ Bx (∃ q, q <= (k + 1) * 100000 + i' /\ OwnF wr kS rdB edB hb q (exF (HL ++ hasL ps ST ((vxs X.vs).take i')))) /\ Bx (wr.heap[q7]? = some (.cells #[.int .i64 ST] 3 (0, 0))) /\ Bx (Below Bk w wr) /\ Bx (Z <= wr.heap.size)) (fun i _ => NX - (intOf i).toNat)
   case atStart => exact ⟨0, X.vs, by omega, rfl, HWI6, HWS6, HMB6, HO6, HR7, HB6, HZW⟩
   case round =>
    clear HWI6 HWS6 HMB6 HO6 HR7 HB6 HZW hG hD;obtain ⟨i, vs2, hi, rfl, hI, hS, hMB, hO, hR7, hBw, hZw⟩ := hrel;by_cases hlt2 : i < NX
    ·have hiX : i < X.vs.length := by rw [<- HNX.out]; exact hlt2
     have HIX := Bx.mk hiX;have HIV := Bx.mk (show i < vs2.length by rw [hI.out.1]; exact hiX);obtain ⟨g3, hg3⟩ : ∃ g3, g3 = g2.set (k + 1) ⟨vs2, X.s⟩ := ⟨_, rfl⟩
     have HG3 := Bx.mk hg3;rw [<- hg3] at hS;have HK3 := Bx.mk (show k + 1 < g3.length by rw [hg3, zL]; exact HK2.out);have HX3 := Bx.mk (show g3[k + 1]'HK3.out = ⟨vs2, X.s⟩ by simp only [hg3]; rw [List.getElem_set, if_pos rfl]);clear hg3;have hown := hS.out.go.lv _ (zM HK3.out);rw [HX3.out] at hown;simp only at hown
     rw [HXS.out, <- HNX.out] at hown;have hxm : vs2[i]'HIV.out ∈ (g3[k + 1]'HK3.out).vs := (by rw [HX3.out]; exact zM HIV.out);have hnm := hS.out.go.nm _ (zM HK3.out) _ hxm;have hoq := hS.out.pd.own _ (zM HK3.out) _ hxm;have hqz := hS.out.qz _ (zM HK3.out) _ hxm;have hxe := hI.out.at_ HIX.out HIV.out;obtain ⟨x, hx⟩ : ∃ x, x = vs2[i]'HIV.out := ⟨_, rfl⟩
     rw [<- hx] at hnm hoq hqz hxe;have HXV := Bx.mk hx;have HXE := Bx.mk hxe;have HNM := Bx.mk hnm;have HOQ := Bx.mk hoq;have HQZ := Bx.mk hqz
     obtain ⟨nb, rfl⟩ : ∃ nb, xa = some ⟨nb, 0, none⟩ := by
      obtain ⟨nb, cap, hv, -⟩ := hown.set1 encV_ok i 0 HIV.out (by omega) (.string (bstr x.n.pol)) x (by rw [<- hx]; rfl);simp only [Value.slice.injEq] at hv
      exact ⟨nb, hv.1⟩
     have c0 : wr.cell? ⟨nb, i * 3, none⟩ = some (.string (bstr x.n.pol)) := by
      have := hown.cell encV_ok i HIV.out 0 (by omega) (.string (bstr x.n.pol)) (by rw [<- hx]; rfl);rwa [Nat.add_zero] at this
     have c1 := hown.cell encV_ok i HIV.out 1 (by omega) x.u.val (by rw [<- hx]; rfl);have c2 := hown.cell encV_ok i HIV.out 2 (by omega) x.q.val (by rw [<- hx]; rfl);obtain ⟨ua, uc, hup, -⟩ := hnm.1.1.form;obtain ⟨qa, qc, hpq, -⟩ := hoq.rd.form;obtain ⟨QN, hQN⟩ : ∃ PN, PN = x.n.par.length := ⟨_, rfl⟩
     have HQN := Bx.mk hQN;have hQNb : QN <= 100000 := (by rw [hQN]; exact hnm.2.2.2.2.1);rw [hup] at c1;rw [hpq, <- hQN] at c2;have HPQ := Bx.mk hpq;obtain ⟨W2, hW2⟩ : ∃ W2, W2 = wr.alloc (.cells #[.string (bstr x.n.pol), .slice ua x.n.ex.length uc, .slice qa QN qc] 65) := ⟨_, rfl⟩
     have hb2 : Below wr.heap.size wr W2 := (by rw [hW2]; exact (Below.refl _ _).alloc (zR _) _);obtain ⟨q10, hq10⟩ : ∃ q, q = wr.heap.size := ⟨_, rfl⟩
     have HR10 := Bx.mk (show W2.heap[q10]? = some (.cells #[.string (bstr x.n.pol), .slice ua x.n.ex.length uc, .slice qa QN qc] 65 (0, 0)) by rw [hW2, hq10]; exact heap_alloc_new _ _);have HQ10 := Bx.mk hq10;have HB2 := Bx.mk hb2;have hsp := gspec_any x W2;unfold verV at hsp;rw [hup, hpq, <- hQN] at hsp
     have hri : Ri W2 (.slice qa QN qc) x.n.par := by
      rw [hQN, <- hpq];exact .inr ⟨(hoq.below hb2).rd, fun j hj => ((hoq.below hb2).lt j hj).2⟩
     have HRI := Bx.mk hri;have hr7 := (hb2.block q7 (lt_of_some hR7.out)).trans hR7.out;have HR72 := Bx.mk hr7;clear hiX hown hxm hnm hoq hqz hxe hx hup hpq hQN hb2 hri hr7;go_upto_region 10 with fail
     rw [<- hW2, <- hq10];clear hW2 hq10 c0 c1 c2;go_cut [50] (fun cc wx => cc = .bool (hitV ST x.n) /\ Bx (Below W2.heap.size W2 wx))
     case first =>
      have hr10 := HR10.out;have m0 := cell_of_row _ _ 0 _ _ _ hr10;have m1 := cell_of_row _ _ 1 _ _ _ hr10;have m2 := cell_of_row _ _ 2 _ _ _ hr10;simp only [List.getElem?_toArray, List.getElem?_cons_zero, List.getElem?_cons_succ] at m0 m1 m2
      clear hr10;go_wp2_with fail
      go_at_call 41;refine hsp.mono ?_;rintro e w3 ⟨rfl, hb3⟩;clear hsp m0 m1 m2;have HB3 := Bx.mk hb3;obtain ⟨sp, hspe⟩ : ∃ s, s = specV x.n := ⟨_, rfl⟩
      rw [<- hspe];have HSP := Bx.mk hspe;clear hspe hb3
      cases sp with
      | true =>
       go_wp2_with fail
       go_meet
       exact ⟨by unfold hitV; rw [<- HSP.out]; rfl, HB3⟩
      | false =>
       have hr10 := (HB3.out.block q10 (lt_of_some HR10.out)).trans HR10.out;have m2 := cell_of_row _ _ 2 _ _ _ hr10;simp only [List.getElem?_toArray, List.getElem?_cons_zero, List.getElem?_cons_succ] at m2
       have m7 : w3.cell? ⟨q7, 0, none⟩ = some (.int .i64 ST) := (by rw [cell_of_row _ _ _ _ _ _ ((HB3.out.block q7 (lt_of_some HR72.out)).trans HR72.out)]; rfl);have hct := containsI_any w3 (.slice qa QN qc) x.n.par ST (HRI.out.below HB3.out) (by rw [<- HQN.out]; omega);clear hr10;go_wp2_with fail
       go_at_call 78;refine hct.mono ?_;rintro e w4 ⟨rfl, rfl⟩;clear hct m2 m7;go_wp2_with fail
       go_meet;exact ⟨by unfold hitV; rw [<- HSP.out]; rfl, HB3⟩
     case rest =>
     obtain ⟨rfl, hBc⟩ := hcut;have hbc : Below wr.heap.size wr wc := HB2.out.trans (hBc.out.mono HB2.out.size);have HS4 := Bx.mk (hS.out.below hbc);have HMB4 := Bx.mk (show MB wc qm ((marksA WL).take i ++ List.replicate (NX - i) false) from (hbc.block qm (lt_of_some hMB.out)).trans hMB.out);have HO4 := Bx.mk (show ∃ q, q <= (k + 1) * 100000 + i /\ OwnF wc kS rdB edB hb q (exF (HL ++ hasL ps ST ((vxs X.vs).take i))) by obtain ⟨q, h1, h2⟩ := hO.out; exact ⟨q, h1, h2.below hbc⟩);have HR74 := Bx.mk ((hBc.out.block q7 (lt_of_some HR72.out)).trans HR72.out);have HBW4 := Bx.mk (hBw.out.trans (hbc.mono (by have := hBw.out.size; have := HBK.out; omega)));have HZ4 := Bx.mk (show Z <= wc.heap.size by have := hZw.out; have := hbc.size; omega);have HR104 := Bx.mk ((hBc.out.block q10 (lt_of_some HR10.out)).trans HR10.out)
     have HQ10Z := Bx.mk (show Z <= q10 /\ q10 ≠ qm /\ q10 ≠ q7 /\ q10 ≠ hb by
      have h1 := hZw.out;have h2 := HQ10.out;have h3 := lt_of_some hMB.out;have h4 := lt_of_some hR7.out;obtain ⟨q, -, ho⟩ := hO.out;have h5 := ho.lt
      omega)
     have HOQ4 := Bx.mk (HOQ.out.below hbc)
     have HHS := Bx.mk (show hasL ps ST ((vxs X.vs).take (i + 1)) = hasL ps ST ((vxs X.vs).take i) ++ if hitV ST x.n && decide (x.n.pol ∈ ps) then [x.n.pol] else [] by
      have h1 := hasL_succ ps ST (vxs X.vs) i (by rw [vxs_len]; exact HIX.out);have h2 : (vxs X.vs)[i]'(by rw [vxs_len]; exact HIX.out) = x.n := by rw [HXE.out]; simp [vxs]
      rw [h2] at h1; exact h1)
     have HXP := Bx.mk (show x.n.pol.length <= 1000000 from HNM.out.2.2.2.1);have HWV := Bx.mk (show wanV ps ST x.n = if hitV ST x.n && !decide (x.n.pol ∈ ps) then ⟨x.n.pol, x.n.ex, x.n.par.filter fun y => !decide (y = ST)⟩ else x.n from rfl);obtain ⟨hit, hhit⟩ : ∃ b, b = hitV ST x.n := ⟨_, rfl⟩
     rw [<- hhit] at HHS HWV |-;clear hbc hS hMB hO hR7 hBw hZw hBc hsp hhit;go_upto_if 50 with fail
     go_cut [] (fun wx => ∃ (vs3 : List Vt) (a3 : Option Addr) (n3 c3 : Nat), n3 = (wanV ps ST x.n).par.length /\ Bx (WanI ps ST X.vs vs3 (i + 1)) /\ Bx (WS wx Bk U Z (.slice (some ⟨gb, 0, none⟩) N c) (g2.set (k + 1) ⟨vs3, X.s⟩)) /\ Bx (MB wx qm ((marksA WL).take i ++ List.replicate (NX - i) false)) /\ Bx (∃ q, q <= (k + 1) * 100000 + (i + 1) /\ OwnF wx kS rdB edB hb q (exF (HL ++ hasL ps ST ((vxs X.vs).take (i + 1))))) /\ Bx (wx.heap[q7]? = some (.cells #[.int .i64 ST] 3 (0, 0))) /\ Bx (Below Bk w wx) /\ Bx (Z <= wx.heap.size) /\ Bx (wx.heap[q10]? = some (.cells #[.string (bstr x.n.pol), .slice ua x.n.ex.length uc, .slice a3 n3 c3] 65 (0, 0))))
     case first =>
      cases hit with
      | false =>
       have HW := Bx.mk (show wanV ps ST x.n = x.n by rw [HWV.out]; rfl);have HI5 := Bx.mk (hI.out.stay HIX.out (by rw [<- HXE.out]; exact HW.out))
       have HO5 := Bx.mk (show ∃ q, q <= (k + 1) * 100000 + (i + 1) /\ OwnF wc kS rdB edB hb q (exF (HL ++ hasL ps ST ((vxs X.vs).take (i + 1)))) by
        obtain ⟨q, h1, h2⟩ := HO4.out;refine ⟨q, by omega, ?_⟩
        rw [HHS.out]; simpa using h2)
       go_wp2_with fail
       go_meet
       exact ⟨vs2, qa, QN, qc, by rw [HW.out]; exact HQN.out, HI5, by rw [<- HG3.out]; exact HS4, HMB4, HO5, HR74, HBW4, HZ4, HR104⟩
      | true =>
       have hr10 := HR104.out;have m0 := cell_of_row _ _ 0 _ _ _ hr10;simp only [List.getElem?_toArray, List.getElem?_cons_zero, List.getElem?_cons_succ] at m0
       have hps : RdIn wc (fun k => k < Bk) encS (.slice pa PN pc) ps := HPS.out.keep HBW4.out.size fun q hq _ => HBW4.out.block q hq
       have hct := contains_any wc (.slice pa PN pc) ps x.n.pol hps.1 (by rw [<- HPN.out]; omega);obtain ⟨PI, hPI⟩ : ∃ b, b = decide (x.n.pol ∈ ps) := ⟨_, rfl⟩
       rw [<- hPI] at hct HHS HWV;clear hr10 hps hPI;go_wp2_with fail
       go_at_call 48;refine hct.mono ?_;rintro e w4 ⟨rfl, rfl⟩;clear hct
       cases PI with
       | true =>
        have HW := Bx.mk (show wanV ps ST x.n = x.n by rw [HWV.out]; rfl);have HI5 := Bx.mk (hI.out.stay HIX.out (by rw [<- HXE.out]; exact HW.out));obtain ⟨q, hq, hop⟩ := HO4.out;have HOP := Bx.mk hop;obtain ⟨w8, hrun, ho8, hg8⟩ := hop.putS u_mapSB (by unfold maxLen; omega) (k := x.n.pol) (by have := HXP.out; unfold maxLen; omega) true (.bool true) (rdB_mk _);have hrun' : (Instr.mapUpdate 98 (.map (some hb)) (.string (bstr x.n.pol)) (.bool true)).run Tryz.prog wc = .ok () w8 := hrun
        have HO5 := Bx.mk (show ∃ q, q <= (k + 1) * 100000 + (i + 1) /\ OwnF w8 kS rdB edB hb q (exF (HL ++ hasL ps ST ((vxs X.vs).take (i + 1)))) by
         refine ⟨q + 1, by omega, ?_⟩;rw [HHS.out];simp only [Bool.and_self, if_true]
         rw [<- List.append_assoc, exF_snoc]; exact ho8)
        have HS5 := Bx.mk (HS4.out.map (by rw [HU.out, HHB.out]; exact zR _) HOP.out hg8)
        have hne : hb ≠ qm /\ hb ≠ q7 /\ hb ≠ q10 := by
         obtain ⟨es, cl, hm⟩ := ownF_obj HOP.out;refine ⟨fun e => ?_, fun e => ?_, fun e => ?_⟩
         ·have := HMB4.out; unfold MB at this; rw [<- e, hm] at this; cases this
         ·have := HR74.out; rw [<- e, hm] at this; cases this
         ·have := HR104.out; rw [<- e, hm] at this; cases this
        have hkp : ∀ z, z < wc.heap.size -> hb ≠ z -> w8.heap[z]? = wc.heap[z]? := fun z hz hn => hg8.block z hz (by simp only [ne_eq, zO]; exact fun e => hn e.symm)
        have HMB5 := Bx.mk (show MB w8 qm ((marksA WL).take i ++ List.replicate (NX - i) false) from (hkp qm (lt_of_some HMB4.out) hne.1).trans HMB4.out);have HR75 := Bx.mk ((hkp q7 (lt_of_some HR74.out) hne.2.1).trans HR74.out);have HR105 := Bx.mk ((hkp q10 (lt_of_some HR104.out) hne.2.2).trans HR104.out);have HBW5 := Bx.mk (HBW4.out.grown hg8 (by have := HBW4.out.size; have := HBK.out; omega) fun z hz => by simp only [zO] at hz; have := HBK.out; have := HHB.out; omega);have HZ5 := Bx.mk (show Z <= w8.heap.size by have := hg8.size; have := HZ4.out; omega);clear hq hop hrun ho8 hg8 hne hkp;go_wp2_with fail
        go_meet
        exact ⟨vs2, qa, QN, qc, by rw [HW.out]; exact HQN.out, HI5, by rw [<- HG3.out]; exact HS5, HMB5, HO5, HR75, HBW5, HZ5, HR105⟩
       | false =>
        have HW := Bx.mk (show wanV ps ST x.n = ⟨x.n.pol, x.n.ex, x.n.par.filter fun y => !decide (y = ST)⟩ by rw [HWV.out]; rfl);have hoq := HOQ4.out;rw [HPQ.out, <- HQN.out] at hoq;have hqz : ∀ z, (Value.slice qa QN qc).ownBlock = some z -> z < Z := fun z hz => HQZ.out z (by rw [HPQ.out, <- HQN.out]; exact hz)
        have m7 : wc.cell? ⟨q7, 0, none⟩ = some (.int .i64 ST) := (by rw [cell_of_row _ _ _ _ _ _ HR74.out]; rfl);have hdel := gdelI_any wc Bk (.slice qa QN qc) x.n.par hoq (by rw [<- HQN.out]; exact hQNb) ST q7 m7 (lt_of_some HR74.out) (fun e => by have := hqz q7 e; have := HQ7.out.1; omega);have hr10 := HR104.out;have m2 := cell_of_row _ _ 2 _ _ _ hr10;simp only [List.getElem?_toArray, List.getElem?_cons_zero, List.getElem?_cons_succ] at m2
        have HQZ4 := Bx.mk hqz;have HOQ5 := Bx.mk hoq;clear hr10 m0 m7 hoq hqz;go_wp2_with fail
        go_at_call 107;refine hdel.mono ?_;rintro e w5 ⟨v5, rfl, hv5b, ho5, hg5⟩;clear hdel m2;obtain ⟨a5, c5, rfl, -⟩ := ho5.rd.form;obtain ⟨n5, hn5⟩ : ∃ n5, n5 = (x.n.par.filter fun y => !decide (y = ST)).length := ⟨_, rfl⟩
        have HN5 := Bx.mk hn5;rw [<- hn5] at hv5b ho5 |-;have HO5' := Bx.mk ho5;have HV5B := Bx.mk hv5b;have HG5 := Bx.mk hg5;have hq10q : (Value.slice qa QN qc).ownBlock ≠ some q10 := fun e => by have := HQZ4.out q10 e; have := HQ10Z.out.1; omega
        have hr5 := (hg5.block q10 (lt_of_some HR104.out) (fun e => hq10q e.symm)).trans HR104.out;have m5 := cell_of_row _ _ 2 _ _ _ hr5;simp only [List.getElem?_toArray, List.getElem?_cons_zero, List.getElem?_cons_succ] at m5
        have z5 := frozen_row (i := 2) hr5;obtain ⟨W6, hW6⟩ : ∃ W, W = w5.setCell ⟨q10, 2, none⟩ (.slice a5 n5 c5) := ⟨_, rfl⟩
        have HR106 := Bx.mk (show W6.heap[q10]? = some (.cells #[.string (bstr x.n.pol), .slice ua x.n.ex.length uc, .slice a5 n5 c5] 65 (0, 0)) by
         rw [hW6]; exact row_set hr5 _)
        have HS56 := Bx.mk (show W6.heap.size = w5.heap.size by rw [hW6]; simp);have HK56 := Bx.mk (show ∀ z, z ≠ q10 -> W6.heap[z]? = w5.heap[z]? from fun z hz => by rw [hW6]; exact heap_setCell_other _ _ _ _ hz)
        have HK6 := Bx.mk (show ∀ z, z < wc.heap.size -> (Value.slice qa QN qc).ownBlock ≠ some z -> z ≠ q10 -> W6.heap[z]? = wc.heap[z]? from fun z hz h1 h2 => by
         rw [HK56.out z h2]
         exact HG5.out.block z hz (fun e => h1 e.symm))
        have HO6 := Bx.mk (show Slc.Own W6 Bk 3 1 encI (.slice a5 n5 c5) (x.n.par.filter fun y => !decide (y = ST)) from HO5'.out.keep fun z hz _ => HK56.out z fun e => hq10q (by rw [<- HV5B.out, hz, e]))
        have HGQ := Bx.mk (show (Value.slice qa QN qc).ownBlock ≠ some gb /\ q10 ≠ gb /\ gb < wc.heap.size from by
         have h1 : GB (.slice (some ⟨gb, 0, none⟩) N c) g3 gb := .inl rfl;refine ⟨fun e => own_type HOQ5.out HS4.out.go.own (by decide) gb e rfl, ?_, (HS4.out.go.lt h1).2⟩;have := HS4.out.gz gb h1;have := HQ10Z.out.1
         omega)
        obtain ⟨gb4, he4, l4, -⟩ := HS4.out.go.cellL (k + 1) HK3.out;simp only [zO, Addr.mk.injEq, and_true] at he4
        subst he4;rw [HX3.out] at l4;simp only at l4
        rw [HXS.out, <- HNX.out] at l4
        have l6 : W6.cell? ⟨gb, k + 1, none⟩ = some (.slice (some ⟨nb, 0, none⟩) NX xc) := by
         have h1 := HK6.out gb HGQ.out.2.2 HGQ.out.1 (fun e => HGQ.out.2.1 e.symm);unfold World.cell? at l4 |-;rw [h1]; exact l4
        have l6e : ∀ e : Ext W6, e.out.cell? ⟨gb, k + 1, none⟩ = some (.slice (some ⟨nb, 0, none⟩) NX xc) := fun e => (e.bel.cell (p := ⟨gb, k + 1, none⟩) (World.block_lt_of_cell? W6 _ l6)).trans l6
        have m6e : ∀ e : Ext W6, e.out.cell? ⟨q10, 2, none⟩ = some (.slice a5 n5 c5) := fun e => by
         have hr6 := (e.bel.block q10 (lt_of_some HR106.out)).trans HR106.out;rw [cell_of_row _ _ _ _ _ _ hr6]; rfl
        have HW6 := Bx.mk hW6;clear hn5 hv5b ho5 hg5 hq10q hr5 hW6 l4 l6;go_wp2_with fail
        rw [<- HW6.out];refine wp_region_ext_tail 10 (Ext.self W6) (by kernel_rfl) (by kernel_rfl) rfl rfl ?_;simp only [List.take_succ_cons, List.take_zero, List.drop_succ_cons, List.drop_zero]
        repeat (go_big_quiet_step (fail))
        refine wpQuiet_nil ?_;rintro _ ⟨e1, rfl⟩;clear l6e m6e;have hsz1 : wc.heap.size <= e1.out.heap.size := by have := HG5.out.size; have := HS56.out; have := e1.bel.size; omega
        have hke : ∀ z, z < wc.heap.size -> (Value.slice qa QN qc).ownBlock ≠ some z -> z ≠ q10 -> e1.out.heap[z]? = wc.heap[z]? := fun z hz h1 h2 =>
         (e1.bel.block z (by have := HG5.out.size; have := HS56.out; omega)).trans (HK6.out z hz h1 h2)
        have HIG := Bx.mk (show i < (g3[k + 1]'HK3.out).vs.length by rw [HX3.out]; exact HIV.out);have HVX := Bx.mk (show (g3[k + 1]'HK3.out).vs[i]'HIG.out = x by rw [HXV.out]; congr 1; rw [HX3.out]);have hqx : x.q.val = .slice qa QN qc := (by rw [HPQ.out, <- HQN.out]);have hset := HS4.out.setQ (k + 1) HK3.out i HIG.out hsz1 (fun z hz hzZ hn => hke z hz (by rw [<- hqx, <- HVX.out]; exact hn) (fun e => by have := HQ10Z.out.1; omega)) ⟨a5, n5, c5⟩ (x.n.par.filter fun y => !decide (y = ST)) (HO6.out.below e1.bel) (by rw [HVX.out, hqx]; exact HV5B.out) (by rw [HVX.out]; exact wanV_ok HNM.out.2.2);obtain ⟨nb', cap', hv', hfz', hcl', hws', hgr', hgb'⟩ := hset;have hxs3 : (g3[k + 1]'HK3.out).s = X.s /\ (g3[k + 1]'HK3.out).vs = vs2 := (by rw [HX3.out]; exact ⟨rfl, rfl⟩);rw [hxs3.1, HXS.out] at hv';simp only [Value.slice.injEq, zO, Addr.mk.injEq, and_true] at hv'
        obtain ⟨rfl, -, -⟩ := hv';rw [HVX.out] at hcl' hws';rw [hqx] at hcl';have z3 := hfz' (i * 3 + 2)
        have hgs : g3.set (k + 1) ⟨(g3[k + 1]'HK3.out).vs.set i ⟨⟨x.n.pol, x.n.ex, x.n.par.filter fun y => !decide (y = ST)⟩, x.u, ⟨a5, n5, c5⟩⟩, (g3[k + 1]'HK3.out).s⟩ = g2.set (k + 1) ⟨vs2.set i ⟨⟨x.n.pol, x.n.ex, x.n.par.filter fun y => !decide (y = ST)⟩, x.u, ⟨a5, n5, c5⟩⟩, X.s⟩ := by
         rw [hxs3.1, hxs3.2, HG3.out, List.set_set]
        rw [hgs] at hws';simp only [Sl.val] at hws' hgr'
        obtain ⟨W8, hW8⟩ : ∃ W, W = e1.out.setCell ⟨nb, i * 3 + 2, none⟩ (.slice a5 n5 c5) := ⟨_, rfl⟩
        rw [<- hW8] at hws' hgr';have hnbZ := HS4.out.gz nb hgb'
        have hk8 : ∀ z, z < wc.heap.size -> (Value.slice qa QN qc).ownBlock ≠ some z -> z ≠ q10 -> z ≠ nb -> W8.heap[z]? = wc.heap[z]? := fun z hz h1 h2 h3 =>
         (hgr'.block z (by omega) (by simp only [ne_eq, zO]; exact h3)).trans (hke z hz h1 h2)
        have HWS8 := Bx.mk hws';have HI8 := Bx.mk (hI.out.set HIX.out (y := ⟨⟨x.n.pol, x.n.ex, x.n.par.filter fun y => !decide (y = ST)⟩, x.u, ⟨a5, n5, c5⟩⟩) (by rw [<- HXE.out, HW.out]));have HMB8 := Bx.mk (show MB W8 qm ((marksA WL).take i ++ List.replicate (NX - i) false) from (hk8 qm (lt_of_some HMB4.out) (fun e => by have := HQZ4.out qm e; have := HQ7.out; omega) (fun e => HQ10Z.out.2.1 e.symm) (by have := HQ7.out; omega)).trans HMB4.out);have HR78 := Bx.mk ((hk8 q7 (lt_of_some HR74.out) (fun e => by have := HQZ4.out q7 e; have := HQ7.out; omega) (fun e => HQ10Z.out.2.2.1 e.symm) (by have := HQ7.out; omega)).trans HR74.out)
        have HR108 := Bx.mk (show W8.heap[q10]? = some (.cells #[.string (bstr x.n.pol), .slice ua x.n.ex.length uc, .slice a5 n5 c5] 65 (0, 0)) from
         (hgr'.block q10 (by have := lt_of_some HR104.out; omega) (by simp only [ne_eq, zO]; have := HQ10Z.out.1; omega)).trans ((e1.bel.block q10 (lt_of_some HR106.out)).trans HR106.out))
        have HO8 := Bx.mk (show ∃ q, q <= (k + 1) * 100000 + (i + 1) /\ OwnF W8 kS rdB edB hb q (exF (HL ++ hasL ps ST ((vxs X.vs).take (i + 1)))) by
         obtain ⟨q, h1, h2⟩ := HO4.out;refine ⟨q, by omega, ?_⟩;have h3 : hasL ps ST ((vxs X.vs).take (i + 1)) = hasL ps ST ((vxs X.vs).take i) := (by rw [HHS.out]; simp);rw [h3];obtain ⟨es, cl, hm⟩ := ownF_obj h2;have h4 := HS4.out.nomap (by rw [HU.out, HHB.out]; exact zR _) hm;refine h2.block (hk8 hb h2.lt (fun e => ?_) (fun e => HQ10Z.out.2.2.2 e.symm) (fun e => h4 (.inl (e ▸ hgb'))))
         exact h4 (.inr ⟨_, zM HK3.out, x, by rw [<- HVX.out]; exact zM HIG.out, .inr (by rw [hqx]; exact e)⟩))
        have HBW8 := Bx.mk (show Below Bk w W8 by
         have hbk := HBK.out;have hs4 := HBW4.out.size;refine ⟨hgr'.os.trans (e1.bel.os.trans ?_), hgr'.tape.trans (e1.bel.tape.trans ?_), hgr'.output.trans (e1.bel.output.trans ?_), ?_, fun z hz => ?_⟩
         ·rw [HW6.out]; exact HG5.out.os.trans HBW4.out.os
         ·rw [HW6.out]; exact HG5.out.tape.trans HBW4.out.tape
         ·rw [HW6.out]; exact HG5.out.output.trans HBW4.out.output
         ·have := hgr'.size; omega
         ·refine (hk8 z (by omega) (fun e => ?_) (fun e => ?_) (fun e => ?_)).trans (HBW4.out.block z hz)
          ·have := (HOQ5.out.lt z e).1; omega
          ·have := HQ10Z.out.1; have := HZ4.out; have := HQ10.out; have := HS4.out.uz; have := HU.out; omega
          ·have := (HS4.out.go.lt hgb').1; omega)
        have HZ8 := Bx.mk (show Z <= W8.heap.size by have := hgr'.size; have := HZ4.out; omega);have HW8 := Bx.mk hW8;clear hsz1 hke hqx hfz' hws' hgr' hgb' hxs3 hgs hW8 hnbZ hk8;go_wp2_with fail
        rw [<- HW8.out];go_meet;exact ⟨_, a5, n5, c5, by rw [HW.out]; exact HN5.out, HI8, HWS8, HMB8, HO8, HR78, HBW8, HZ8, HR108⟩
     case rest =>
     obtain ⟨vs3, a3, n3, c3, hn3, hI3, hS3, hMB3, hO3, hR73, hB3, hZ3, hR103⟩ := hcut;have HN3 := Bx.mk hn3;clear hn3;have hr10 := hR103.out;have m2 := cell_of_row _ _ 2 _ _ _ hr10;simp only [List.getElem?_toArray, List.getElem?_cons_zero, List.getElem?_cons_succ] at m2
     obtain ⟨bq, hbq⟩ : ∃ b, b = decide (0 < n3) := ⟨_, rfl⟩
     have t1 : decide ((n3 : Int) > 0) = bq := (by rw [hbq, Bool.eq_iff_iff]; simp);have t2 : decide (0 < n3) = bq := hbq.symm;have hms := marks_step HML.out hlt2
     rw [<- show bq = (marksA WL)[i]! by
      have hwi : WL[i]! = wanV ps ST x.n := by
       rw [HWL.out];unfold wanL;rw [getElem!_pos _ i (by rw [List.length_map, vxs_len]; exact HIX.out), List.getElem_map];congr 1
       rw [HXE.out]; simp [vxs]
      have hwl : i < WL.length := by have := HML.out; rw [marksA_len] at this; omega
      rw [marksA_at _ _ hwl, hwi, hbq, HN3.out]] at hms
     have HMS := Bx.mk hms;have z1 := frozen_row (i := i) hMB3.out;have mc := hMB3.out.cell i (by rw [List.length_append, List.length_take, List.length_replicate, HML.out]; omega);have hqmne : ∀ z, z ≠ qm -> (wc.setCell ⟨qm, i, none⟩ (.bool bq)).heap[z]? = wc.heap[z]? := fun z hz => heap_setCell_other _ _ _ _ hz
     obtain ⟨W9, hW9⟩ : ∃ W9, W9 = wc.setCell ⟨qm, i, none⟩ (.bool bq) := ⟨_, rfl⟩
     rw [<- hW9] at hqmne;have hg9 : wc.grownBy W9 (some qm) := by rw [hW9]; exact setCells_grown qm i [.bool bq] wc
     have HMB9 := Bx.mk (show MB W9 qm ((marksA WL).take (i + 1) ++ List.replicate (NX - (i + 1)) false) by
      have := hMB3.out.set i bq;rw [HMS.out] at this
      rw [hW9]; exact this)
     have HS9 := Bx.mk (hS3.out.other hg9 (by have := HQ7.out; omega))
     have HO9 := Bx.mk (show ∃ q, q <= (k + 1) * 100000 + (i + 1) /\ OwnF W9 kS rdB edB hb q (exF (HL ++ hasL ps ST ((vxs X.vs).take (i + 1)))) by
      obtain ⟨q, h1, h2⟩ := hO3.out;refine ⟨q, h1, h2.kept hg9 (fun e => ?_)⟩;simp only [zO] at e
      obtain ⟨es, cl, hm⟩ := ownF_obj h2;have := hMB3.out;unfold MB at this
      rw [<- e, hm] at this; cases this)
     have HR79 := Bx.mk ((hqmne q7 (by have := HQ7.out; omega)).trans hR73.out)
     have HB9 := Bx.mk (hB3.out.grown hg9 (by have := hB3.out.size; have := HBK.out; omega) fun z hz => by
      simp only [zO] at hz
      have h1 := HQ7.out;have h2 := hS3.out.uz
      have := HBK.out; have := HU.out; omega)
     have HZ9 := Bx.mk (show Z <= W9.heap.size by have := hg9.size; have := hZ3.out; omega);have HW9 := Bx.mk hW9;clear hr10 hbq hms hqmne hW9 hg9;go_wp2_with fail
     rw [<- HW9.out];go_roundw
     case rel => exact ⟨i + 1, vs3, by omega, by go_num, hI3, HS9, HMB9, HO9, HR79, HB9, HZ9⟩
     case measure => simp [intOf]; omega
    ·obtain rfl : i = NX := by omega
     obtain ⟨g3, hg3⟩ : ∃ g3, g3 = g2.set (k + 1) ⟨vs2, X.s⟩ := ⟨_, rfl⟩
     rw [<- hg3] at hS;have HL3 := Bx.mk (show g3.length = N by rw [hg3, zL, wan_len hX.out, gxs_len, HN.out]);have HK3 := Bx.mk (show k + 1 < g3.length by rw [HL3.out]; exact hlt);have HX3 := Bx.mk (show g3[k + 1]'HK3.out = ⟨vs2, X.s⟩ by simp only [hg3]; rw [List.getElem_set, if_pos rfl])
     have hwv : vxs vs2 = WL := by
      rw [HWL.out];have h1 := hI.out;rw [HNX.out] at h1;exact h1.all
     have HGX3 := Bx.mk (show gxs g3 = (gxs g2).set (k + 1) WL by
      have e1 : gxs (g2.set (k + 1) ⟨vs2, X.s⟩) = (gxs g2).set (k + 1) (vxs vs2) := List.map_set
      rw [hg3, e1, hwv])
     have HPG3 := Bx.mk (show PG (gxs g3) by
      rw [HGX3.out, HWL.out, <- HHL.out.2]
      exact wan_sub HPG2.out (by rw [gxs_len]; exact HK2.out) ps ST)
     have hMf : MB wr qm (marksA WL) := by
      have := hMB.out;rwa [Nat.sub_self, List.replicate_zero, List.append_nil, <- HML.out, List.take_length] at this
     have hml : (marksA WL).length = (g3[k + 1]'HK3.out).vs.length := by
      rw [HML.out, HX3.out];simp only
      rw [hI.out.1, HNX.out]
     have hgo3 := hS.out.go
     have hcall := filter_r wr Bk (.slice (some ⟨gb, 0, none⟩) N c) g3 hgo3 (by rw [HL3.out]; omega) (pg_len HPG3.out) (k + 1) HK3.out (.slice (some ⟨qm, 0, none⟩) i i) (marksA WL) (mb_in hMf HML.out.symm fun hk => by
      have := hS.out.gz qm hk;have := HQ7.out
      omega) hml (fun h1 x hx p hp => by
      rw [hml]
      exact pg_par HPG3.out h1 x hx p hp)
     have HHX := Bx.mk (show wanG ps (gxs g) (k + 1) = filtG (gxs g3) (k + 1) (marksA WL) /\ hasG ps (gxs g) (k + 1) = HL ++ hasL ps ST (vxs X.vs) by
      constructor
      ·rw [wanG];unfold wanK;rw [Nat.add_sub_cancel, HAX.out.1, HAX.out.2, <- HST.out, <- HWL.out, HGX3.out, hX.out]
      ·rw [hasG, HAX.out.1, HAX.out.2, <- HST.out, <- HHLE.out])
     have wc2 : (((k + 1 : Nat) : Int)) = (k : Int) + 1 := (by omega);rw [wc2] at hcall;clear hg3 hwv hMf hml hgo3 wc2;go_wp2_with fail
     go_at_call 96;refine hcall.mono ?_;rintro e w4 ⟨⟨u, rfl⟩, g4, hS4, hF4, hR4⟩;clear hcall;have hbw : Bk <= wr.heap.size := (by have := hBw.out.size; have := HBK.out; omega);have HG5 := Bx.mk hS4.go;have HD5 := Bx.mk (hS.out.pd.filt hS.out.go HK3.out hS4 hR4 hbw);have HX5 := Bx.mk (show gxs g4 = wanG ps (gxs g) (k + 1 + 1 - 1) by rw [hF4, Nat.add_sub_cancel, HHX.out.1])
     have HO5 := Bx.mk (show ∃ q, q <= (k + 1 + 1) * 100000 /\ OwnF w4 kS rdB edB hb q (exF (hasG ps (gxs g) (k + 1 + 1 - 1))) by
      obtain ⟨q, h1, h2⟩ := hO.out
      have h1' : q <= (k + 1 + 1) * 100000 := by
       have h5 : (k + 1 + 1) * 100000 = (k + 1) * 100000 + 100000 := Nat.succ_mul _ _;rw [h5];exact Nat.le_trans h1 (Nat.add_le_add_left hll _)
      refine ⟨q, h1', ?_⟩;rw [Nat.add_sub_cancel, HHX.out.2];have e : (vxs X.vs).take i = vxs X.vs := (by rw [HNX.out, <- vxs_len, List.take_length]);rw [e] at h2;obtain ⟨es, cl, hm⟩ := ownF_obj h2
      exact h2.block (hS4.fr.block hb h2.lt fun hn => hS.out.nomap (by rw [HU.out, HHB.out]; exact zR _) hm (.inl hn)))
     have HB5 := Bx.mk (hBw.out.trans (hS4.bel hS.out.go hbw));have HZ5 := Bx.mk (show U <= w4.heap.size by have := hS4.fr.size; have := hZw.out; have := hS.out.uz; omega);clear hS4 hF4 hR4 hbw;go_wp2_with fail
     go_roundw
     case rel => exact ⟨k + 1 + 1, g4, by omega, by omega, by go_num, HG5, HD5, HX5, HO5, HB5, HZ5⟩
     case measure => simp [intOf]; omega
  ·obtain rfl : n = N := by omega
   have HFO := Bx.mk (show ∃ q, q <= 100000 * 100000 /\ OwnF wo kS rdB edB hb q (exF (hasG ps (gxs g) (n - 1))) by
    obtain ⟨q, h1, h2⟩ := hM.out;have h3 : n * 100000 <= 100000 * 100000 := Nat.mul_le_mul_right 100000 (by omega)
    exact ⟨q, Nat.le_trans h1 h3, h2⟩)
   have tz : decide ((n : Int) < (n : Int)) = false := zF (by omega);go_wp2_with fail
   go_ret;exact ⟨hb, g2, rfl, by rw [HU.out, HHB.out]; exact zR _, hG.out, hD.out, hX.out, HFO.out, hB.out⟩
end Go.Proofs.YtmagjdocondmhaaGreat.Tr.Gr
namespace Go.Proofs.YtmagjdocondmhaaGreat.Tr.Gr
open Go Go.RowKit Go.Shelf Go.Sort Slc St Mp Tr Rg
attribute [local go_sem] Oper.semAt_some
theorem valI1_in (F : Fence) (n : Nat) (hF : F.fn 112) (hro : F.round = none) (hn : 1 <= n) (l Bs n₀ b off cap : Nat) (zs : List Int) (hlen : zs.length <= 1000000000) (J Jx : List Int -> World -> Prop)
  (hY : ∀ pre x W, J pre W -> pre.length < zs.length -> YieldAt F (n - 1) Tryz.prog l #[.int .i64 x] W fun e W' =>
   (e = .returned (.bool true) /\ J (pre ++ [x]) W' /\ Below n₀ W W') \/ (e = .returned (.bool false) /\ Jx (pre ++ [x]) W'))
  (W : World) (hBs : W.cell? ⟨Bs, 0, none⟩ = some (.slice (some ⟨b, off, none⟩) zs.length cap)) (hc : ∀ W', Below n₀ W W' -> ∀ j (h : j < zs.length), W'.cell? ⟨b, off + j, none⟩ = some (.int .i64 zs[j])) (h0 : J [] W) :
  CallsIn F n Tryz.prog 112 #[.func (.yield l) #[] #[], .pointer (some ⟨Bs, 0, none⟩)] W fun e W' => (∃ v, e = .returned v) /\
   ((∃ ys, ys = zs /\ J ys W') \/ (∃ pre, (∃ k, k <= zs.length /\ pre = zs.take k) /\ Jx pre W')) := by
 have HC := Lib.hid hc;clear hc;refine callsIn_of_wp Tryz.func112 rfl hF ?_ hro;simp only [Tryz.ntmps112, List.size_toArray, List.length_cons, List.length_nil, Nat.reduceAdd, Nat.reduceSub, Array.replicate_succ, Array.replicate_zero, List.push_toArray, List.append_toArray, List.nil_append, List.cons_append]
 gi_wp2
 gi_loopw [7] (fun i wr => ∃ k : Nat, k <= zs.length /\ i = .int .i64 (k : Int) /\ J (zs.take k) wr /\ Below n₀ W wr)
  (fun i _ => zs.length - (intOf i).toNat)
 case atStart => exact ⟨0, by omega, rfl, by simpa using h0, Below.refl _ _⟩
 case round =>
  obtain ⟨k, hk, rfl, hJs, hnx⟩ := hrel;have HNX := Lib.hid hnx;by_cases hlt : k < zs.length
  ·have hx := HC.out wr hnx k hlt;have hsucc : zs.take (k + 1) = zs.take k ++ [zs[k]] := zA hlt;obtain ⟨x, hxx⟩ : ∃ x, x = zs[k] := ⟨_, rfl⟩
   rw [<- hxx] at hx hsucc;have HS := Lib.hid hsucc;obtain ⟨fn, tmps, assign, body, hy, hR⟩ := hY _ x wr hJs (by rw [List.length_take]; omega);rw [<- hsucc] at hR;clear hnx hsucc hxx hBs
   gi_wp2
   refine hR.mono ?_;rintro e W3 (⟨rfl, hJ3, hk3⟩ | ⟨rfl, hJx3⟩)
   ·gi_wp2
    go_roundw
    case rel => exact ⟨k + 1, by omega, by go_num, hJ3, HNX.out.trans hk3⟩
    case measure => simp [intOf]; omega
   ·gi_wp2
    refine bodyPost_ret (results_none rfl _ _ _) rfl ?_;exact ⟨⟨_, rfl⟩, .inr ⟨_, ⟨k + 1, by omega, rfl⟩, hJx3⟩⟩
  ·obtain rfl : k = zs.length := by omega
   rw [List.take_length] at hJs;clear hnx hBs
   gi_wp2
   go_end0
   exact ⟨⟨_, rfl⟩, .inl ⟨_, rfl, hJs⟩⟩
theorem valI1_nil_in (F : Fence) (n : Nat) (hF : F.fn 112) (hro : F.round = none) (l Bs : Nat) (c : Nat) (a : Option Addr) (J : List Int -> World -> Prop) (W : World) (hBs : W.cell? ⟨Bs, 0, none⟩ = some (.slice a 0 c)) (h0 : J [] W) :
  CallsIn F n Tryz.prog 112 #[.func (.yield l) #[] #[], .pointer (some ⟨Bs, 0, none⟩)] W fun e W' => (∃ v, e = .returned v) /\ J [] W' := by
 refine callsIn_of_wp Tryz.func112 rfl hF ?_ hro;simp only [Tryz.ntmps112, List.size_toArray, List.length_cons, List.length_nil, Nat.reduceAdd, Nat.reduceSub, Array.replicate_succ, Array.replicate_zero, List.push_toArray, List.append_toArray, List.nil_append, List.cons_append]
 gi_wp2
 gi_loopw [7] (fun i wr => i = .int .i64 0 /\ J [] wr) (fun _ _ => 0)
 case atStart => exact ⟨rfl, h0⟩
 case round =>
  obtain ⟨rfl, hJs⟩ := hrel
  gi_wp2
  go_end0
  exact ⟨⟨_, rfl⟩, hJs⟩
theorem valI_any (a : Option Addr) (len cap : Nat) (w : World) :
  Calls Tryz.prog 74 #[.slice a len cap] w fun e w' => e = .returned (.func (.func 112) #[] #[.pointer (some ⟨w.heap.size, 0, none⟩)]) /\ w' = w.alloc (.cells #[.slice a len cap] 22) := by
 go_enter Tryz.func74, Tryz.ntmps74;go_wp2
 go_ret;exact ⟨rfl, rfl⟩
theorem valI_stops (F : Fence) (n : Nat) (hF : F.fn 112) (hro : F.round = none) (hn : 1 <= n) (Bs n₀ : Nat) (sv : Value) (zs : List Int) (hlen : zs.length <= 1000000000) (w : World) (hBs0 : Bs < n₀) (hn₀ : n₀ <= w.heap.size)
  (hc : w.cell? ⟨Bs, 0, none⟩ = some sv) (hI : ∃ w0, Rd w0 encI sv zs /\ w0.heap.size <= n₀ /\ Below w0.heap.size w0 w) :
  SeqStopsK F n Tryz.prog 112 #[.pointer (some ⟨Bs, 0, none⟩)] (fun x : Int => #[Value.int .i64 x]) (Below n₀) (fun ys => ys = zs)
   (fun pre => ∃ k, k <= zs.length /\ pre = zs.take k) zs.length w := fun l J Jx W hW _ _ hY h0 => by
 have hc' := (hW.cell (p := ⟨Bs, 0, none⟩) (Nat.lt_of_lt_of_le hBs0 hn₀)).trans hc;obtain ⟨w0, hrd, hw0, hbw⟩ := hI;rcases Nat.eq_zero_or_pos zs.length with hz | hp
 ·obtain rfl : zs = [] := List.eq_nil_of_length_eq_zero hz;obtain ⟨a, c, rfl, -⟩ := hrd.form;exact (valI1_nil_in F n hF hro l Bs c a J W hc' h0).mono fun e W' ⟨he, hj⟩ => ⟨he, .inl ⟨_, rfl, hj⟩⟩
 ·obtain ⟨b, o, c, hv, _, hlt, hcell⟩ := hrd.cells encI_ok hp;subst hv;refine valI1_in F n hF hro hn l Bs n₀ b o c zs hlen J Jx hY W hc' (fun W' hW' j hj => ?_) h0;have hb2 : Below w0.heap.size w0 W' := hbw.trans ((hW.mono hbw.size).trans (hW'.mono hw0));have q := hcell W' (fun k hk => by cases hk; exact hb2.block b hlt) j hj 0 _ (by omega) rfl;rw [Nat.mul_one, Nat.add_zero] at q;exact q
theorem encI_int (l : List Int) : l.flatMap encI = l.map (Value.int .i64) := by
 induction l with
 | nil => rfl
 | cons x l ih => simp [encI, List.flatMap_cons, ih]
theorem apI_any (w : World) (Bs : Nat) (sv : Value) (zs : List Int) (hlen : zs.length <= 1000000) (hBs : Bs < w.heap.size) (hc : w.cell? ⟨Bs, 0, none⟩ = some sv) (hI : ∃ w0, Rd w0 encI sv zs /\ w0.heap.size <= w.heap.size /\ Below w0.heap.size w0 w) :
  Calls Tryz.prog 127 #[.slice none 0 0, .func (.func 112) #[] #[.pointer (some ⟨Bs, 0, none⟩)]] w fun e w' => ∃ v, e = .returned v /\ Slc.Own w' w.heap.size 3 1 encI v zs /\ Below w.heap.size w w' := by
 obtain ⟨i0, hi0, hz0, hz1, hz2⟩ := info_parts info_int;obtain ⟨p, hp⟩ : ∃ p, p = w.heap.size := ⟨_, rfl⟩
 have HP := Bx.mk hp;obtain ⟨W1, hW1⟩ : ∃ W1, W1 = w.alloc (.cells #[.slice none 0 0] 22) := ⟨_, rfl⟩
 have HB0 := Bx.mk (show Below p w W1 by rw [hW1, hp]; exact (Below.refl _ _).alloc (zR _) _);have HR0 := Bx.mk (show W1.heap[p]? = some (.cells #[.slice none 0 0] 22 (0, 0)) by rw [hW1]; exact Rg.alloc_at hp);have HZ := Bx.mk (show W1.heap.size = p + 1 by rw [hW1, hp]; simp);have HI := Bx.mk hI;have HC := Bx.mk (show W1.cell? ⟨Bs, 0, none⟩ = some sv from (HB0.out.cell (p := ⟨Bs, 0, none⟩) (by rw [hp]; exact hBs)).trans hc);rw [<- hp] at hBs;have HBS := Bx.mk hBs;clear hI hc hBs;refine (callsIn_wide (n := 6)).1 (callsIn_of_wp_marks Tryz.func127 rfl trivial (wpIn_wide.2 ?_) rfl);simp only [Tryz.ntmps127, List.size_toArray, List.length_cons, List.length_nil, Nat.reduceAdd, Nat.reduceSub, Array.replicate_succ, Array.replicate_zero, List.push_toArray, List.append_toArray, List.nil_append, List.cons_append]
 go_wp2
 rw [<- hp, <- hW1];clear hp hW1
 refine wpIn_wide.1 (rf_H (F := Fence.wide) (n := 6) rfl (by omega) (gf := 112) (lb := #[.pointer (some ⟨Bs, 0, none⟩)]) rfl trivial (enters_of Tryz.func112 (by kernel_rfl) rfl)
  (valI_stops Fence.wide 5 trivial rfl (by omega) Bs p sv zs (by omega) W1 HBS.out (by have := HZ.out; omega) HC.out (by
   obtain ⟨w0, h1, h2, h3⟩ := HI.out
   exact ⟨w0, h1, by rw [HP.out]; exact h2, h3.trans (HB0.out.mono (by rw [HP.out]; exact h2))⟩)) belowK_t (belowK_b (by have := HZ.out; omega)) (Below.refl _ _) (fun _ => rfl)
  (fun pre W => (∃ v, W.heap[p]? = some (.cells #[v] 22 (0, 0)) /\ Slc.Own W (p + 1) 3 1 encI v pre) /\ Below p w W)
  (fun _ _ _ => False)
  (OwnFrom.and (fun s A B row h hg hr => by obtain ⟨v, h1, h2⟩ := h; exact ⟨v, cells_kept h1 hg hr, own_kept h2 hg hr⟩) (ownFrom_below (by have := HP.out; omega) (by have := HZ.out; omega)))
  (fun c s A B row h hg hr => h)
  ⟨⟨_, HR0.out, Slc.Own.nil _ _⟩, HB0.out⟩
  (fun a x a' W => a' = { tmps := (a.tmps.setIfInBounds 7 (.int .i64 x)).setIfInBounds 5 (.int .i64 x), defers := [] })
  (fun x a' s A B row h hg hr => h)
  ?assign ?body ?done ?stop)
 case assign =>
  rintro l' pre x W K' hI hK
  gi_wp2
  exact hK _ _ (KeepsFrom.refl _ _) (Below.refl _ _) hI rfl
 case body =>
  rintro l' pre x a' W hl' hr ⟨⟨v, h1, h2⟩, hB⟩ rfl hlt;simp only [List.setIfInBounds_toArray, List.set_cons_succ, List.set_cons_zero]
  have hc0 := cell_of_row _ _ 0 _ _ _ h1;simp only [List.getElem?_toArray, List.getElem?_cons_zero] at hc0
  have hpl := lt_of_at h1;obtain ⟨av, cv, rfl, -⟩ := h2.rd.form;have hpk : ∀ (o : Obj) (w3 : World), (W.alloc o).grownBy w3 (Value.slice av pre.length cv).ownBlock -> w3.heap[p]? = some (.cells #[.slice av pre.length cv] 22 (0, 0)) := fun o w3 hg => (hg.block p (by simp; omega) (fun e => by have := (h2.lt p e.symm).1; omega)).trans (Rg.alloc_keep h1)
  have H2 := Bx.mk h2;have HB := Bx.mk hB;have HLT := Bx.mk hlt;have HPL := Bx.mk hpl;have HPK := Bx.mk hpk;clear h1 h2 hB hlt hpk;have hen : encI x = [.int .i64 x] := rfl
  gi_wp2_with (gi_at_builtin; refine wpListIn_append_own _ rfl _ _ 22 rfl (p + 1) 3 i0 (.int .i64 0) 1 8 und_ints hi0 hz0 hz1 hz2 rfl (by decide) _ _ _ rfl (H2.out.alloc _) ⟨W.heap.size, 0, none⟩ 1 1 [.int .i64 x] rfl rfl (cell_one_new _ _ _) (by simp [Value.oneCell']) (by have := HLT.out; unfold maxLen; omega) (by have := HLT.out; omega) (by have := HPL.out; simp; omega) ?_; intro v' w3 hown' hg3 hnil3; obtain ⟨g', cap', rfl⟩ := ownsRow_succ hown'; have hp3 := HPK.out _ _ hg3; have hz3 := frozen_row (i := 0) hp3; have hcc3 := cell_of_row _ _ 0 _ _ _ hp3; simp only [List.getElem?_toArray, List.getElem?_cons_zero] at hcc3)
  have hsz3 := hg3.size;have hpl := HPL.out;simp only [World.size_alloc] at hsz3
  have hOW : Slc.Own w3 (p + 1) 3 1 encI (.slice (some ⟨g', 0, none⟩) (pre.length + 1) cap') (pre ++ [x]) := Slc.Own.of hown' (by simp) (by rw [List.flatMap_append]; rfl);have hbw : Below p W w3 := ((Below.refl p W).alloc (by omega) _).grown hg3 (by simp; omega) (fun k hk => by have := (H2.out.lt k hk).1; omega);refine ⟨(((KeepsOthers.alloc _ _).from _).trans ((KeepsOthers.of_grownBy hg3 (fun j o hj ho => own_cells (H2.out.alloc _) j o hj ho)).from _)).trans ((KeepsOthers.setCell _ _ _).from _), hbw.setCell (zR _) _, ⟨_, row_set hp3 _, ?_⟩, (HB.out.trans hbw).setCell (zR _) _⟩;refine hOW.keep fun k hk hlt => heap_setCell_other _ _ _ _ fun e => ?_
  have e : k = p := e;have := (hOW.lt k hk).1;omega
 case done =>
  rintro D ys W hD rfl ⟨⟨v, h1, h2⟩, hB⟩ hK;have hc0 := cell_of_row _ _ 0 _ _ _ h1;simp only [List.getElem?_toArray, List.getElem?_cons_zero] at hc0
  obtain ⟨av, cv, rfl, -⟩ := h2.rd.form;have H2 := Bx.mk h2;have HB := Bx.mk hB;clear h1 h2 hB;go_wp2
  refine ⟨by simp, .inl ⟨_, _, rfl, run_takeDeferred hK, ?_⟩⟩;refine ⟨_, results_tmp rfl _ _ _, _, rfl, ?_, ?_⟩
  ·exact (own_kept (B0 := 0) H2.out (grownBy_putObj' _ D _) (fun r hr => by cases hr; exact ⟨by omega, _, hK, rfl⟩)).mono (by have := HP.out; omega)
  ·rw [<- HP.out];exact HB.out.trans (belowK_b (w := W1) (by have := HZ.out; omega) W D _ _ hD hK rfl rfl)
 case stop =>
  rintro D c pre W hD hS hF;exact hF.elim
theorem holds_ints {w : World} {Bk g n cap : Nat} {l : List Int} (h : Slc.Own w Bk 3 1 encI (.slice (some ⟨g, 0, none⟩) n cap) l) : Holds (Value.int .i64) w g 0 l.toArray := by
 intro i hi;have hi' : i < l.length := by simpa using hi
 have h1 := Slc.Own.cell encI_ok h i hi' 0 (by omega) _ rfl;rw [Nat.mul_one, Nat.add_zero] at h1;refine ⟨?_, ?_⟩
 ·rw [Nat.zero_add, h1, getElem!_pos l.toArray i hi]; simp
 ·rcases h.2 with ⟨h0, hn⟩ | ⟨g', cap', cur, hv, _, hb, _⟩
  ·simp at h0
  ·simp only [Value.slice.injEq, zO, Addr.mk.injEq] at hv
   obtain ⟨⟨rfl, -⟩, -⟩ := hv;simp [World.frozen?, hb]
theorem own_putI {w W : World} {Bk g n cap m k : Nat} {os : Array Obj} {l d : List Int} (h : Slc.Own w Bk 3 1 encI (.slice (some ⟨g, 0, none⟩) n cap) l) (hs : d.length = l.length) (hk : k <= d.length) (hS : W = grow (putRow (Value.int .i64) (Sort.ahead w m) g 0 d.toArray) os) :
  Slc.Own W Bk 3 1 encI (.slice (some ⟨g, 0, none⟩) k cap) (d.take k) /\ w.grownBy W (some g) := by
 subst hS;rcases h.2 with ⟨h0, hn⟩ | ⟨g', cap', cur, hv, hB, hb, hc, hm, hcs, ht⟩
 ·simp at h0
 simp only [Value.slice.injEq, zO, Addr.mk.injEq] at hv
 obtain ⟨⟨rfl, -⟩, rfl, rfl⟩ := hv;have hg : g < w.heap.size := lt_of_some hb
 have hheap : (grow (putRow (Value.int .i64) (Sort.ahead w m) g 0 d.toArray) os).heap[g]? = some (.cells (putCells (Value.int .i64) 0 d.toArray cur) 3 (0, 0)) := by
  unfold putRow;rw [heap_grow_old _ _ (by simpa [mapBlock] using hg)];simp [mapBlock, Sort.ahead, Array.getElem?_modify, hb, onCells]
 have hlk : (d.take k).length = k := by rw [List.length_take]; omega
 refine ⟨⟨by rw [flat_len encI_ok, hlk], .inr ⟨g, cap, putCells (Value.int .i64) 0 d.toArray cur, by rw [hlk], hB, hheap, by rw [hlk]; omega, hm, by simp [putCells, hcs], ?_⟩⟩, ⟨rfl, rfl, rfl, by simp [putRow, mapBlock], fun j hj hne => ?_⟩⟩
 ·rw [hlk, Nat.mul_one];apply List.ext_getElem?
  intro j;rw [encI_int];by_cases hj : j < k
  ·rw [List.getElem?_take_of_lt hj, List.getElem?_map, List.getElem?_take_of_lt hj, Array.getElem?_toList];have h1 : j < cur.size := by omega
   have h2 : j < d.length := by omega
   simp [putCells, h1, h2]
  ·rw [List.getElem?_take_eq_none (by omega), List.getElem?_eq_none (by simp; omega)]
 ·unfold putRow;rw [heap_grow_old _ _ (by simpa [mapBlock] using hj)];have : g ≠ j := fun e => hne (by rw [e])
  simp [mapBlock, Sort.ahead, Array.getElem?_modify, this]
theorem sortI_any (w : World) (Bk : Nat) (v : Value) (l : List Int) (h : Slc.Own w Bk 3 1 encI v l) (hn : l.length <= 1000000) :
  Calls Tryz.prog 111 #[v] w fun e w' => e = .returned (.tuple #[]) /\ Slc.Own w' Bk 3 1 encI v (l.mergeSort fun x y => decide (x <= y)) /\ w.grownBy w' v.ownBlock := by
 obtain ⟨ad, c, rfl, -⟩ := h.rd.form;rcases Nat.eq_zero_or_pos l.length with h0 | hp
 ·obtain rfl : l = [] := List.eq_nil_of_length_eq_zero h0;refine (AnyM.slices_Sort_int_none Tryz.sortI ad c w).mono ?_;rintro e w' ⟨rfl, rfl⟩;exact ⟨rfl, by simpa using h, rfl, rfl, rfl, zR _, fun _ _ _ => rfl⟩
 ·have h' := h;rcases h'.2 with ⟨_, hn0⟩ | ⟨g, cap, cur, hv, hB, hb, -⟩
  ·omega
  simp only [Value.slice.injEq] at hv
  obtain ⟨rfl, -, rfl⟩ := hv;refine (AnyM.slices_Sort_int Tryz.sortI g 0 c l w (holds_ints h) (lt_of_some hb) (by omega)).mono ?_;rintro e w' ⟨rfl, m, os, hW⟩;have hl : (l.mergeSort fun x y => decide (x <= y)).length = l.length := List.length_mergeSort _;have := own_putI (k := l.length) h hl (by omega) hW;rw [List.take_of_length_le (by omega)] at this;exact ⟨rfl, this⟩
theorem sortedI_any (w : World) (Bs : Nat) (sv : Value) (zs : List Int) (hlen : zs.length <= 1000000) (hBs : Bs < w.heap.size) (hc : w.cell? ⟨Bs, 0, none⟩ = some sv) (hI : ∃ w0, Rd w0 encI sv zs /\ w0.heap.size <= w.heap.size /\ Below w0.heap.size w0 w) :
  Calls Tryz.prog 73 #[.func (.func 112) #[] #[.pointer (some ⟨Bs, 0, none⟩)]] w fun e w' => ∃ v, e = .returned v /\ Slc.Own w' w.heap.size 3 1 encI v (zs.mergeSort fun x y => decide (x <= y)) /\ Below w.heap.size w w' := by
 have h1 := apI_any w Bs sv zs hlen hBs hc hI
 have h2 : Calls Tryz.prog 110 #[.func (.func 112) #[] #[.pointer (some ⟨Bs, 0, none⟩)]] w fun e w' => ∃ v, e = .returned v /\ Slc.Own w' w.heap.size 3 1 encI v zs /\ Below w.heap.size w w' := by
  clear hI hc hBs;go_enter Tryz.func110, Tryz.ntmps110;go_wp2_with (go_at_call 127; refine h1.mono ?_; rintro e w' ⟨v, rfl, ho, hb⟩; obtain ⟨av, cv, rfl, -⟩ := ho.rd.form)
  go_ret;exact ⟨_, rfl, ho, hb⟩
 clear h1 hI hc hBs;go_enter Tryz.func73, Tryz.ntmps73;go_wp2_with fail
 go_at_call 110;refine h2.mono ?_;rintro e w1 ⟨v, rfl, ho, hb⟩;have h3 := sortI_any w1 w.heap.size v zs ho hlen;obtain ⟨av, cv, rfl, -⟩ := ho.rd.form;clear h2;go_wp2_with fail
 go_at_call 111;refine h3.mono ?_;rintro e w2 ⟨rfl, ho2, hg2⟩;go_wp2_with fail
 go_ret;exact ⟨_, rfl, ho2, hb.grown hg2 hb.size fun k hk => (ho.lt k hk).1⟩
end Go.Proofs.YtmagjdocondmhaaGreat.Tr.Gr
namespace Go.Proofs.YtmagjdocondmhaaGreat.Tr.Gr
open Go Go.RowKit Slc St Mp Tr Rg
def srtI (l : List Int) : List Int := l.mergeSort fun x y => decide (x <= y)
def resS (has : List B) (above : Int) (l : List Vx) (p : B) : List Vx :=
 if p ∈ has then l
 else if 0 <= fndP l p then l.set (fndP l p).toNat ⟨(l[(fndP l p).toNat]!).pol, (l[(fndP l p).toNat]!).ex, srtI ((l[(fndP l p).toNat]!).par ++ [above])⟩
 else insV l ⟨p, [p], [above]⟩
def resL (has : List B) (above : Int) (l : List Vx) (ks : List B) : List Vx := ks.foldl (resS has above) l
theorem resL_snoc (has : List B) (above : Int) (l : List Vx) (ks : List B) (p : B) : resL has above l (ks ++ [p]) = resS has above (resL has above l ks) p := by
 unfold resL; rw [List.foldl_append]; rfl
def delL (l : List Vx) (i : Nat) : List Vx := l.take i ++ l.drop (i + 1)
def gresG (g : List (List Vx)) (ps : List B) : List (List Vx) :=
 if g.length = 0 \/ ps.length = 0 \/ anyP ∈ ps then g
 else if g.length = 1 \/ fndP (wanG ps g (g.length - 1))[g.length - 1]! anyP < 0 then wanG ps g (g.length - 1)
 else (wanG ps g (g.length - 1)).set (g.length - 1) (resL (hasG ps g (g.length - 1)) (fndP (wanG ps g (g.length - 1))[g.length - 2]! anyP) (delL (wanG ps g (g.length - 1))[g.length - 1]! (fndP (wanG ps g (g.length - 1))[g.length - 1]! anyP).toNat) (setB ps))
def gresP (g : List (List Vx)) (ps : List B) : List (List Vx) × Int := if gvalidB g then (pruneG (gresG g ps), 0) else ([], 7)
def SPG (g : List (List Vx)) : Prop := ∀ k, k + 1 < g.length -> ∀ v ∈ g[k + 1]!, specV v = true -> ∃ p : Nat, (p : Int) ∈ v.par /\ p < (g[k]!).length /\ specV (g[k]!)[p]! = true
theorem gvalid_spg {g : List (List Vx)} (h : gvalidB g = true) : SPG g := by
 intro k hk v hv hs;have h1 := (gvalid_at h k hk).2 v hv;have h2 := (gfit_par h1).2;unfold gfitB at h1;rw [Bool.and_eq_true] at h1;have h3 := h1.2;rw [if_pos hs] at h3;simp only [Bool.and_eq_true, decide_eq_true_eq] at h3
 obtain ⟨p, hp⟩ := List.length_eq_one_iff.1 h3.1;rw [hp] at h3 h2 |-;have h4 := h2.2 p (by simp);refine ⟨p.toNat, ?_, by omega, h3.2.1⟩;rw [Int.toNat_of_nonneg h4.1]; simp
theorem keepT_pre {α : Type} [Inhabited α] (l : List α) (m : List Bool) (k : Nat) : ∀ n, ∃ t, keepT l m (k + n) = keepT l m k ++ t
 | 0 => ⟨[], by simp⟩
 | n + 1 => by
  obtain ⟨t, ht⟩ := keepT_pre l m k n;exact ⟨t ++ if m[k + n]! then [l[k + n]!] else [], by rw [show k + (n + 1) = k + n + 1 by omega, keepT_succ, ht, List.append_assoc]⟩
theorem keepT_at {α : Type} [Inhabited α] {l : List α} {m : List Bool} {p n : Nat} (hp : p < n) (hm : m[p]! = true) : rk m p < (keepT l m n).length /\ (keepT l m n)[rk m p]! = l[p]! := by
 obtain ⟨t, ht⟩ := keepT_pre l m (p + 1) (n - (p + 1));rw [show p + 1 + (n - (p + 1)) = n by omega, keepT_succ, hm, if_pos rfl, List.append_assoc] at ht;have hl := keepT_len l m p;have h1 : rk m p < (keepT l m n).length := by rw [ht, List.length_append, hl]; simp
 refine ⟨h1, ?_⟩;rw [getElem!_pos (keepT l m n) (rk m p) h1];simp only [ht]
 rw [List.getElem_append_right (by rw [hl]; exact zR _)];simp [hl, -List.getElem!_eq_getElem?_getD]
theorem spec_ren (m : List Bool) (v : Vx) : specV (renV m v) = specV v := rfl
theorem spec_wan (ps : List B) (st : Int) (v : Vx) : specV (wanV ps st v) = specV v := by unfold wanV; split <;> rfl
theorem wan_spec (ps : List B) (st : Int) {v : Vx} (h : specV v = true) : wanV ps st v = v := by
 unfold wanV hitV; rw [h]; rfl
theorem SPG.set {g : List (List Vx)} (h : SPG g) {k : Nat} (hk : k < g.length) (ps : List B) (st : Int) : SPG (g.set k (wanL ps st g[k]!)) := by
 have hat : ∀ j, j < g.length -> (g.set k (wanL ps st g[k]!))[j]! = if j = k then wanL ps st g[k]! else g[j]! := fun j hj => by
  rw [getElem!_pos _ j (by simpa using hj), List.getElem_set];by_cases e : k = j
  ·rw [if_pos e, if_pos e.symm]
  ·rw [if_neg e, if_neg (fun q => e q.symm), getElem!_pos g j hj]
 have hsp : ∀ j, j < g.length -> ∀ p, p < (g[j]!).length -> specV (g[j]!)[p]! = true -> p < ((g.set k (wanL ps st g[k]!))[j]!).length /\ specV ((g.set k (wanL ps st g[k]!))[j]!)[p]! = true := fun j hj p hp hs => by
  rw [hat j hj];by_cases e : j = k
  ·subst e;rw [if_pos rfl];unfold wanL;refine ⟨by rw [List.length_map]; exact hp, ?_⟩;rw [getElem!_pos _ p (by rw [List.length_map]; exact hp), List.getElem_map, spec_wan];rwa [getElem!_pos _ p hp] at hs
  ·rw [if_neg e]; exact ⟨hp, hs⟩
 intro j hj v hv hs;rw [zL] at hj;rw [hat (j + 1) hj] at hv
 have hv' : v ∈ g[j + 1]! := by
  by_cases e : j + 1 = k
  ·rw [if_pos e] at hv;unfold wanL at hv;obtain ⟨u, hu, rfl⟩ := List.mem_map.1 hv;rw [spec_wan] at hs;rw [wan_spec ps st hs, e]; exact hu
  ·rw [if_neg e] at hv; exact hv
 obtain ⟨p, h1, h2, h3⟩ := h j hj v hv' hs;obtain ⟨h4, h5⟩ := hsp j (by omega) p h2 h3;exact ⟨p, h1, h4, h5⟩
theorem SPG.filt {g : List (List Vx)} (h : SPG g) {k : Nat} (hk : k < g.length) (hk0 : 0 < k) : SPG (filtG g k (marksA g[k]!)) := by
 intro j hj v hv hs;rw [filtG_len] at hj;rw [filtG_at hk (j + 1)] at hv;rw [filtG_at hk j];by_cases e1 : j + 1 = k
 ·rw [if_pos e1] at hv;rw [if_neg (by omega), if_neg (by omega)];have hv' := keepT_mem (zR _) hv;rw [<- e1] at hv';exact h j hj v hv' hs
 ·rw [if_neg e1] at hv;by_cases e2 : j + 1 = k + 1
  ·rw [if_pos e2] at hv;have e3 : j = k := by omega
   subst e3;rw [if_pos rfl];obtain ⟨u, hu, rfl⟩ := List.mem_map.1 hv;rw [spec_ren] at hs;obtain ⟨p, h1, h2, h3⟩ := h j hj u hu hs
   have hmk : (marksA g[j]!)[p]! = true := by
    rw [marksA_at _ p h2];obtain ⟨i, rfl⟩ : ∃ i, j = i + 1 := ⟨j - 1, by omega⟩
    have hmem : (g[i + 1]!)[p]! ∈ g[i + 1]! := (by rw [getElem!_pos _ p h2]; exact zM h2);obtain ⟨q, hq, -⟩ := h i (by omega) _ hmem h3;exact zT (List.length_pos_of_mem hq)
   obtain ⟨h4, h5⟩ := keepT_at (l := g[j]!) h2 hmk;refine ⟨rk (marksA g[j]!) p, ?_, h4, by rw [h5]; exact h3⟩;unfold renV renP;refine List.mem_map.2 ⟨(p : Int), List.mem_filter.2 ⟨h1, ?_⟩, ?_⟩
   ·rw [Int.toNat_natCast]; exact hmk
   ·rw [Int.toNat_natCast]
  ·rw [if_neg e2] at hv;rw [if_neg (by omega)];obtain ⟨p, h1, h2, h3⟩ := h j hj v hv hs;by_cases e4 : j = k + 1
   ·rw [if_pos e4];refine ⟨p, h1, by rw [List.length_map]; exact h2, ?_⟩;rw [getElem!_pos _ p (by rw [List.length_map]; exact h2), List.getElem_map, spec_ren];rwa [getElem!_pos _ p h2] at h3
   ·rw [if_neg e4]; exact ⟨p, h1, h2, h3⟩
theorem set_at_self {g : List (List Vx)} {k : Nat} (hk : k < g.length) (l : List Vx) : (g.set k l)[k]! = l := by
 rw [getElem!_pos _ k (by simpa using hk), List.getElem_set_self]
theorem wanG_spg {g : List (List Vx)} (h : SPG g) (ps : List B) : ∀ n, n < g.length \/ n = 0 -> SPG (wanG ps g n)
 | 0, _ => h
 | n + 1, hn => by
  have h1 := wanG_spg h ps n (by omega);have hk : n + 1 < (wanG ps g n).length := by rw [wanG_len]; omega
  rw [wanG];unfold wanK;have h2 := (h1.set hk ps (fndP (wanG ps g n)[n + 1 - 1]! anyP)).filt (k := n + 1) (by rw [zL]; exact hk) (by omega);rw [set_at_self hk] at h2;exact h2
theorem SPG.star {g : List (List Vx)} (h : SPG g) {k : Nat} (hk : k + 1 < g.length) (hs : 0 <= fndP g[k + 1]! anyP) : 0 <= fndP g[k]! anyP := by
 obtain ⟨j, hj, -, hp, -⟩ := fndP_some hs;obtain ⟨p, -, h2, h3⟩ := h k hk (g[k + 1]!)[j]! (by rw [getElem!_pos _ j hj]; exact zM hj) (by unfold specV; exact zT hp);rw [getElem!_pos _ p h2] at h3;exact fndP_has (zM h2) (of_decide_eq_true h3)
def PB (K : Nat) (g : List (List Vx)) : Prop := ∀ l ∈ g, ∀ v ∈ l, v.par.length <= K
theorem PB.filt {K : Nat} {g : List (List Vx)} (h : PB K g) {k : Nat} (hk : k < g.length) (m : List Bool) : PB K (filtG g k m) := by
 have hg : ∀ (j : Nat), ∀ v ∈ g[j]!, v.par.length <= K := fun j v hv => by
  by_cases hj : j < g.length
  ·rw [getElem!_pos g j hj] at hv; exact h _ (zM hj) v hv
  ·rw [getElem!_neg g j hj] at hv; cases hv
 intro l hl v hv;obtain ⟨j, hj, rfl⟩ := List.getElem_of_mem hl;rw [<- getElem!_pos (filtG g k m) j hj, filtG_at hk j] at hv;split at hv
 ·rename_i e
  exact hg k v (keepT_mem (zR _) hv)
 ·split at hv
  ·obtain ⟨u, hu, rfl⟩ := List.mem_map.1 hv;exact Nat.le_trans (renP_len _ _) (hg j u hu)
  ·exact hg j v hv
theorem PB.set {K : Nat} {g : List (List Vx)} (h : PB K g) (k : Nat) {l : List Vx} (hl : ∀ v ∈ l, v.par.length <= K) : PB K (g.set k l) := fun m hm v hv => by
 rcases List.mem_or_eq_of_mem_set hm with q | rfl
 ·exact h m q v hv
 ·exact hl v hv
theorem wanV_plen (ps : List B) (st : Int) (v : Vx) : (wanV ps st v).par.length <= v.par.length := by
 unfold wanV;split
 ·exact List.length_filter_le _ _
 ·exact zR _
theorem wanG_pb {K : Nat} {g : List (List Vx)} (h : PB K g) (ps : List B) : ∀ n, n < g.length \/ n = 0 -> PB K (wanG ps g n)
 | 0, _ => h
 | n + 1, hn => by
  have h1 := wanG_pb h ps n (by omega);have hk : n + 1 < (wanG ps g n).length := by rw [wanG_len]; omega
  rw [wanG];unfold wanK;refine (h1.set (n + 1) fun v hv => ?_).filt (by rw [zL]; exact hk) _;unfold wanL at hv;obtain ⟨u, hu, rfl⟩ := List.mem_map.1 hv;rw [getElem!_pos _ (n + 1) hk] at hu;exact Nat.le_trans (wanV_plen ps _ u) (h1 _ (zM hk) u hu)
theorem resS_par {has : List B} {above : Int} {l : List Vx} {p : B} {v : Vx} (h : v ∈ resS has above l p) : ∃ u, (u ∈ l \/ u.par = []) /\ (v.par = u.par \/ v.par = srtI (u.par ++ [above])) := by
 unfold resS at h;split at h
 ·exact ⟨v, .inl h, .inl rfl⟩
 ·split at h
  ·rename_i h0
   obtain ⟨k, hk, he, -⟩ := fndP_some h0;rcases List.mem_or_eq_of_mem_set h with q | rfl
   ·exact ⟨v, .inl q, .inl rfl⟩
   ·refine ⟨l[k]!, .inl ?_, .inr ?_⟩
    ·rw [getElem!_pos l k hk]; exact zM hk
    ·rw [he, Int.toNat_natCast]
  ·rcases insV_mem h with q | rfl
   ·exact ⟨v, .inl q, .inl rfl⟩
   ·exact ⟨⟨[], [], []⟩, .inr rfl, .inr (by simp [srtI])⟩
theorem srtI_mem {l : List Int} {x : Int} : x ∈ srtI l ↔ x ∈ l := by unfold srtI; exact List.mem_mergeSort
theorem srtI_len (l : List Int) : (srtI l).length = l.length := by unfold srtI; exact List.length_mergeSort _
theorem resS_len (has : List B) (above : Int) (l : List Vx) (p : B) : (resS has above l p).length <= l.length + 1 := by
 unfold resS;split
 ·omega
 ·split
  ·rw [zL]; omega
  ·rw [insV_len]; omega
theorem resL_len (has : List B) (above : Int) : ∀ (ks : List B) (l : List Vx), (resL has above l ks).length <= l.length + ks.length
 | [], l => by simp [resL]
 | p :: ks, l => by
  have h1 := resL_len has above ks (resS has above l p);have h2 := resS_len has above l p;have e : resL has above l (p :: ks) = resL has above (resS has above l p) ks := rfl;rw [e, List.length_cons]; omega
theorem resL_par {has : List B} {above : Int} {n : Nat} (ha : 0 <= above /\ above < (n : Int)) : ∀ (ks : List B) (l : List Vx) (K : Nat), (∀ v ∈ l, v.par.length <= K /\ ∀ p ∈ v.par, 0 <= p /\ p < (n : Int)) -> ∀ v ∈ resL has above l ks, v.par.length <= K + ks.length /\ ∀ p ∈ v.par, 0 <= p /\ p < (n : Int)
 | [], l, K, h, v, hv => ⟨Nat.le_trans (h v hv).1 (by simp), (h v hv).2⟩
 | q :: ks, l, K, h, v, hv => by
  have hs : ∀ u ∈ resS has above l q, u.par.length <= K + 1 /\ ∀ p ∈ u.par, 0 <= p /\ p < (n : Int) := fun u hu => by
   obtain ⟨z, hz, e⟩ := resS_par hu
   have hz' : z.par.length <= K /\ ∀ p ∈ z.par, 0 <= p /\ p < (n : Int) := by
    rcases hz with hz | hz
    ·exact h z hz
    ·rw [hz]; exact ⟨by simp, fun p hp => by cases hp⟩
   rcases e with e | e
   ·rw [e]; exact ⟨by omega, hz'.2⟩
   ·rw [e, srtI_len, List.length_append];refine ⟨by simp; exact hz'.1, fun p hp => ?_⟩;rw [srtI_mem, List.mem_append] at hp;rcases hp with hp | hp
    ·exact hz'.2 p hp
    ·rw [zS] at hp; subst hp; exact ha
  have h2 := resL_par ha ks (resS has above l q) (K + 1) hs v hv;rw [List.length_cons];exact ⟨by have := h2.1; omega, h2.2⟩
theorem delL_mem {l : List Vx} {i : Nat} {v : Vx} (h : v ∈ delL l i) : v ∈ l := by
 unfold delL at h;rcases List.mem_append.1 h with q | q
 ·exact List.mem_of_mem_take q
 ·exact List.mem_of_mem_drop q
theorem delL_len (l : List Vx) (i : Nat) : (delL l i).length <= l.length := by
 unfold delL;rw [List.length_append, List.length_take, List.length_drop]; omega
def lackM (n k : Nat) : List Bool := (List.range n).map fun j => decide (j ≠ k)
theorem lackM_at {n k j : Nat} (hj : j < n) : (lackM n k)[j]! = decide (j ≠ k) := by
 unfold lackM;rw [getElem!_pos _ j (by simpa using hj)]; simp
theorem rk_lack {n k : Nat} : ∀ p, p <= n -> rk (lackM n k) p = if p <= k then p else p - 1
 | 0, _ => by rw [rk_zero]; simp
 | p + 1, h => by
  rw [rk_succ, rk_lack p (by omega), lackM_at (by omega)];by_cases e : p = k
  ·subst e; simp
  ·rw [zT e];simp only [if_true]
   split <;> split <;> omega
def renD (k : Nat) : List Int -> List Int
 | [] => []
 | p :: l => (if p < (k : Int) then [p] else if p > (k : Int) then [p - 1] else []) ++ renD k l
theorem renP_cons (m : List Bool) (p : Int) (l : List Int) : renP m (p :: l) = (if m[p.toNat]! then [((rk m p.toNat : Nat) : Int)] else []) ++ renP m l := by
 unfold renP;rw [List.filter_cons];split <;> simp
theorem renP_lack {n k : Nat} : ∀ (l : List Int), (∀ p ∈ l, 0 <= p /\ p < (n : Int)) -> renP (lackM n k) l = renD k l
 | [], _ => rfl
 | p :: l, h => by
  rw [renP_cons, renD, renP_lack l fun q hq => h q (List.mem_cons_of_mem _ hq)];obtain ⟨h0, h1⟩ := h p List.mem_cons_self;congr 1
  rw [lackM_at (by omega), rk_lack p.toNat (by omega)];by_cases e : p = (k : Int)
  ·rw [zF (by omega), if_neg (by omega : ¬ p < (k : Int)), if_neg (by omega : ¬ p > (k : Int))]; rfl
  ·rw [zT (by omega : p.toNat ≠ k)];simp only [if_true]
   by_cases q : p < (k : Int)
   ·rw [if_pos q, if_pos (by omega)]; congr 1; omega
   ·rw [if_neg q, if_pos (by omega : p > (k : Int)), if_neg (by omega)]; congr 1; omega
theorem keepT_lackK (l : List Vx) (k : Nat) : ∀ j, j <= l.length -> keepT l (lackM l.length k) j = if j <= k then l.take j else l.take k ++ (l.drop (k + 1)).take (j - (k + 1))
 | 0, _ => by simp [keepT]
 | j + 1, h => by
  have hj : j < l.length := by omega
  rw [keepT_succ, keepT_lackK l k j (by omega), lackM_at hj, getElem!_pos l j hj];by_cases e : j = k
  ·subst e;rw [if_pos (zR _), if_neg (by omega : ¬ j + 1 <= j)];simp
  ·rw [zT e];simp only [if_true]
   by_cases q : j <= k
   ·rw [if_pos q, if_pos (by omega : j + 1 <= k), zA hj]
   ·rw [if_neg q, if_neg (by omega : ¬ j + 1 <= k), show j + 1 - (k + 1) = (j - (k + 1)) + 1 by omega, zA (by rw [List.length_drop]; omega), List.append_assoc];congr 2
    rw [List.getElem_drop];congr 2
    omega
theorem keepT_lack (l : List Vx) (k : Nat) (hk : k < l.length) : keepT l (lackM l.length k) l.length = delL l k := by
 rw [keepT_lackK l k l.length (zR _), if_neg (by omega)];unfold delL;congr 1
 exact List.take_of_length_le (by rw [List.length_drop]; omega)
def dropG (g : List (List Vx)) (i k : Nat) : List (List Vx) :=
 if i + 1 < g.length then (g.set i (delL g[i]! k)).set (i + 1) ((g[i + 1]!).map fun v => ⟨v.pol, v.ex, renD k v.par⟩) else g.set i (delL g[i]! k)
theorem dropG_filt {g : List (List Vx)} (h : PG g) {i k : Nat} (hk : k < (g[i]!).length) : dropG g i k = filtG g i (lackM (g[i]!).length k) := by
 unfold dropG filtG;rw [keepT_lack _ k hk];split
 ·rename_i h1
  congr 1
  apply List.map_congr_left
  intro v hv;unfold renV;rw [renP_lack v.par (h.par i h1 v hv)]
 ·rfl
end Go.Proofs.YtmagjdocondmhaaGreat.Tr.Gr
