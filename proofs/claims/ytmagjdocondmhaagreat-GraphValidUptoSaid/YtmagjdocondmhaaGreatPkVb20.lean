/- packed -/
import Derived.Test.YtmagjdocondmhaaGreatPkVb19
import Derived.Test.YtmagjdocondmhaaGreatPkVb02
set_option linter.unusedVariables false
set_option linter.unusedSimpArgs false
namespace Go.Proofs.YtmagjdocondmhaaGreat.Tr.Gr
open Go Go.RowKit Go.Proofs.YtmagjdocondmhaaGreat.Slc Go.Proofs.YtmagjdocondmhaaGreat.St Go.Proofs.YtmagjdocondmhaaGreat.Mp Go.Proofs.YtmagjdocondmhaaGreat.Tr Go.Proofs.YtmagjdocondmhaaGreat.Rg
attribute [local go_sem] Oper.semAt_some
structure GI (G : List (List Vx)) (n b : Nat) : Prop where
 val : gvalidB G = true
 len : G.length ≤ n + 1
 lev : ∀ l ∈ G, l.length ≤ b ∧ ∀ v ∈ l, v.ex.length ≤ 5
theorem GI.at_ {G : List (List Vx)} {n b : Nat} (h : GI G n b) (k : Nat) : (G[k]!).length ≤ b ∧ ∀ v ∈ G[k]!, v.ex.length ≤ 5 := by
 by_cases hk : k < G.length
 ·rw [getElem!_pos G k hk]; exact h.lev _ (List.getElem_mem hk)
 ·rw [getElem!_neg G k hk]; exact ⟨Nat.zero_le _, fun v hv => by cases hv⟩
theorem GI.mono {G : List (List Vx)} {n b n' b' : Nat} (h : GI G n b) (hn : n ≤ n') (hb : b ≤ b') : GI G n' b' := ⟨h.val, Nat.le_trans h.len (by omega), fun l hl => ⟨Nat.le_trans (h.lev l hl).1 hb, (h.lev l hl).2⟩⟩
theorem GI.nil (n b : Nat) : GI [] n b := ⟨rfl, Nat.zero_le _, fun l hl => by cases hl⟩
theorem GI.root (n b : Nat) (hb : 1 ≤ b) : GI rootG n b := ⟨by kernel_rfl, by show 1 ≤ n + 1; omega, fun l hl => by
 unfold rootG at hl
 rw [List.mem_singleton] at hl
 subst hl
 refine ⟨hb, fun v hv => ?_⟩
 rw [List.mem_singleton] at hv
 subst hv
 show 1 ≤ 5
 omega⟩
theorem GI.prune {g : List (List Vx)} {n b : Nat} (hv : gvalidB (pruneG g) = true) (hl : g.length ≤ n + 1) (h : ∀ (k : Nat), (g[k]!).length ≤ b ∧ ∀ v ∈ g[k]!, v.ex.length ≤ 5) : GI (pruneG g) n b := by
 rcases pruneG_sub g with e | ⟨e1, e2⟩
 ·rw [e]; exact GI.nil _ _
 ·refine ⟨hv, by omega, fun l hm => ?_⟩
  obtain ⟨k, hk, rfl⟩ := List.getElem_of_mem hm
  have hs := e2 k
  rw [getElem!_pos _ k hk] at hs
  refine ⟨Nat.le_trans hs.1 (h k).1, fun v hv => ?_⟩
  obtain ⟨u, hu, -, e⟩ := hs.2 v hv
  rw [e]; exact (h k).2 u hu
theorem allJ_five {l : List Vx} (h : ∀ v ∈ l, v.ex.length ≤ 5) : ∀ k, k ≤ l.length → (allJ l k).length ≤ 5 * k
 | 0, _ => by simp [allJ]
 | k + 1, hk => by
  rw [allJ_succ]
  have h1 := allJ_five h k (by omega)
  have h2 := h l[k]! (by rw [getElem!_pos l k (by omega)]; exact List.getElem_mem _)
  omega
theorem GI.enter {G : List (List Vx)} {n b : Nat} (h : GI G n b) (ps : List B) (hp : ps.length ≤ 5) (cnt : Bool) : GI (genterP G ps cnt).1 (n + 1) (5 * b + 5) := by
 have hv := enter_valid h.val ps cnt
 unfold genterP at hv ⊢
 rw [h.val] at hv ⊢
 simp only [if_true] at hv ⊢
 split
 ·exact GI.nil _ _
 ·rename_i h0
  rw [if_neg h0] at hv
  refine GI.prune hv (by rw [List.length_append, List.length_singleton]; have := h.len; omega) fun k => ?_
  by_cases hk : k < G.length
  ·rw [getElem!_pos _ k (by rw [List.length_append]; omega), List.getElem_append_left hk]
   have := h.lev _ (List.getElem_mem hk)
   exact ⟨by omega, this.2⟩
  ·by_cases hk2 : k = G.length
   ·subst hk2
    rw [getElem!_pos _ _ (by rw [List.length_append]; simp), List.getElem_append_right (Nat.le_refl _)]
    simp only [Nat.sub_self, List.getElem_cons_zero]
    have hL := h.at_ (G.length - 1)
    have h1 := keyL_len G[G.length - 1]! ps cnt
    have h2 := allJ_five hL.2 _ (Nat.le_refl _)
    unfold levP
    rw [List.length_map]
    refine ⟨by omega, fun v hv' => ?_⟩
    obtain ⟨p, -, rfl⟩ := List.mem_map.1 hv'
    show 1 ≤ 5
    omega
   ·rw [getElem!_neg _ k (by rw [List.length_append, List.length_singleton]; omega)]
    exact ⟨Nat.zero_le _, fun v hv' => by cases hv'⟩
theorem mapS_ex {ms : List (B × B)} {star above : Int} {l : List Vx} {p : B} {E : Nat} (h : ∀ v ∈ l, v.ex.length ≤ E) (hs : ∀ q, (subL ms q).length ≤ E) : ∀ v ∈ mapS ms star above l p, v.ex.length ≤ E := by
 intro v hv
 unfold mapS at hv
 split at hv
 ·rcases List.mem_or_eq_of_mem_set hv with q | rfl
  ·exact h v q
  ·exact hs p
 ·split at hv
  ·rcases insV_mem hv with q | rfl
   ·exact h v q
   ·exact hs p
  ·exact h v hv
theorem mapL_ex {ms : List (B × B)} {star above : Int} {E : Nat} (hs : ∀ q, (subL ms q).length ≤ E) : ∀ (ks : List B) {l : List Vx}, (∀ v ∈ l, v.ex.length ≤ E) → ∀ v ∈ mapL ms star above l ks, v.ex.length ≤ E
 | [], _, h => h
 | p :: ks, _, h => mapL_ex hs ks (mapS_ex (p := p) h hs)
theorem GI.map {G : List (List Vx)} {n b : Nat} (h : GI G n b) (ms : List (B × B)) (hm : ms.length ≤ 5) (ok : Bool) : GI (gmapP G ms ok).1 n (b + 5) := by
 have hv := map_valid h.val ms ok
 unfold gmapP at hv ⊢
 split
 ·rename_i h1
  rw [if_pos h1] at hv
  split
  ·exact GI.nil _ _
  ·rename_i h0
   rw [if_neg h0] at hv
   refine GI.prune hv (by rw [List.length_set]; exact h.len) fun k => ?_
   by_cases hk : k = G.length - 1
   ·subst hk
    rw [getElem!_pos _ _ (by rw [List.length_set]; omega), List.getElem_set_self]
    have hL := h.at_ (G.length - 1)
    unfold gmapL
    split
    ·have h1 := mapL_len ms (fndP G[G.length - 1]! anyP) (fndP G[G.length - 2]! anyP) (srcL ms) G[G.length - 1]!
     have h2 := srcL_len ms
     exact ⟨by omega, mapL_ex (fun q => Nat.le_trans (subL_le ms q) hm) _ hL.2⟩
    ·exact ⟨Nat.le_trans (List.length_filter_le _ _) (by omega), fun v hv' => hL.2 v (List.mem_filter.1 hv').1⟩
   ·have e : (G.set (G.length - 1) (gmapL G ms ok))[k]! = G[k]! := by
     by_cases hk2 : k < G.length
     ·rw [getElem!_pos _ k (by rw [List.length_set]; exact hk2), getElem!_pos G k hk2, List.getElem_set_ne (by omega)]
     ·rw [getElem!_neg _ k (by rw [List.length_set]; exact hk2), getElem!_neg G k hk2]
    rw [e]
    have := h.at_ k
    exact ⟨by omega, this.2⟩
 ·exact GI.nil _ _
def bndG : Nat → Nat
 | 0 => 1
 | k + 1 => 5 * bndG k + 10
structure TDG (w : World) (v : Value) (zs : List Int) (g : Nat) (wr : World) (tv : Value) (l : List Lv) : Prop where
 tr : GO wr (g + 1) tv l
 nq : NQ (g + 1) l
 dk : Deck w v zs wr g
 bel : Below w.heap.size w wr
theorem GO.deck {w w' : World} {g Bk : Nat} {tv : Value} {l : List Lv} (h : GO w Bk tv l) (hq : NQ Bk l) (hg : w.grownBy w' (some g)) (hgB : g < Bk) : GO w' Bk tv l :=
 h.keep hg.size fun k hk hkk => hg.block k hk fun e => by
  simp only [Option.some.injEq] at e
  rcases hkk with q | ⟨L, hL, x, hx, q⟩
  ·have := (h.lt q).1; omega
  ·have := hq L hL x hx k q; omega
section
variable {w : World} {v : Value} {zs : List Int} {g : Nat} {wr w' : World} {tv tv' : Value} {l l' : List Lv}
theorem TDG.grow (h : TDG w v zs g wr tv l) (hg : wr.grownBy w' (some g)) (hd : Deck w v zs w' g) : TDG w v zs g w' tv l :=
 ⟨h.tr.deck h.nq hg (Nat.lt_succ_self g), h.nq, hd, h.bel.grown hg h.bel.size fun k hk => by simp only [Option.some.injEq] at hk; have := h.dk.ge; omega⟩
theorem TDG.next (h : TDG w v zs g wr tv l) (ht : GO w' wr.heap.size tv' l') (hq : NQ wr.heap.size l') (hb : Below wr.heap.size wr w') : TDG w v zs g w' tv' l' :=
 ⟨ht.mono h.dk.lt, hq.mono h.dk.lt, h.dk.below hb, h.bel.trans (hb.mono h.bel.size)⟩
end
theorem GI.lens {l : List Lv} {n b : Nat} (h : GI (gxs l) n b) : l.length ≤ n + 1 ∧ ∀ L ∈ l, L.vs.length ≤ b ∧ (allJ (vxs L.vs) L.vs.length).length ≤ 5 * b := by
 refine ⟨by have := h.len; rwa [gxs_len] at this, fun L hL => ?_⟩
 have h1 := h.lev (vxs L.vs) (List.mem_map.2 ⟨L, hL, rfl⟩)
 rw [vxs_len] at h1
 have h2 := allJ_five h1.2 L.vs.length (by rw [vxs_len]; exact Nat.le_refl _)
 exact ⟨h1.1, by omega⟩
set_option maxRecDepth 100000 in
set_option maxHeartbeats 16000000 in
theorem ggrown_any (w : World) (v : Value) (zs : List Int) (w1 : World) (g : Nat) (hd : Deck w v zs w1 g) (hb : Below w.heap.size w w1) :
  Calls Tryz.prog 13 #[.pointer (some ⟨g, 0, none⟩), .int .i64 4] w1 fun e w' => ∃ (tv : Value) (l : List Lv), e = .returned tv ∧ TDG w v zs g w' tv l ∧ GI (gxs l) 4 2200 := by
 have hroot := rgroot_any w1
 have HD1 := Bx.mk hd
 have HB1 := Bx.mk hb
 clear hd hb
 go_enter Tryz.func13, Tryz.ntmps13
 go_wp2_with fail
 go_at_call 21
 refine hroot.mono ?_
 rintro e w2 ⟨tv, l, rfl, ho, hn, hb, hq⟩
 clear hroot
 have HT2 := Bx.mk (show TDG w v zs g w2 tv l from ⟨ho.mono HD1.out.lt, hq.mono HD1.out.lt, HD1.out.below hb, HB1.out.trans (hb.mono HB1.out.size)⟩)
 have HI2 := Bx.mk (show GI (gxs l) 0 (bndG 0) by rw [hn]; exact GI.root 0 1 (Nat.le_refl _))
 have hnx := next_any w v zs w2 g 5 HT2.out.dk (by omega) (by omega)
 obtain ⟨a2, c2, hv2, -⟩ := ho.own.rd.form
 subst hv2
 clear ho hn hb hq HD1 HB1
 go_wp2_with fail
 refine hnx.mono ?_
 rintro e w3 ⟨r, rfl, hr0, hr1, hD3, hg3⟩
 clear hnx
 have HT3 := Bx.mk (HT2.out.grow hg3 hD3)
 clear hD3 hg3 HT2
 obtain ⟨n, rfl⟩ : ∃ n : Nat, r = (n : Int) := ⟨r.toNat, by omega⟩
 have hn4 : n ≤ 4 := by omega
 clear hr0 hr1
 obtain ⟨LN, hLN⟩ : ∃ LN, LN = l.length := ⟨_, rfl⟩
 have HLN := Bx.mk hLN
 rw [← hLN] at HT3 ⊢
 clear hLN
 go_wp2_with fail
 go_loopw [5, 6] (fun tv iv wr => ∃ (l : List Lv) (k m : Nat), k + m = n ∧ iv = .int .i64 m ∧ Bx (TDG w v zs g wr tv l) ∧ Bx (GI (gxs l) k (bndG k))) (fun _ iv _ => (intOf iv).toNat)
 case atStart => exact ⟨l, 0, n, by omega, rfl, HT3, HI2⟩
 case round =>
  clear HT3 HI2 HLN
  obtain ⟨l, k, m, hkm, rfl, hT, hI⟩ := hrel
  obtain ⟨ta, tc, htv, -⟩ := hT.out.tr.own.rd.form
  obtain ⟨LN, hLN⟩ : ∃ LN, LN = l.length := ⟨_, rfl⟩
  rw [← hLN] at htv
  subst htv
  have HLN := Bx.mk hLN
  clear hLN
  have HBK := Bx.mk (show bndG k ≤ 2200 from by
   have : k = 0 ∨ k = 1 ∨ k = 2 ∨ k = 3 ∨ k = 4 := by omega
   rcases this with rfl | rfl | rfl | rfl | rfl <;> decide)
  cases m with
  | zero =>
   have t1 : decide (((0 : Nat) : Int) > 0) = false := rfl
   have HIF := Bx.mk (hI.out.mono (n' := 4) (b' := 2200) (by omega) HBK.out)
   go_wp2_with fail
   go_ret
   exact ⟨_, l, rfl, hT.out, HIF.out⟩
  | succ m =>
   have hk3 : k < 4 := by omega
   have hm4 : m ≤ 4 := by omega
   have t1 : decide (((m + 1 : Nat) : Int) > 0) = true := decide_eq_true (by omega)
   have HBS := Bx.mk (show 5 * bndG k + 10 ≤ 2200 from by
    have : k = 0 ∨ k = 1 ∨ k = 2 ∨ k = 3 := by omega
    rcases this with rfl | rfl | rfl | rfl <;> decide)
   have hpo := policies_any w v zs wr g 4 hT.out.dk (by omega)
   go_wp2_with fail
   go_at_call 22
   refine hpo.mono ?_
   rintro e w4 ⟨pv, ps, rfl, hM, hpl, hpx⟩
   clear hpo
   have HT4 := Bx.mk (hT.out.grow hM.gr hM.dk)
   have hnx := next_any w v zs w4 g 3 hM.dk (by omega) (by omega)
   have hgl : g < wr.heap.size := hT.out.dk.lt
   have HM4 := Bx.mk hM.own
   have HPX := Bx.mk (show ∀ p ∈ ps, p.length ≤ 1000000 from fun p hp => by have := hpx p hp; omega)
   obtain ⟨pa, pc, rfl, -⟩ := hM.own.rd.form
   clear hM hpx hT
   go_wp2_with fail
   refine hnx.mono ?_
   rintro e w5 ⟨r5, rfl, a5, b5, hD5, hg5⟩
   clear hnx
   have HT5 := Bx.mk (HT4.out.grow hg5 hD5)
   have hlens := hI.out.lens
   have hent := fun cb => rgenter_any w5 _ (.slice pa ps.length pc) l ps HT5.out.tr.gl.q (own_grown HM4.out hg5 hgl).rd (by omega) (fun L hL => by have := (hlens.2 L hL).1; have := HBK.out; omega) (fun L hL => by have := (hlens.2 L hL).2; have := HBK.out; omega) (by omega) HPX.out cb
   have HGI := Bx.mk (fun cb => hI.out.enter ps (by omega) cb)
   clear hD5 hg5 HM4 HT4 HPX hpl hgl hlens
   go_wp2_with fail
   go_at_call 24
   refine (hent _).mono ?_
   rintro e w6 ⟨v6, l6, rfl, ho6, hx6, hb6, hq6⟩
   have HI6 := Bx.mk (show GI (gxs l6) (k + 1) (5 * bndG k + 5) by rw [hx6]; exact HGI.out _)
   have HT6 := Bx.mk (HT5.out.next ho6 hq6 hb6)
   obtain ⟨a6, c6, hv6, -⟩ := ho6.own.rd.form
   obtain ⟨L6, hL6⟩ : ∃ L6, L6 = l6.length := ⟨_, rfl⟩
   rw [← hL6] at hv6
   subst hv6
   have hnx := next_any w v zs w6 g 2 HT6.out.dk (by omega) (by omega)
   generalize (genterP (gxs l) ps _).2 = EE at *
   clear hent HGI ho6 hx6 hb6 hq6 HT5 hI hL6 a5 b5
   go_wp2_with fail
   refine hnx.mono ?_
   rintro e w7 ⟨r7, rfl, a7, b7, hD7, hg7⟩
   clear hnx
   have HT7 := Bx.mk (HT6.out.grow hg7 hD7)
   clear hD7 hg7 HT6
   by_cases h7 : r7 = 1
   ·have t7 : (r7 == 1) = true := by simpa using h7
    have hpo := mappings_any w v zs w7 g 4 HT7.out.dk (by omega)
    clear h7 a7 b7
    go_wp2_with fail
    go_at_call 25
    refine hpo.mono ?_
    rintro e w8 ⟨mv, ms, rfl, hM, hml, hmx⟩
    clear hpo
    have HT8 := Bx.mk (HT7.out.grow hM.gr hM.dk)
    have hnx := next_any w v zs w8 g 5 hM.dk (by omega) (by omega)
    have hgl : g < w7.heap.size := HT7.out.dk.lt
    have HM8 := Bx.mk hM.own
    have HMX := Bx.mk (show ∀ m ∈ ms, m.1.length ≤ 1000000 ∧ m.2.length ≤ 1000000 from fun m hm => by have := hmx m hm; omega)
    obtain ⟨ma, mc, rfl, -⟩ := hM.own.rd.form
    clear hM hmx HT7
    go_wp2_with fail
    refine hnx.mono ?_
    rintro e w9 ⟨r9, rfl, a9, b9, hD9, hg9⟩
    clear hnx
    have HT9 := Bx.mk (HT8.out.grow hg9 hD9)
    have hlens := HI6.out.lens
    have hmap := fun cb => rgmap_any w9 _ (.slice ma ms.length mc) l6 ms HT9.out.tr.gl.q (own_grown HM8.out hg9 hgl).rd (by omega) (fun L hL => by have := (hlens.2 L hL).1; have := HBS.out; omega) (by omega) HMX.out cb
    have HGI := Bx.mk (fun cb => HI6.out.map ms (by omega) cb)
    clear hD9 hg9 HM8 HT8 HMX hml hgl hlens
    go_wp2_with fail
    go_at_call 27
    refine (hmap _).mono ?_
    rintro e w10 ⟨v10, l10, rfl, ho10, hx10, hb10, hq10⟩
    have HI10 := Bx.mk (show GI (gxs l10) (k + 1) (bndG (k + 1)) by rw [hx10]; exact (HGI.out _).mono (Nat.le_refl _) (by show _ ≤ 5 * bndG k + 10; omega))
    have HT10 := Bx.mk (HT9.out.next ho10 hq10 hb10)
    obtain ⟨a10, c10, hv10, -⟩ := ho10.own.rd.form
    obtain ⟨L10, hL10⟩ : ∃ L10, L10 = l10.length := ⟨_, rfl⟩
    rw [← hL10] at hv10
    subst hv10
    generalize (gmapP (gxs l6) ms _).2 = EF at *
    clear hmap HGI ho10 hx10 hb10 hq10 HT9 HI6 hL10 a9 b9
    go_wp2_with fail
    go_roundw
    case rel => exact ⟨l10, k + 1, m, by omega, by go_num, HT10, HI10⟩
    case measure => simp [intOf]; try omega
   ·have t7 : (r7 == 1) = false := by simpa using h7
    have HI7 := Bx.mk (show GI (gxs l6) (k + 1) (bndG (k + 1)) from HI6.out.mono (Nat.le_refl _) (by show _ ≤ 5 * bndG k + 10; omega))
    clear h7 a7 b7
    go_wp2_with fail
    go_roundw
    case rel => exact ⟨l6, k + 1, m, by omega, by go_num, HT7, HI7⟩
    case measure => simp [intOf]; try omega
end Go.Proofs.YtmagjdocondmhaaGreat.Tr.Gr
namespace Go.Proofs.YtmagjdocondmhaaGreat.Tr.Gr
open Go Go.RowKit Go.Proofs.YtmagjdocondmhaaGreat.Slc Go.Proofs.YtmagjdocondmhaaGreat.St Go.Proofs.YtmagjdocondmhaaGreat.Mp Go.Proofs.YtmagjdocondmhaaGreat.Tr Go.Proofs.YtmagjdocondmhaaGreat.Rg
attribute [local go_sem] Oper.semAt_some
section
variable {α : Type} {enc : α → List Value} {z : Nat} {w : World} {l : List α} {P : Program} {T : TypeId}
theorem upto_at (E : Enc z enc) {b o n c : Nat} (h : Rd w enc (.slice (some ⟨b, o, none⟩) n c) l) (hT : P.underlying T = some (.slice (P.elem T))) (hz : ∀ W, (sizeOf (P.elem T)).run P W = .ok z W) (k : Nat) (hk : k ≤ l.length) :
  (∀ W, (Instr.slice T (.slice (some ⟨b, o, none⟩) n c) none (some (.int .i64 k)) none).run P W = .ok (.slice (some ⟨b, o, none⟩) k c) W) ∧ Rd w enc (.slice (some ⟨b, o, none⟩) k c) (l.take k) := by
 rcases h with ⟨h0, -⟩ | ⟨b', o', c', hv, hlt, hc, hcell⟩
 ·simp at h0
 ·simp only [Value.slice.injEq, Option.some.injEq, Addr.mk.injEq, and_true] at hv
  obtain ⟨⟨rfl, rfl⟩, rfl, rfl⟩ := hv
  have e : (l.take k).length = k := by rw [List.length_take]; omega
  refine ⟨fun W => ?_, .inr ⟨b, o, c, by rw [e], hlt, by omega, fun j u hj => ?_⟩⟩
  ·rw [run_slice_h W _ _ _ _ hT _ _ (by omega) (by omega)]
   simp [hz, sliced, Result.andThen, add_at]
  ·rw [flat_take E] at hj
   refine hcell j u ?_
   have hjk : j < k * z := by
    rcases Nat.lt_or_ge j (k * z) with q | q
    ·exact q
    ·rw [List.getElem?_take_eq_none q] at hj; cases hj
   rwa [List.getElem?_take_of_lt hjk] at hj
end
structure CSG (w : World) (v : Value) (zs : List Int) (g : Nat) (wr w' : World) (ov : Value) (l : List Lv) : Prop where
 tr : GO w' wr.heap.size ov l
 nq : NQ (g + 1) l
 dk : Deck w v zs w' g
 gr : wr.grownBy w' (some g)
theorem CSG.grow {w wr w' w'' : World} {v ov : Value} {zs : List Int} {g : Nat} {l : List Lv} (h : CSG w v zs g wr w' ov l) (hgl : g < wr.heap.size) (hg : w'.grownBy w'' (some g)) (hd : Deck w v zs w'' g) : CSG w v zs g wr w'' ov l :=
 ⟨h.tr.keep hg.size fun k hk hkk => hg.block k hk fun e => by
  simp only [Option.some.injEq] at e
  rcases hkk with q | ⟨L, hL, x, hx, q⟩
  ·have := (h.tr.lt q).1; omega
  ·have := h.nq L hL x hx k q; omega, h.nq, hd, h.gr.trans hg⟩
theorem CSG.below {w wr w' w'' : World} {v ov : Value} {zs : List Int} {g : Nat} {l : List Lv} (h : CSG w v zs g wr w' ov l) (hb : Below w'.heap.size w' w'') : CSG w v zs g wr w'' ov l :=
 ⟨h.tr.below hb, h.nq, h.dk.below hb, h.gr.trans (grown_below hb)⟩
def BDG (l : List Lv) : Prop := l.length ≤ 5 ∧ ∀ L ∈ l, L.vs.length ≤ 2201 ∧ ∀ x ∈ L.vs, x.n.ex.length ≤ 5
theorem BDG.set {l : List Lv} (h : BDG l) (i : Nat) {L' : Lv} (hL : L'.vs.length ≤ 2201 ∧ ∀ x ∈ L'.vs, x.n.ex.length ≤ 5) : BDG (l.set i L') := ⟨by rw [List.length_set]; exact h.1, fun L hm => by
 rcases List.mem_or_eq_of_mem_set hm with q | rfl
 ·exact h.2 L q
 ·exact hL⟩
theorem BDG.of_gi {l : List Lv} (h : GI (gxs l) 4 2200) : BDG l := ⟨(h.lens).1, fun L hL => by
 have h1 := h.lev (vxs L.vs) (List.mem_map.2 ⟨L, hL, rfl⟩)
 rw [vxs_len] at h1
 exact ⟨by omega, fun x hx => h1.2 _ (List.mem_map.2 ⟨x, hx, rfl⟩)⟩⟩
def ChgP (w : World) (v : Value) (zs : List Int) (g : Nat) (wr : World) (tv : Value) (l : List Lv) (e : Ending) (w' : World) : Prop :=
 ∃ (tv' : Value) (l' : List Lv), e = .returned tv' ∧ GQ w' tv' l' ∧ TDG w v zs g w' tv l ∧ wr.grownBy w' (some g) ∧ BDG l'
theorem valid_ne {G : List (List Vx)} (h : gvalidB G = true) {k : Nat} (hk : k < G.length) : 0 < (G[k]!).length := by
 cases k with
 | zero =>
  obtain ⟨v, hv, -⟩ := gvalid_top h hk
  rw [hv]; simp
 | succ k => exact List.length_pos_iff.2 (gvalid_at h k hk).1
theorem CSG.setV {w wr w' : World} {v ov : Value} {zs : List Int} {g : Nat} {l : List Lv} (h : CSG w v zs g wr w' ov l) (hgl : g < wr.heap.size) (hw0 : w.heap.size ≤ wr.heap.size) (i : Nat) (hi : i < l.length) (k : Nat) (hk : k < (l[i]).vs.length) (o : Nat) (ho : o < 3) (u : Value) (x' : Vt) (he : encV x' = (encV ((l[i]).vs[k])).set o u) (hx : VtIn w' (fun b => ¬ GB ov l b) x') :
  ∃ nb cap, (l[i]).s.val = .slice (some ⟨nb, 0, none⟩) (l[i]).vs.length cap ∧ (∀ j, w'.frozen? ⟨nb, j, none⟩ = false) ∧ GQ (w'.setCell ⟨nb, k * 3 + o, none⟩ u) ov (l.set i ⟨(l[i]).vs.set k x', (l[i]).s⟩) ∧ Deck w v zs (w'.setCell ⟨nb, k * 3 + o, none⟩ u) g ∧ wr.grownBy (w'.setCell ⟨nb, k * 3 + o, none⟩ u) (some g) := by
 obtain ⟨nb, cap, hv, hlt, hfr, hgo, hgr⟩ := h.tr.setV i hi k hk o ho u x' he hx
 have hnb : wr.heap.size ≤ nb := (h.tr.lt (k := nb) (.inr ⟨_, List.getElem_mem hi, by rw [hv]; rfl⟩)).1
 have hbb : Below wr.heap.size w' (w'.setCell ⟨nb, k * 3 + o, none⟩ u) := (show Below wr.heap.size w' w' from ⟨rfl, rfl, rfl, Nat.le_refl _, fun _ _ => rfl⟩).setCell hnb u
 refine ⟨nb, cap, hv, hfr, hgo.gl.q, deck_keep h.dk hbb hgl hw0, ?_⟩
 exact ⟨hbb.os.trans h.gr.os, hbb.tape.trans h.gr.tape, hbb.output.trans h.gr.output, Nat.le_trans h.gr.size hbb.size, fun i hi hne => (hbb.block i hi).trans (h.gr.block i hi hne)⟩
def ChA (ob i lb NV lc g : Nat) : Nat → Value → World → Prop
 | 0, x, _ => x = .pointer (some ⟨ob, i, none⟩)
 | 1, x, _ => x = .pointer (some ⟨ob, i, none⟩)
 | 2, x, _ => x = .pointer (some ⟨ob, i, none⟩)
 | 3, x, _ => x = .slice (some ⟨lb, 0, none⟩) NV lc
 | 4, x, _ => x = .pointer (some ⟨g, 0, none⟩)
 | 5, x, _ => x = .pointer (some ⟨ob, i, none⟩)
 | 6, x, _ => x = .pointer (some ⟨ob, i, none⟩)
 | 7, x, _ => x = .pointer (some ⟨ob, i, none⟩)
 | 8, x, _ => x = .slice (some ⟨lb, 0, none⟩) NV lc
 | 9, x, _ => x = .int .i64 NV
 | 10, x, _ => ∃ r : Nat, x = .int .i64 r ∧ r < NV
 | _, _, _ => True
theorem ChA.stable (ob i lb NV lc g : Nat) (j : Nat) (x : Value) (w w' : World) (h : ChA ob i lb NV lc g j x w) (hb : w.grownBy w' (some g)) : ChA ob i lb NV lc g j x w' := by
 match j with
 | 0 | 1 | 2 | 3 | 4 | 5 | 6 | 7 | 8 | 9 | 10 => exact h
 | _ + 11 => exact trivial
def ChB (ob i lb NV N1 lc : Nat) (u : Value) : Nat → Value → World → Prop
 | 0, x, _ => x = .pointer (some ⟨ob, i, none⟩)
 | 1, x, _ => x = .pointer (some ⟨ob, i, none⟩)
 | 2, x, _ => x = .pointer (some ⟨ob, i, none⟩)
 | 3, x, _ => x = .pointer (some ⟨ob, i, none⟩)
 | 4, x, _ => x = .slice (some ⟨lb, 0, none⟩) NV lc
 | 5, x, _ => x = .pointer (some ⟨ob, i, none⟩)
 | 6, x, _ => x = .pointer (some ⟨ob, i, none⟩)
 | 7, x, _ => x = .pointer (some ⟨ob, i, none⟩)
 | 8, x, _ => x = .slice (some ⟨lb, 0, none⟩) NV lc
 | 9, x, _ => x = .int .i64 NV
 | 10, x, _ => x = .int .i64 N1
 | 11, x, _ => x = u
 | 12, x, _ => x = .pointer (some ⟨ob, i, none⟩)
 | 13, x, _ => x = .pointer (some ⟨ob, i, none⟩)
 | _, _, _ => True
theorem ChB.stable (ob i lb NV N1 lc : Nat) (u : Value) (j : Nat) (x : Value) (w w' : World) (h : ChB ob i lb NV N1 lc u j x w) (hb : Below w.heap.size w w') : ChB ob i lb NV N1 lc u j x w' := by
 match j with
 | 0 | 1 | 2 | 3 | 4 | 5 | 6 | 7 | 8 | 9 | 10 | 11 | 12 | 13 => exact h
 | _ + 14 => exact trivial
def ChC (W0 : World) (ob i lb NV lc g : Nat) (vs : List Vt) (q12 : List B) : Nat → Value → World → Prop
 | 0, x, _ => x = .pointer (some ⟨ob, i, none⟩)
 | 1, x, _ => x = .pointer (some ⟨ob, i, none⟩)
 | 2, x, _ => x = .pointer (some ⟨ob, i, none⟩)
 | 3, x, _ => x = .pointer (some ⟨ob, i, none⟩)
 | 4, x, _ => x = .slice (some ⟨lb, 0, none⟩) NV lc
 | 5, x, _ => x = .pointer (some ⟨g, 0, none⟩)
 | 6, x, _ => ∃ r : Nat, x = .int .i64 r ∧ r < 8
 | 7, x, _ => ∃ p : B, x = .string (bstr p) ∧ p.length ≤ 100
 | 8, x, w => ∃ s : Sl, x = .slice s.ad s.n s.c ∧ Slc.Own w W0.heap.size 9 1 encS s.val q12
 | 9, x, w => ∃ s : Sl, x = .slice s.ad s.n s.c ∧ Slc.Own w W0.heap.size 3 1 encI s.val [0]
 | 10, x, w => ∃ (p : B) (s q : Sl), x = .agg #[.string (bstr p), .slice s.ad s.n s.c, .slice q.ad q.n q.c] ∧ p.length ≤ 100 ∧ Slc.Own w W0.heap.size 9 1 encS s.val q12 ∧ Slc.Own w W0.heap.size 3 1 encI q.val [0]
 | 11, x, w => ∃ (b : Nat) (p : B) (s q : Sl), x = .slice (some ⟨b, 0, none⟩) 1 1 ∧ W0.heap.size ≤ b ∧ w.heap[b]? = some (.cells #[.string (bstr p), .slice s.ad s.n s.c, .slice q.ad q.n q.c] 65 (0, 0)) ∧ p.length ≤ 100 ∧ Slc.Own w W0.heap.size 9 1 encS s.val q12 ∧ Slc.Own w W0.heap.size 3 1 encI q.val [0]
 | 12, x, w => ∃ (t : Sl) (p : B) (s q : Sl) (B0 : Nat), x = .slice t.ad t.n t.c ∧ p.length ≤ 100 ∧ Slc.Own w W0.heap.size 9 1 encS s.val q12 ∧ Slc.Own w W0.heap.size 3 1 encI q.val [0] ∧ Slc.Own w B0 65 3 encV t.val (vs ++ [⟨⟨p, q12, [0]⟩, s, q⟩]) ∧ (t.val.ownBlock = some lb ∨ ∃ z, t.val.ownBlock = some z ∧ W0.heap.size ≤ z)
 | 13, x, _ => x = .pointer (some ⟨ob, i, none⟩)
 | 14, x, _ => x = .pointer (some ⟨ob, i, none⟩)
 | _, _, _ => True
theorem ChC.stable (W0 : World) (ob i lb NV lc g : Nat) (vs : List Vt) (q12 : List B) (j : Nat) (x : Value) (w w' : World) (h : ChC W0 ob i lb NV lc g vs q12 j x w) (hb : Below w.heap.size w w') : ChC W0 ob i lb NV lc g vs q12 j x w' := by
 match j with
 | 0 | 1 | 2 | 3 | 4 | 5 | 6 | 7 | 13 | 14 => exact h
 | 8 => obtain ⟨s, h1, h2⟩ := h; exact ⟨s, h1, h2.below hb⟩
 | 9 => obtain ⟨s, h1, h2⟩ := h; exact ⟨s, h1, h2.below hb⟩
 | 10 => obtain ⟨p, s, q, h1, h2, h3, h4⟩ := h; exact ⟨p, s, q, h1, h2, h3.below hb, h4.below hb⟩
 | 11 => obtain ⟨b, p, s, q, h1, h0, h5, h2, h3, h4⟩ := h; exact ⟨b, p, s, q, h1, h0, (hb.block b (lt_of_some h5)).trans h5, h2, h3.below hb, h4.below hb⟩
 | 12 => obtain ⟨t, p, s, q, B0, h1, h2, h3, h4, h5, h6⟩ := h; exact ⟨t, p, s, q, B0, h1, h2, h3.below hb, h4.below hb, h5.below hb, h6⟩
 | _ + 15 => exact trivial
theorem ChC.big (W0 : World) (ob i lb NV lc g : Nat) (vs : List Vt) (q12 : List B) (j : Nat) (x : Value) (w w' : World) (h : ChC W0 ob i lb NV lc g vs q12 j x w) (hj : j ≠ 12) (z : Nat) (hz : z < W0.heap.size) (hb : w.grownBy w' (some z)) : ChC W0 ob i lb NV lc g vs q12 j x w' := by
 have kp : ∀ {α : Type} {t : TypeId} {n : Nat} {enc : α → List Value} {v : Value} {l : List α}, Slc.Own w W0.heap.size t n enc v l → Slc.Own w' W0.heap.size t n enc v l := fun {_ _ _ _ _ _} ho => ho.keep fun k hk hkl => hb.block k hkl fun e => by
  simp only [Option.some.injEq] at e
  have := (ho.lt k hk).1; omega
 match j with
 | 0 | 1 | 2 | 3 | 4 | 5 | 6 | 7 | 13 | 14 => exact h
 | 8 => obtain ⟨s, h1, h2⟩ := h; exact ⟨s, h1, kp h2⟩
 | 9 => obtain ⟨s, h1, h2⟩ := h; exact ⟨s, h1, kp h2⟩
 | 10 => obtain ⟨p, s, q, h1, h2, h3, h4⟩ := h; exact ⟨p, s, q, h1, h2, kp h3, kp h4⟩
 | 11 => obtain ⟨b, p, s, q, h1, h0, h5, h2, h3, h4⟩ := h; exact ⟨b, p, s, q, h1, h0, (hb.block b (lt_of_some h5) (fun e => by simp only [Option.some.injEq] at e; omega)).trans h5, h2, kp h3, kp h4⟩
 | 12 => exact absurd rfl hj
 | _ + 15 => exact trivial
set_option maxRecDepth 100000 in
set_option maxHeartbeats 32000000 in
theorem gchanged_any (w : World) (v : Value) (zs : List Int) (wq : World) (g : Nat) (tv : Value) (l : List Lv) (h : TDG w v zs g wq tv l) (hI : GI (gxs l) 4 2200) :
  Calls Tryz.prog 14 #[.pointer (some ⟨g, 0, none⟩), tv] wq fun e w' => ChgP w v zs g wq tv l e w' := by
 have mixed : Tryz.prog.follows .mixedOrders = true := by kernel_rfl
 obtain ⟨i0, hi0, hz0, hz1, hz2⟩ := info_parts info_ver
 obtain ⟨il, hil, hil0, hil1, hil2⟩ := info_parts info_lev
 obtain ⟨ib, hib, hib0, hib1, hib2⟩ := info_parts info_int
 obtain ⟨ad, c, rfl, -⟩ := h.tr.own.rd.form
 have HTD := Bx.mk h
 have HI := Bx.mk hI
 have HBD := Bx.mk (BDG.of_gi hI)
 have HGL := Bx.mk h.dk.lt
 have HW0 := Bx.mk h.bel.size
 have HC := Bx.mk (ls_cells h.tr.own.rd).2
 obtain ⟨N, hN⟩ : ∃ N, N = l.length := ⟨_, rfl⟩
 have HN := Bx.mk hN
 have hN5 : N ≤ 5 := by rw [hN]; exact HBD.out.1
 obtain ⟨tv, htv⟩ : ∃ tv, tv = Value.slice ad l.length c := ⟨_, rfl⟩
 rw [← htv] at HTD ⊢
 have htv' : tv = .slice ad N c := by rw [htv, hN]
 obtain ⟨Q, hQ⟩ : ∃ Q, Q = fun (e : Ending) (w' : World) => ChgP w v zs g wq tv l e w' := ⟨_, rfl⟩
 have HQ := Bx.mk hQ
 rw [← hQ, htv']
 have HB0 := Bx.mk (Below.refl wq.heap.size wq)
 clear h hI hN htv htv' hQ
 go_enter Tryz.func14, Tryz.ntmps14
 go_wp2_with fail
 go_loopw [5, 6] (fun ov iv wz => ∃ (k : Nat) (oc : List Lv), k ≤ N ∧ iv = .int .i64 k ∧ Bx (GO wz wq.heap.size ov oc) ∧ Bx (oc.length = k ∧ ∀ q (h : q < oc.length) (h' : q < l.length), (oc[q]).vs = (l[q]).vs) ∧ Bx (Below wq.heap.size wq wz)) (fun _ iv _ => N - (intOf iv).toNat)
 case atStart => exact ⟨0, [], by omega, rfl, ⟨GO.nil _ _⟩, ⟨rfl, fun q h => by simp at h⟩, HB0⟩
 case round =>
  clear HB0
  obtain ⟨k, oc, hk, rfl, hGO, hE, hB⟩ := hrel
  obtain ⟨oa, occ, hov, -⟩ := hGO.out.own.rd.form
  rw [hE.out.1] at hov
  subst hov
  by_cases hlt : k < N
  ·have HKL := Bx.mk (show k < l.length by rw [← HN.out]; exact hlt)
   obtain ⟨tb, tof, rfl, -, c0⟩ := HC.out wr (fun q hq _ => hB.out.block q hq) k HKL.out
   obtain ⟨L, hL⟩ : ∃ L, L = l[k]'HKL.out := ⟨_, rfl⟩
   have HL := Bx.mk hL
   have HLO := Bx.mk (HTD.out.tr.lv _ (List.getElem_mem HKL.out))
   have HLX := Bx.mk (HTD.out.tr.gl.lv _ (List.getElem_mem HKL.out)).at_
   have hbd := (HBD.out.2 _ (List.getElem_mem HKL.out)).1
   rw [← hL] at c0 HLO hbd HLX
   obtain ⟨la, lc, hls, -⟩ := HLO.out.rd.form
   rw [hls] at c0 HLO
   obtain ⟨NL, hNL⟩ : ∃ NL, NL = L.vs.length := ⟨_, rfl⟩
   have HNL := Bx.mk hNL
   rw [← hNL] at c0 hbd HLO
   have hr3 : (wr.alloc (.cells #[] 65)).heap[wr.heap.size]? = some (.cells #[] 65 (0, 0)) := heap_alloc_new _ _
   have hb3 : Below wr.heap.size wr (wr.alloc (.cells #[] 65)) := (Below.refl _ _).alloc (Nat.le_refl _) _
   have HB3 := Bx.mk hb3
   have c1 := (hb3.cell (p := ⟨tb, tof + k, none⟩) (World.block_lt_of_cell? wr _ c0)).trans c0
   have HSRC := Bx.mk (show SrcV (wr.alloc (.cells #[] 65)) 3 (.slice la NL lc) NL (L.vs.flatMap encV) by
    have := (HLO.out.rd.below (hB.out.trans (hb3.mono hB.out.size))).src encV_ok
    rwa [← HNL.out] at this)
   have hm1 : NL ≤ maxLen := by unfold maxLen; omega
   have hm2 : NL * 64 ≤ 140737488355328 := by omega
   have hz3 : wr.heap.size ≤ (wr.alloc (.cells #[] 65)).heap.size := hb3.size
   have HK5 := Bx.mk (show k ≤ 5 by omega)
   clear hL hls hNL hb3
   go_wp2_with (at_builtin; refine wpList_append_fresh rfl _ _ _ rfl wr.heap.size 65 i0 _ 3 64 und_vers hi0 hz0 hz1 hz2 rfl (by decide) wr.heap.size rfl hr3 (Nat.le_refl _) hz3 _ NL (L.vs.flatMap encV) rfl HSRC.out hm1 hm2 ?_)
   intro v4 w4 hown hb4 _
   have hol := (Own.of (l := L.vs) hown HNL.out rfl)
   obtain ⟨s4, hs4⟩ := sl_of hol
   subst hs4
   have hb04 : Below wr.heap.size wr w4 := HB3.out.trans (hb4.mono (by first | omega | simp))
   have HB4 := Bx.mk (hB.out.trans (hb04.mono hB.out.size))
   have HGO4 := Bx.mk (hGO.out.below hb04)
   have HOL := Bx.mk hol
   have HNB := Bx.mk (show ∀ j, (Sl.val s4).ownBlock = some j → wr.heap.size ≤ j from fun j hj => (hol.lt j hj).1)
   have HLTG := Bx.mk (fun j => hGO.out.lt (k := j))
   have HSZ := Bx.mk hB.out.size
   simp only [Sl.val]
   clear hown hb4 hol hb04 hr3 hm1 hm2 hz3 HSRC c0 c1
   have hba : Below w4.heap.size w4 (w4.alloc (.cells #[.slice s4.ad s4.n s4.c] 63)) := (Below.refl _ _).alloc (Nat.le_refl _) _
   have HBA := Bx.mk hba
   have HSRC := Bx.mk (show SrcV (w4.alloc (.cells #[.slice s4.ad s4.n s4.c] 63)) 1 (.slice (some ⟨w4.heap.size, 0, none⟩) 1 1) 1 ([(⟨L.vs, s4⟩ : Lv)].flatMap encL) from src_new encL_ok (heap_alloc_new _ _))
   have HGA := Bx.mk (HGO4.out.below hba)
   have HOWR := Bx.mk (show World.ownsRow (w4.alloc (.cells #[.slice s4.ad s4.n s4.c] 63)) wq.heap.size 63 1 (.slice oa k occ) k (oc.flatMap encL) by
    have := HGA.out.own
    unfold Slc.Own at this
    rwa [hE.out.1] at this)
   have hm1 : k + 1 ≤ maxLen := by have := HK5.out; unfold maxLen; omega
   have hm2 : (k + 1) * 24 ≤ 140737488355328 := by have := HK5.out; omega
   have hbz : wq.heap.size ≤ (w4.alloc (.cells #[.slice s4.ad s4.n s4.c] 63)).heap.size := Nat.le_trans HB4.out.size hba.size
   have HBZ := Bx.mk hbz
   clear hba
   go_wp2_with (at_builtin; refine wpList_append_any rfl _ _ _ rfl wq.heap.size 63 il _ 1 24 und_levs hil hil0 hil1 hil2 rfl (by decide) _ k (oc.flatMap encL) rfl HOWR.out _ 1 ([(⟨L.vs, s4⟩ : Lv)].flatMap encL) rfl HSRC.out hm1 hm2 hbz ?_)
   intro v9 w9 hapd
   have hold : ∀ L0 ∈ l, ∀ x ∈ L0.vs, VtIn (w4.alloc (.cells #[.slice s4.ad s4.n s4.c] 63)) (fun j => j < wq.heap.size) x := fun L0 h0 x hx => VtIn.below ((VtIn.below ((HTD.out.tr.gl.lv L0 h0).at_ x hx) HB4.out)) HBA.out
   have hgs := HGA.out.snoc ⟨L.vs, s4⟩ ((HOL.out.below HBA.out).mono HSZ.out) (fun j hj hn => by have h1 := HNB.out j hj; have h2 := (HLTG.out j hn).2; omega)
    (fun L0 h0 x hx => by
     obtain ⟨q, hq, rfl⟩ := List.getElem_of_mem h0
     rw [hE.out.2 q hq (by have := hE.out.1; have := HKL.out; omega)] at hx
     exact (hold _ (List.getElem_mem _) x hx).mono fun j _ hj e => by have := HNB.out j e; have := HSZ.out; omega)
    (fun x hx => by
     have hx' : x ∈ (l[k]'HKL.out).vs := by rw [← HL.out]; exact hx
     exact (hold _ (List.getElem_mem _) x hx').mono fun j _ hj => ⟨fun hn => by have h2 := (HLTG.out j hn).1; omega, fun e => by have := HNB.out j e; have := HSZ.out; omega⟩)
    rfl rfl hE.out.1.symm rfl hapd
   have HGO9 := Bx.mk hgs.1
   have HE9 := Bx.mk (show (oc ++ [(⟨L.vs, s4⟩ : Lv)]).length = k + 1 ∧ ∀ q (h : q < (oc ++ [(⟨L.vs, s4⟩ : Lv)]).length) (h' : q < l.length), ((oc ++ [(⟨L.vs, s4⟩ : Lv)])[q]).vs = (l[q]).vs from by
    refine ⟨by rw [List.length_append, hE.out.1]; rfl, fun q h1 h2 => ?_⟩
    rw [List.getElem_append]
    split
    ·rename_i h3; exact hE.out.2 q h3 h2
    ·rename_i h3
     rw [List.length_append, hE.out.1, List.length_singleton] at h1
     rw [hE.out.1] at h3
     have : q = k := by omega
     subst this
     simp only [List.getElem_singleton]
     rw [HL.out])
   have HB9 := Bx.mk (show Below wq.heap.size wq w9 from (HB4.out.trans (HBA.out.mono HB4.out.size)).grown hapd.grown HBZ.out fun q hq => (HGA.out.own.lt q hq).1)
   clear hapd hgs hm1 hm2 hbz hold
   go_wp2_with fail
   go_roundw
   case rel => exact ⟨k + 1, oc ++ [(⟨L.vs, s4⟩ : Lv)], by omega, by go_num, HGO9, HE9, HB9⟩
   case measure => simp [intOf]; omega
  ·obtain rfl : k = N := by omega
   have HCS := Bx.mk (show CSG w v zs g wq wr (.slice oa k occ) oc from ⟨hGO.out, fun L hL x hx => by
    obtain ⟨q, hq, rfl⟩ := List.getElem_of_mem hL
    rw [hE.out.2 q hq (by rw [← HN.out, ← hE.out.1]; exact hq)] at hx
    exact HTD.out.nq _ (List.getElem_mem _) x hx, HTD.out.dk.below hB.out, grown_below hB.out⟩)
   have HBO := Bx.mk (show BDG oc from ⟨by rw [hE.out.1]; exact hN5, fun L hL => by
    obtain ⟨q, hq, rfl⟩ := List.getElem_of_mem hL
    rw [hE.out.2 q hq (by rw [← HN.out, ← hE.out.1]; exact hq)]
    exact HBD.out.2 _ (List.getElem_mem _)⟩)
   have GI_all := Bx.mk (show ∀ L ∈ oc, L.vs.length ≤ 2200 from fun L hL => by
    obtain ⟨q, hq, rfl⟩ := List.getElem_of_mem hL
    have hql : q < l.length := by rw [← HN.out, ← hE.out.1]; exact hq
    rw [hE.out.2 q hq hql]
    exact ((HI.out.lens).2 _ (List.getElem_mem hql)).1)
   have HOL := Bx.mk hE.out.1
   have HNE := Bx.mk (show ∀ q (h : q < oc.length), 0 < (oc[q]).vs.length from fun q h => by
    have hq : q < l.length := by rw [← HN.out, ← hE.out.1]; exact h
    rw [hE.out.2 q h hq]
    have := valid_ne HI.out.val (k := q) (by rw [gxs_len]; exact hq)
    rw [gxs_at' l q hq, vxs_len] at this
    exact this)
   obtain ⟨N, hNk⟩ : ∃ N, N = k := ⟨_, rfl⟩
   rw [← hNk] at HCS HOL hN5 ⊢
   clear hGO hE hB hNk hlt hk HBD HC HN
   by_cases hN0 : N = 0
   ·have t1 : ((N : Int) == 0) = true := by simpa using hN0
    clear hN0
    go_wp2_with fail
    rw [HQ.out]
    exact ⟨_, oc, rfl, HCS.out.tr.gl.q, HTD.out.grow HCS.out.gr HCS.out.dk, HCS.out.gr, HBO.out⟩
   have t1 : ((N : Int) == 0) = false := by simpa using hN0
   have t1' : ¬ (N : Int) = 0 := by omega
   have hnx := next_any w v zs wr g (N : Int) HCS.out.dk (by omega) (by omega)
   obtain ⟨gb0, hgb0, -, -⟩ := HCS.out.tr.cellL 0 (by rw [HOL.out]; omega)
   subst hgb0
   go_wp2_with fail
   refine hnx.mono ?_
   rintro e w5 ⟨r, rfl, hr0, hr1, hD5, hg5⟩
   clear hnx
   have HCS5 := Bx.mk (HCS.out.grow HGL.out hg5 hD5)
   obtain ⟨i, rfl⟩ : ∃ i : Nat, r = (i : Int) := ⟨r.toNat, by omega⟩
   have hiN : i < N := by omega
   have HIL := Bx.mk (show i < oc.length by rw [HOL.out]; exact hiN)
   obtain ⟨sL, hsL⟩ : ∃ sL, sL = (oc[i]'HIL.out).s := ⟨_, rfl⟩
   have HSL := Bx.mk (show (oc[i]'HIL.out).s.val = sL.val by rw [hsL])
   obtain ⟨lb, lcap, hlb, -⟩ := (HCS5.out.tr.lv _ (List.getElem_mem HIL.out)).set1 encV_ok 0 0 (HNE.out i HIL.out) (by omega) (.string (bstr ((oc[i]'HIL.out).vs[0]'(HNE.out i HIL.out)).n.pol)) ((oc[i]'HIL.out).vs[0]'(HNE.out i HIL.out)) rfl
   obtain ⟨NV, hNV⟩ : ∃ NV, NV = (oc[i]'HIL.out).vs.length := ⟨_, rfl⟩
   have HNV := Bx.mk hNV
   have GI_len := Bx.mk (GI_all.out _ (List.getElem_mem HIL.out))
   have hNV0 : 0 < NV := by rw [hNV]; exact HNE.out i HIL.out
   have hNVb : NV ≤ 2201 := by rw [hNV]; exact (HBO.out.2 _ (List.getElem_mem HIL.out)).1
   have HLB := Bx.mk (show (oc[i]'HIL.out).s.val = .slice (some ⟨lb, 0, none⟩) NV lcap by rw [hNV]; exact hlb)
   have HLC := Bx.mk (show ∀ W, CSG w v zs g wq W (.slice (some ⟨gb0, 0, none⟩) N occ) oc → W.cell? ⟨gb0, i, none⟩ = some (.slice (some ⟨lb, 0, none⟩) NV lcap) from fun W hW => by
    obtain ⟨b', he, hc, -⟩ := hW.tr.cellL i HIL.out
    simp only [Option.some.injEq, Addr.mk.injEq, and_true] at he
    subst he
    rw [hc, HLB.out])
   clear hr0 hr1 hsL hlb hNV hD5 hg5 HCS hN0
   go_wp2_with fail
   clear t1 t1'
   refine wp_region_rel 11 (fun a b => a.grownBy b (some g)) (fun w' => CSG w v zs g wq w' (.slice (some ⟨gb0, 0, none⟩) N occ) oc) (ChA gb0 i lb NV lcap g) (by kernel_rfl) (by kernel_rfl) (by rfl) (fun a b hab => grown_below hab) (ChA.stable gb0 i lb NV lcap g) (HCS5.out.below (drewN_below (Below.refl _ _) 1)) ?_ ?_
   ·intro i' oo hi ho xx w7 hI7 hd
    have hcs : i' = 0 ∨ i' = 1 ∨ i' = 2 ∨ i' = 3 ∨ i' = 4 ∨ i' = 5 ∨ i' = 6 ∨ i' = 7 ∨ i' = 8 ∨ i' = 9 ∨ i' = 10 := by omega
    simp only [List.take_succ_cons, List.take_zero, putFrom, Act.put, List.setIfInBounds_toArray, List.set_cons_succ, List.set_cons_zero, Nat.zero_add, Nat.reduceAdd]
    have HI7 := Bx.mk hI7
    have hcell := HLC.out w7 hI7
    have hnx := next_any w v zs w7 g (NV : Int) hI7.dk (by omega) (by omega)
    clear hI7
    rcases hcs with rfl | rfl | rfl | rfl | rfl | rfl | rfl | rfl | rfl | rfl | rfl
    all_goals
     simp only [List.getElem?_cons_succ, List.getElem?_cons_zero, Option.some.injEq] at ho
     subst ho
     simp [Needs, Region.binds, NeedsB, ChA] at hd
    all_goals clear hi
    case inr.inr.inr.inr.inr.inr.inr.inr.inr.inr =>
     clear hcell
     go_wp2_with (first | (refine hnx.mono ?_; rintro e w8 ⟨r8, rfl, a8, b8, hD8, hg8⟩))
     obtain ⟨rn, rfl⟩ : ∃ rn : Nat, r8 = (rn : Int) := ⟨r8.toNat, by omega⟩
     exact ⟨rfl, rfl, ⟨rn, rfl, by omega⟩, hg8, HI7.out.grow HGL.out hg8 hD8⟩
    all_goals
     clear hnx
     go_wp2_with fail
     exact ⟨rfl, rfl, rfl, grown_refl _ _, HI7.out⟩
   ·intro xx w7 hI7 hf
    have f3 := hf 3 (by omega)
    have f10 := hf 10 (by omega)
    simp only [ChA] at f3 f10
    obtain ⟨kk, f10, hkN⟩ := f10
    have HCS7 := Bx.mk hI7
    have HKV := Bx.mk (show kk < (oc[i]'HIL.out).vs.length by rw [← HNV.out]; exact hkN)
    simp only [List.take_succ_cons, List.take_zero, List.drop_succ_cons, List.drop_zero, putFrom, Act.put, List.setIfInBounds_toArray, List.set_cons_succ, List.set_cons_zero, Nat.zero_add, Nat.reduceAdd, f3, f10]
    generalize xx 0 = X0, xx 1 = X1, xx 2 = X2, xx 4 = X4, xx 5 = X5, xx 6 = X6, xx 7 = X7, xx 8 = X8, xx 9 = X9
    clear hf hI7 f3 f10 HCS5
    have hnx := next_any w v zs w7 g 6 HCS7.out.dk (by omega) (by omega)
    go_wp2_with fail
    refine hnx.mono ?_
    rintro e w8 ⟨r6, rfl, hr0, hr1, hD8, hg8⟩
    have HCS8 := Bx.mk (HCS7.out.grow HGL.out hg8 hD8)
    clear hnx hD8 hg8 HCS7
    obtain ⟨x, hx⟩ : ∃ x, x = (oc[i]'HIL.out).vs[kk]'HKV.out := ⟨_, rfl⟩
    have HX := Bx.mk hx
    have HCX := Bx.mk (show ∀ W, CSG w v zs g wq W (.slice (some ⟨gb0, 0, none⟩) N occ) oc → W.cell? ⟨lb, kk * 3, none⟩ = some (.string (bstr x.n.pol)) ∧ W.cell? ⟨lb, kk * 3 + 1, none⟩ = some (.slice x.u.ad x.u.n x.u.c) ∧ W.cell? ⟨lb, kk * 3 + 2, none⟩ = some (.slice x.q.ad x.q.n x.q.c) from fun W hW => by
     have ho := hW.tr.lv _ (List.getElem_mem HIL.out)
     rw [HLB.out] at ho
     have hc := fun j u (hj : j < 3) (hu : (encV ((oc[i]'HIL.out).vs[kk]'HKV.out))[j]? = some u) => ho.cell encV_ok kk HKV.out j hj u hu
     rw [← HX.out] at hc
     exact ⟨hc 0 _ (by omega) rfl, hc 1 _ (by omega) rfl, hc 2 _ (by omega) rfl⟩)
    have hcs : r6 = 0 ∨ r6 = 1 ∨ r6 = 2 ∨ r6 = 3 ∨ r6 = 4 ∨ r6 = 5 := by omega
    rcases hcs with rfl | rfl | rfl | rfl | rfl | rfl
    all_goals clear hr0 hr1 hx
    ·have hnx := next_any w v zs w8 g 9 HCS8.out.dk (by omega) (by omega)
     go_wp2_with fail
     refine hnx.mono ?_
     rintro e w9 ⟨r9, rfl, a9, b9, hD9, hg9⟩
     obtain ⟨m9, rfl⟩ : ∃ m : Nat, r9 = (m : Int) := ⟨r9.toNat, by omega⟩
     have hpo := policy_any w9 m9 (by omega)
     have HCS9 := Bx.mk (HCS8.out.grow HGL.out hg9 hD9)
     clear hnx hD9 hg9 a9 b9
     go_wp2_with fail
     go_at_call 35
     refine hpo.mono ?_
     rintro e w10 ⟨p, rfl, hp100, hb10⟩
     have HCS10 := Bx.mk (HCS9.out.below hb10)
     have hnm := HCS10.out.tr.nm _ (List.getElem_mem HIL.out) _ (List.getElem_mem HKV.out)
     rw [← HX.out] at hnm
     have HBF := Bx.mk (HBO.out.set i (L' := ⟨(oc[i]'HIL.out).vs.set kk ⟨⟨p, x.n.ex, x.n.par⟩, x.u, x.q⟩, (oc[i]'HIL.out).s⟩) (by
      have hb := HBO.out.2 _ (List.getElem_mem HIL.out)
      refine ⟨by show ((oc[i]'HIL.out).vs.set kk _).length ≤ 2201; rw [List.length_set]; exact hb.1, fun y hy => ?_⟩
      rcases List.mem_or_eq_of_mem_set hy with q | rfl
      ·exact hb.2 y q
      ·exact hb.2 x (by rw [HX.out]; exact List.getElem_mem _)))
     obtain ⟨nb, cap, hv, hfz, hgq, hdk, hgr⟩ := HCS10.out.setV HGL.out HW0.out i HIL.out kk HKV.out 0 (by omega) (.string (bstr p)) ⟨⟨p, x.n.ex, x.n.par⟩, x.u, x.q⟩ (by rw [← HX.out]; rfl) ⟨hnm.1, hnm.2.1, hnm.2.2.1, (show p.length ≤ 1000000 by omega), hnm.2.2.2.2⟩
     have hnb : nb = lb := by
      rw [HLB.out] at hv
      simp only [Value.slice.injEq, Option.some.injEq, Addr.mk.injEq, and_true] at hv
      exact hv.1.symm
     subst hnb
     have hz9 := hfz (kk * 3 + 0)
     have hcl := (HCX.out w10 HCS10.out |>.1)
     try simp only [Nat.add_zero] at hz9 hgq hdk hgr
     have HGQ := Bx.mk hgq
     have HDK := Bx.mk hdk
     have HGR := Bx.mk hgr
     clear hv hfz hgq hdk hgr
     go_wp2_with fail
     rw [HQ.out]
     exact ⟨_, _, rfl, HGQ.out, HTD.out.grow HGR.out HDK.out, HGR.out, HBF.out⟩
    ·have hpo := policies_any w v zs w8 g 3 HCS8.out.dk (by omega)
     go_wp2_with fail
     go_at_call 22
     refine hpo.mono ?_
     rintro e w9 ⟨pv, ps, rfl, hM, hpl, hpx⟩
     have HCS9 := Bx.mk (HCS8.out.grow HGL.out hM.gr hM.dk)
     have hown := hM.own
     obtain ⟨s9, hs9⟩ := sl_of hown
     subst hs9
     have hnm := HCS9.out.tr.nm _ (List.getElem_mem HIL.out) _ (List.getElem_mem HKV.out)
     rw [← HX.out] at hnm
     have HBF := Bx.mk (HBO.out.set i (L' := ⟨(oc[i]'HIL.out).vs.set kk ⟨⟨x.n.pol, ps, x.n.par⟩, s9, x.q⟩, (oc[i]'HIL.out).s⟩) (by
      have hb := HBO.out.2 _ (List.getElem_mem HIL.out)
      refine ⟨by show ((oc[i]'HIL.out).vs.set kk _).length ≤ 2201; rw [List.length_set]; exact hb.1, fun y hy => ?_⟩
      rcases List.mem_or_eq_of_mem_set hy with q | rfl
      ·exact hb.2 y q
      ·show ps.length ≤ 5; omega))
     simp only [Sl.val]
     obtain ⟨nb, cap, hv, hfz, hgq, hdk, hgr⟩ := HCS9.out.setV HGL.out HW0.out i HIL.out kk HKV.out 1 (by omega) (.slice s9.ad s9.n s9.c) ⟨⟨x.n.pol, ps, x.n.par⟩, s9, x.q⟩ (by rw [← HX.out]; rfl) ⟨⟨hown.rd, fun k hk => HCS9.out.tr.ov_ne hown (by decide) (by decide) k hk⟩, hnm.2.1, ⟨(show ps.length ≤ 100000 by omega), fun b hb => by have := hpx b hb; omega⟩, hnm.2.2.2.1, hnm.2.2.2.2⟩
     have hnb : nb = lb := by
      rw [HLB.out] at hv
      simp only [Value.slice.injEq, Option.some.injEq, Addr.mk.injEq, and_true] at hv
      exact hv.1.symm
     subst hnb
     have hz9 := hfz (kk * 3 + 1)
     have hcl := (HCX.out w9 HCS9.out |>.2.1)
     try simp only [Nat.add_zero] at hz9 hgq hdk hgr
     have HGQ := Bx.mk hgq
     have HDK := Bx.mk hdk
     have HGR := Bx.mk hgr
     clear hpo hM hown hv hfz hgq hdk hgr
     go_wp2_with fail
     rw [HQ.out]
     exact ⟨_, _, rfl, HGQ.out, HTD.out.grow HGR.out HDK.out, HGR.out, HBF.out⟩
    ·have hnx := next_any w v zs w8 g 3 HCS8.out.dk (by omega) (by omega)
     go_wp2_with fail
     refine hnx.mono ?_
     rintro e w9 ⟨r9, rfl, a9, b9, hD9, hg9⟩
     have HCS9 := Bx.mk (HCS8.out.grow HGL.out hg9 hD9)
     clear hnx hD9 hg9
     have hnx := next_any w v zs w9 g 3 HCS9.out.dk (by omega) (by omega)
     have HR9 := Bx.mk (show 0 ≤ r9 ∧ r9 < 3 by omega)
     clear a9 b9
     go_wp2_with fail
     refine hnx.mono ?_
     rintro e w10 ⟨r10, rfl, a10, b10, hD10, hg10⟩
     have HCS10 := Bx.mk (HCS9.out.grow HGL.out hg10 hD10)
     clear hnx hD10 hg10
     obtain ⟨z10, hz10⟩ : ∃ z10, z10 = r10 - 1 := ⟨_, rfl⟩
     have wz : IntKind.i64.wrap (r10 - 1) = z10 := by rw [IntWalk.i64_in _ (by omega), hz10]
     have HZ10 := Bx.mk (show -1 ≤ z10 ∧ z10 < 2 by omega)
     clear a10 b10 hz10
     obtain ⟨W11, hW11⟩ : ∃ W11, W11 = w10.alloc (.cells #[.int .i64 r9, .int .i64 z10] 3) := ⟨_, rfl⟩
     obtain ⟨q11, hq11⟩ : ∃ q, q = w10.heap.size := ⟨_, rfl⟩
     have hb11 : Below w10.heap.size w10 W11 := by rw [hW11]; exact (Below.refl _ _).alloc (Nat.le_refl _) _
     have HO11 := Bx.mk (show Slc.Own W11 w10.heap.size 3 1 encI (.slice (some ⟨q11, 0, none⟩) 2 2) [r9, z10] by rw [hW11, hq11]; exact own_alloc encI_ok w10 [r9, z10] _ rfl (Nat.le_refl _) (by unfold maxLen; simp))
     have HCS11 := Bx.mk (HCS10.out.below hb11)
     have HG11 := Bx.mk (show g < w10.heap.size by have := HCS10.out.gr.size; have := HGL.out; omega)
     have hnx := next_any w v zs W11 g 2 HCS11.out.dk (by omega) (by omega)
     clear hb11
     go_wp2_with fail
     rw [← hW11, ← hq11]
     clear hW11 hq11 wz
     refine hnx.mono ?_
     rintro e w12 ⟨r12, rfl, a12, b12, hD12, hg12⟩
     have HCS12 := Bx.mk (HCS11.out.grow HGL.out hg12 hD12)
     have hown := own_grown HO11.out hg12 HG11.out
     clear hnx hD12 hg12
     obtain ⟨m12, hm12⟩ : ∃ m : Nat, (1 : Int) + r12 = (m : Int) := ⟨(1 + r12).toNat, by omega⟩
     have hm2 : 1 ≤ m12 ∧ m12 ≤ 2 := by omega
     have wz : IntKind.i64.wrap (1 + r12) = (m12 : Int) := by rw [IntWalk.i64_in _ (by omega), hm12]
     obtain ⟨hu1, hru⟩ := upto_at (P := Tryz.prog) (T := 22) encI_ok hown.rd und_intsE size_intsE m12 (show m12 ≤ 2 by omega)
     have hnm := HCS12.out.tr.nm _ (List.getElem_mem HIL.out) _ (List.getElem_mem HKV.out)
     rw [← HX.out] at hnm
     have hpr : ∀ p ∈ [r9, z10].take m12, -1 ≤ p ∧ p < 3 := fun p hp => by
      have := List.mem_of_mem_take hp
      simp only [List.mem_cons, List.not_mem_nil, or_false] at this
      have h1 := HR9.out
      have h2 := HZ10.out
      rcases this with rfl | rfl <;> omega
     have hlt2 : ([r9, z10].take m12).length = m12 := by rw [List.length_take]; simp; omega
     have HBF := Bx.mk (HBO.out.set i (L' := ⟨(oc[i]'HIL.out).vs.set kk ⟨⟨x.n.pol, x.n.ex, [r9, z10].take m12⟩, x.u, ⟨some ⟨q11, 0, none⟩, m12, 2⟩⟩, (oc[i]'HIL.out).s⟩) (by
      have hb := HBO.out.2 _ (List.getElem_mem HIL.out)
      refine ⟨by show ((oc[i]'HIL.out).vs.set kk _).length ≤ 2201; rw [List.length_set]; exact hb.1, fun y hy => ?_⟩
      rcases List.mem_or_eq_of_mem_set hy with q | rfl
      ·exact hb.2 y q
      ·exact hb.2 x (by rw [HX.out]; exact List.getElem_mem _)))
     have hob : ∀ k, (Value.slice (some ⟨q11, 0, none⟩) m12 2).ownBlock = some k → ¬ GB (.slice (some ⟨gb0, 0, none⟩) N occ) oc k := fun k hk => HCS12.out.tr.ov_ne hown (by decide) (by decide) k hk
     clear a12 b12 hm12
     obtain ⟨nb, cap, hv, hfz, hgq, hdk, hgr⟩ := HCS12.out.setV HGL.out HW0.out i HIL.out kk HKV.out 2 (by omega) (.slice (some ⟨q11, 0, none⟩) m12 2) ⟨⟨x.n.pol, x.n.ex, [r9, z10].take m12⟩, x.u, ⟨some ⟨q11, 0, none⟩, m12, 2⟩⟩ (by rw [← HX.out]; rfl) ⟨hnm.1, .inr ⟨hru, hob⟩, hnm.2.2.1, hnm.2.2.2.1, (show ([r9, z10].take m12).length ≤ 100000 by omega), fun p hp => by have := hpr p hp; omega⟩
     have hnb : nb = lb := by
      rw [HLB.out] at hv
      simp only [Value.slice.injEq, Option.some.injEq, Addr.mk.injEq, and_true] at hv
      exact hv.1.symm
     subst hnb
     have hz9 := hfz (kk * 3 + 2)
     have hcl := (HCX.out w12 HCS12.out |>.2.2)
     try simp only [Nat.add_zero] at hz9 hgq hdk hgr
     have HGQ := Bx.mk hgq
     have HDK := Bx.mk hdk
     have HGR := Bx.mk hgr
     clear hown hru hob hpr hlt2 hnm hv hfz hgq hdk hgr
     go_wp2_with fail
     rw [HQ.out]
     exact ⟨_, _, rfl, HGQ.out, HTD.out.grow HGR.out HDK.out, HGR.out, HBF.out⟩
    ·have hvl := HCS8.out.tr.lv _ (List.getElem_mem HIL.out)
     rw [HLB.out] at hvl
     obtain ⟨N1, hN1⟩ : ∃ N1, N1 + 1 = NV := ⟨NV - 1, by omega⟩
     have hk1 : N1 ≤ (oc[i]'HIL.out).vs.length := by rw [← HNV.out]; omega
     obtain ⟨hu1, hru⟩ := upto_at (P := Tryz.prog) (T := 61) encV_ok hvl.rd und_versE size_vers N1 hk1
     have HU1 := Bx.mk hu1
     have HRU := Bx.mk hru
     have HWN := Bx.mk (show IntKind.i64.wrap ((NV : Int) - 1) = (N1 : Int) by rw [IntWalk.i64_in _ (by omega)]; omega)
     have HN1 := Bx.mk hN1
     clear hvl hu1 hru hN1 hk1
     go_upto_region 18 with fail
     refine wp_region_facts 14 (ChB gb0 i lb NV N1 lcap (.slice (some ⟨lb, 0, none⟩) N1 lcap)) (by kernel_rfl) (by kernel_rfl) (by rfl) (ChB.stable _ _ _ _ _ _ _) ?_ ?_
     ·intro i' oo hi ho xs w9 hb hd
      have hcs : i' = 0 ∨ i' = 1 ∨ i' = 2 ∨ i' = 3 ∨ i' = 4 ∨ i' = 5 ∨ i' = 6 ∨ i' = 7 ∨ i' = 8 ∨ i' = 9 ∨ i' = 10 ∨ i' = 11 ∨ i' = 12 ∨ i' = 13 := by omega
      simp only [List.take_succ_cons, List.take_zero, putFrom, Act.put, List.setIfInBounds_toArray, List.set_cons_succ, List.set_cons_zero, Nat.zero_add, Nat.reduceAdd]
      have hcell := HLC.out w9 (HCS8.out.below hb)
      clear hb
      rcases hcs with rfl | rfl | rfl | rfl | rfl | rfl | rfl | rfl | rfl | rfl | rfl | rfl | rfl | rfl
      all_goals
       simp only [List.getElem?_cons_succ, List.getElem?_cons_zero, Option.some.injEq] at ho
       subst ho
       simp [Needs, Region.binds, ChB] at hd
      all_goals clear hi
      case inr.inr.inr.inr.inr.inr.inr.inr.inr.inr.inl =>
       have wn := HWN.out
       clear hcell
       go_wp2_with fail
       exact ⟨rfl, rfl, rfl, Below.refl _ _⟩
      case inr.inr.inr.inr.inr.inr.inr.inr.inr.inr.inr.inl =>
       obtain ⟨hd1, hd2⟩ := hd
       have hu1 := HU1.out
       clear hcell
       go_wp2_with fail
       exact ⟨rfl, rfl, rfl, Below.refl _ _⟩
      all_goals
       go_wp2_with fail
       exact ⟨rfl, rfl, rfl, Below.refl _ _⟩
     ·intro xs w9 hb hf
      have f11 := hf 11 (by omega)
      have f13 := hf 13 (by omega)
      simp only [ChB] at f11 f13
      have HCS9 := Bx.mk (HCS8.out.below hb)
      obtain ⟨gbx, capx, hvx, hB9, hlt9, hfr9, hown9, hgr9⟩ := HCS9.out.tr.own.set1 encL_ok i 0 HIL.out (by omega) (.slice (some ⟨lb, 0, none⟩) N1 lcap) (⟨(oc[i]'HIL.out).vs.take N1, ⟨some ⟨lb, 0, none⟩, N1, lcap⟩⟩ : Lv) rfl
      simp only [Value.slice.injEq, Option.some.injEq, Addr.mk.injEq, and_true] at hvx
      obtain ⟨hgbx, -, -⟩ := hvx
      subst hgbx
      rw [Nat.mul_one, Nat.add_zero] at hown9 hgr9
      have hni : ∀ q (hq : q < oc.length), (oc[q]).s.val.ownBlock ≠ some gb0 := fun q hq e => HCS9.out.tr.ao _ (List.getElem_mem hq) gb0 e rfl
      have hgq : GQ (w9.setCell ⟨gb0, i, none⟩ (.slice (some ⟨lb, 0, none⟩) N1 lcap)) (.slice (some ⟨gb0, 0, none⟩) N occ) (oc.set i ⟨(oc[i]'HIL.out).vs.take N1, ⟨some ⟨lb, 0, none⟩, N1, lcap⟩⟩) := by
       have kx : ∀ L ∈ oc, ∀ x ∈ L.vs, VtAt (w9.setCell ⟨gb0, i, none⟩ (.slice (some ⟨lb, 0, none⟩) N1 lcap)) x := fun L hL x hx =>
        (VtIn.keep (HCS9.out.tr.nm L hL x hx) hgr9.size fun k hk hkl => hgr9.block k hkl fun e => by
         simp only [Option.some.injEq] at e
         subst e
         exact hk (.inl rfl)).at_
       have kr : ∀ {v : Value} {l : List Vt}, Rd w9 encV v l → v.ownBlock ≠ some gb0 → Rd (w9.setCell ⟨gb0, i, none⟩ (.slice (some ⟨lb, 0, none⟩) N1 lcap)) encV v l := fun {v l} hr hne => hr.keep hgr9.size fun k hk hkl => hgr9.block k hkl fun e => hne (by rw [hk, e])
       refine ⟨hown9.rd, fun L hL => ?_⟩
       rcases List.mem_or_eq_of_mem_set hL with q | rfl
       ·obtain ⟨q', hq', rfl⟩ := List.getElem_of_mem q
        have hr := kr (HCS9.out.tr.lv _ (List.getElem_mem hq')).rd (hni q' hq')
        exact ⟨.inr ⟨hr, hr.lt⟩, fun x hx => (kx _ (List.getElem_mem hq') x hx).q⟩
       ·have hne : (Value.slice (some ⟨lb, 0, none⟩) N1 lcap).ownBlock ≠ some gb0 := by
         have := hni i HIL.out
         rw [HLB.out] at this
         exact this
        have hr := kr (HRU.out.below hb) hne
        exact ⟨.inr ⟨hr, hr.lt⟩, fun x hx => (kx _ (List.getElem_mem HIL.out) x (List.mem_of_mem_take hx)).q⟩
      have hbb : Below wq.heap.size w9 (w9.setCell ⟨gb0, i, none⟩ (.slice (some ⟨lb, 0, none⟩) N1 lcap)) := (show Below wq.heap.size w9 w9 from ⟨rfl, rfl, rfl, Nat.le_refl _, fun _ _ => rfl⟩).setCell hB9 _
      have HGQ := Bx.mk hgq
      have HDK := Bx.mk (deck_keep HCS9.out.dk hbb HGL.out HW0.out)
      have HGR := Bx.mk (show wq.grownBy (w9.setCell ⟨gb0, i, none⟩ (.slice (some ⟨lb, 0, none⟩) N1 lcap)) (some g) from ⟨hbb.os.trans HCS9.out.gr.os, hbb.tape.trans HCS9.out.gr.tape, hbb.output.trans HCS9.out.gr.output, Nat.le_trans HCS9.out.gr.size hbb.size, fun i hi hne => (hbb.block i hi).trans (HCS9.out.gr.block i hi hne)⟩)
      have HBF := Bx.mk (HBO.out.set i (L' := ⟨(oc[i]'HIL.out).vs.take N1, ⟨some ⟨lb, 0, none⟩, N1, lcap⟩⟩) (by
       have hb := HBO.out.2 _ (List.getElem_mem HIL.out)
       exact ⟨by show ((oc[i]'HIL.out).vs.take N1).length ≤ 2201; rw [List.length_take]; omega, fun y hy => hb.2 y (List.mem_of_mem_take hy)⟩))
      have hz9 := hfr9 i
      have hcl := HLC.out w9 HCS9.out
      simp only [List.take_succ_cons, List.take_zero, List.drop_succ_cons, List.drop_zero, putFrom, Act.put, List.setIfInBounds_toArray, List.set_cons_succ, List.set_cons_zero, Nat.zero_add, Nat.reduceAdd, f11, f13]
      clear hf hb f11 f13 hB9 hlt9 hfr9 hown9 hgr9 hni hgq hbb
      go_wp2_with fail
      rw [HQ.out]
      exact ⟨_, _, rfl, HGQ.out, HTD.out.grow HGR.out HDK.out, HGR.out, HBF.out⟩
    ·obtain ⟨VS, hVS⟩ : ∃ VS, VS = (oc[i]'HIL.out).vs := ⟨_, rfl⟩
     have HVS := Bx.mk hVS
     have HVL := Bx.mk (show ∀ W, CSG w v zs g wq W (.slice (some ⟨gb0, 0, none⟩) N occ) oc → Slc.Own W wq.heap.size 65 3 encV (.slice (some ⟨lb, 0, none⟩) NV lcap) VS from fun W hW => by
      have := hW.tr.lv _ (List.getElem_mem HIL.out)
      rw [HLB.out] at this
      rw [hVS]; exact this)
     have HNVS := Bx.mk (show NV = VS.length by rw [hVS]; exact HNV.out)
     have HLBL := Bx.mk (show lb < w8.heap.size ∧ gb0 < w8.heap.size ∧ lb ≠ gb0 from ⟨(HCS8.out.tr.lt (k := lb) (.inr ⟨_, List.getElem_mem HIL.out, by rw [HLB.out]; rfl⟩)).2, (HCS8.out.tr.lt (k := gb0) (.inl rfl)).2, fun e => HCS8.out.tr.ao _ (List.getElem_mem HIL.out) lb (by rw [HLB.out]; rfl) (by rw [e]; rfl)⟩)
     have HGL8 := Bx.mk (show g < w8.heap.size by have := HCS8.out.gr.size; have := HGL.out; omega)
     have HWQ := Bx.mk HCS8.out.gr.size
     obtain ⟨q12, hq12⟩ : ∃ q12 : List B, q12 = [[49, 46, 50]] := ⟨_, rfl⟩
     have HQ12 := Bx.mk hq12
     clear hVS hq12
     go_upto_region 20 with fail
     refine wp_region_factsH 15 (fun _ => none) (fun j => j == 6 || j == 12) (fun j z w' => ChC w8 gb0 i lb NV lcap g VS q12 j (z j) w')
      (fun d w' => (CSG w v zs g wq w' (.slice (some ⟨gb0, 0, none⟩) N occ) oc ∧ w8.heap.size ≤ w'.heap.size) ∨ (d 12 = true ∧ ∃ wz : World, (CSG w v zs g wq wz (.slice (some ⟨gb0, 0, none⟩) N occ) oc ∧ w8.heap.size ≤ wz.heap.size) ∧ wz.grownBy w' (some lb)))
      (fun j a b => if j = 6 then (a.grownBy b (some g) ∧ CSG w v zs g wq b (.slice (some ⟨gb0, 0, none⟩) N occ) oc ∧ w8.heap.size ≤ b.heap.size) else (a.grownBy b (some lb) ∧ CSG w v zs g wq a (.slice (some ⟨gb0, 0, none⟩) N occ) oc ∧ w8.heap.size ≤ a.heap.size)) ?_ mixed (by kernel_rfl) (by rfl) ?_ ?_ ?_ ?_ ?_ ?_ ?_
     ·exact .inl ⟨HCS8.out.below (drewN_below (Below.refl _ _) 1), Nat.le_refl _⟩
     ·intro j oj z y' w1' _ _ e _ hh
      show ChC _ _ _ _ _ _ _ _ _ j (y' j) w1'
      rw [← e]; exact hh
     ·exact fun j z w1' w2 hh hb => ChC.stable _ _ _ _ _ _ _ _ _ j _ _ _ hh hb
     ·intro d j w1' w2 hh hb' _ hB'
      rcases hh with h | ⟨h1, wz, h2, h4⟩
      ·exact .inl ⟨h.1.below hB', Nat.le_trans h.2 hB'.size⟩
      ·exact .inr ⟨by unfold mark; split <;> first | rfl | exact h1, wz, h2, h4.trans (grown_below hB')⟩
     ·intro d j oj w1' w2 _ _ hh hb' _ hg'
      have hj : j = 6 ∨ j = 12 := by simpa using hb'
      rcases hj with rfl | rfl
      ·exact .inl (by simpa using hg'.2)
      ·have hg2 : w1'.grownBy w2 (some lb) ∧ CSG w v zs g wq w1' (.slice (some ⟨gb0, 0, none⟩) N occ) oc ∧ w8.heap.size ≤ w1'.heap.size := by simpa using hg'
       exact .inr ⟨by simp [mark], w1', hg2.2, hg2.1⟩
     ·intro b ob' j z d w1' w2 hb' _ _ _ hne _ hcl hdj hdb hh hg'
      have hj : b = 6 ∨ b = 12 := by simpa using hb'
      rcases hj with rfl | rfl
      ·have hg2 : w1'.grownBy w2 (some g) ∧ CSG w v zs g wq w2 (.slice (some ⟨gb0, 0, none⟩) N occ) oc ∧ w8.heap.size ≤ w2.heap.size := by simpa using hg'
       by_cases e : j = 12
       ·subst e
        have h1 := waits_done (m := 6) hcl 5 12 (by rfl) hdj
        rw [hdb] at h1; cases h1
       ·exact ChC.big _ _ _ _ _ _ _ _ _ j _ _ _ hh e g HGL8.out hg2.1
      ·have hg2 : w1'.grownBy w2 (some lb) ∧ CSG w v zs g wq w1' (.slice (some ⟨gb0, 0, none⟩) N occ) oc ∧ w8.heap.size ≤ w1'.heap.size := by simpa using hg'
       exact ChC.big _ _ _ _ _ _ _ _ _ j _ _ _ hh hne lb HLBL.out.1 hg2.1
     ·intro j o hj ho d z w9 hcl hdi hrd hCC hd
      have hcs : j = 0 ∨ j = 1 ∨ j = 2 ∨ j = 3 ∨ j = 4 ∨ j = 5 ∨ j = 6 ∨ j = 7 ∨ j = 8 ∨ j = 9 ∨ j = 10 ∨ j = 11 ∨ j = 12 ∨ j = 13 ∨ j = 14 := by omega
      have HS9 := Bx.mk (show w8.heap.size ≤ w9.heap.size by
       rcases hCC with h | ⟨-, wz, h2, h4⟩
       ·exact h.2
       ·exact Nat.le_trans h2.2 h4.size)
      have l1 : w9.cell? ⟨gb0, i, none⟩ = some (.slice (some ⟨lb, 0, none⟩) NV lcap) := by
       rcases hCC with h | ⟨-, wz, h2, h4⟩
       ·exact HLC.out w9 h.1
       ·have h5 := HLC.out wz h2.1
        have h6 := h4.block gb0 (World.block_lt_of_cell? wz _ h5) (fun e => by simp only [Option.some.injEq] at e; exact HLBL.out.2.2 e.symm)
        unfold World.cell? at h5 ⊢
        rw [h6]; exact h5
      have HCC := Bx.mk hCC
      have HDI := Bx.mk hdi
      have HCL := Bx.mk hcl
      clear hcl hrd hCC
      simp only [List.take_succ_cons, List.take_zero, putFrom, Act.put, List.setIfInBounds_toArray, List.set_cons_succ, List.set_cons_zero, Nat.zero_add, Nat.reduceAdd]
      rcases hcs with rfl | rfl | rfl | rfl | rfl | rfl | rfl | rfl | rfl | rfl | rfl | rfl | rfl | rfl | rfl
      case inr.inr.inr.inr.inr.inr.inl =>
       have HI9 : Bx (CSG w v zs g wq w9 (.slice (some ⟨gb0, 0, none⟩) N occ) oc ∧ w8.heap.size ≤ w9.heap.size) := ⟨by
        rcases HCC.out with h | ⟨h1, -⟩
        ·exact h
        ·have h2 := waits_done (m := 6) HCL.out 5 12 (by rfl) h1
         rw [HDI.out] at h2; cases h2⟩
       simp only [List.getElem?_cons_succ, List.getElem?_cons_zero, Option.some.injEq] at ho
       subst ho
       simp [NeedsB, Region.binds, ChC] at hd
       clear hj hdi l1 HCC HDI HCL
       have hnx := next_any w v zs w9 g 8 HI9.out.1.dk (by omega) (by omega)
       go_wp2_with (first | (refine hnx.mono ?_; rintro e w10 ⟨r10, rfl, a10, b10, hD10, hg10⟩))
       obtain ⟨rn, rfl⟩ : ∃ rn : Nat, r10 = (rn : Int) := ⟨r10.toNat, by omega⟩
       exact ⟨rfl, rfl, ⟨rn, rfl, by omega⟩, hg10, HI9.out.1.grow HGL.out hg10 hD10, Nat.le_trans HI9.out.2 hg10.size⟩
      case inr.inr.inr.inr.inr.inr.inr.inr.inr.inr.inr.inr.inl =>
       have HI9 : Bx (CSG w v zs g wq w9 (.slice (some ⟨gb0, 0, none⟩) N occ) oc ∧ w8.heap.size ≤ w9.heap.size) := ⟨by
        rcases HCC.out with h | ⟨h1, -⟩
        ·exact h
        ·rw [HDI.out] at h1; cases h1⟩
       simp only [List.getElem?_cons_succ, List.getElem?_cons_zero, Option.some.injEq] at ho
       subst ho
       simp [NeedsB, Region.binds, ChC] at hd
       clear hj hdi l1 HCC HDI HCL
       obtain ⟨h4, ⟨b, h11, hbW, p, s, q, hrow, hp100, ho8, ho9⟩, -⟩ := hd
       have hsr : SrcV w9 3 (.slice (some ⟨b, 0, none⟩) 1 1) 1 ([(⟨⟨p, q12, [0]⟩, s, q⟩ : Vt)].flatMap encV) := src_new encV_ok hrow
       rw [← h11] at hsr
       have hvl := HVL.out w9 HI9.out.1
       have HOWR := Bx.mk (show World.ownsRow w9 wq.heap.size 65 3 (z 4) NV (VS.flatMap encV) by
        have := hvl
        unfold Slc.Own at this
        rw [← HNVS.out] at this
        rw [h4]; exact this)
       have hbz : wq.heap.size ≤ w9.heap.size := Nat.le_trans HWQ.out HI9.out.2
       have hm1 : NV + 1 ≤ maxLen := by unfold maxLen; omega
       have hm2 : (NV + 1) * 64 ≤ 140737488355328 := by omega
       have HO8 := Bx.mk ho8
       have HO9 := Bx.mk ho9
       have H4 := Bx.mk h4
       have HP := Bx.mk hp100
       clear h11 hrow ho8 ho9 hvl h4
       go_wp2_with (at_builtin; refine wpList_append_any rfl _ _ _ rfl wq.heap.size 65 i0 _ 3 64 und_vers hi0 hz0 hz1 hz2 rfl (by decide) (z 4) NV (VS.flatMap encV) rfl HOWR.out (z 11) 1 ([(⟨⟨p, q12, [0]⟩, s, q⟩ : Vt)].flatMap encV) rfl hsr hm1 hm2 hbz ?_)
       intro v10 w10 ha
       have hgr := ha.grown
       have hbl := ha.blk
       rw [H4.out] at hgr hbl
       have hown := (HVL.out w9 HI9.out.1).apd (m := [(⟨⟨p, q12, [0]⟩, s, q⟩ : Vt)]) rfl rfl HNVS.out rfl (H4.out ▸ ha)
       obtain ⟨t, ht⟩ := sl_of hown
       subst ht
       have kp : ∀ {α : Type} {t : TypeId} {n : Nat} {enc : α → List Value} {v : Value} {l : List α}, Slc.Own w9 w8.heap.size t n enc v l → Slc.Own w10 w8.heap.size t n enc v l := fun {_ _ _ _ _ _} ho => ho.keep fun k hk hkl => hgr.block k hkl fun e => by
        have h1 := (ho.lt k hk).1
        have h2 : k = lb := by simpa [Value.ownBlock] using e
        have := HLBL.out.1
        omega
       have HK8 := Bx.mk (kp HO8.out)
       have HK9 := Bx.mk (kp HO9.out)
       have HGR := Bx.mk (show w9.grownBy w10 (some lb) from hgr)
       have HOWN := Bx.mk hown
       have HBL := Bx.mk (show (Sl.val t).ownBlock = some lb ∨ ∃ z, (Sl.val t).ownBlock = some z ∧ w8.heap.size ≤ z from hbl.elim (fun e => .inl e) fun e => .inr ⟨_, e, HI9.out.2⟩)
       clear ha hgr hbl hown kp hsr hm1 hm2 hbz
       simp only [Sl.val]
       go_wp2_with fail
       exact ⟨rfl, rfl, ⟨t, p, s, q, wq.heap.size, rfl, HP.out, HK8.out, HK9.out, HOWN.out, HBL.out⟩, HGR.out, HI9.out⟩
      all_goals
       simp only [List.getElem?_cons_succ, List.getElem?_cons_zero, Option.some.injEq] at ho
       subst ho
       simp [NeedsB, Region.binds, ChC] at hd
      all_goals clear hj hdi HCC HDI HCL
      case inr.inr.inr.inr.inr.inr.inr.inl =>
       obtain ⟨r, h6, hr⟩ := hd
       have hpo := policy_any w9 r (by omega)
       clear l1 hr
       go_wp2_with (go_at_call 35; refine hpo.mono ?_; rintro e w10 ⟨p, rfl, hp100, hb10⟩)
       exact ⟨rfl, rfl, ⟨p, rfl, hp100⟩, hb10⟩
      case inr.inr.inr.inr.inr.inr.inr.inr.inl =>
       clear l1
       go_wp2_with fail
       have hA : Below w9.heap.size w9 (w9.alloc (.cells #[.string ⟨#[49, 46, 50]⟩] 9)) := (Below.refl _ _).alloc (Nat.le_refl _) _
       exact ⟨rfl, rfl, ⟨⟨some ⟨w9.heap.size, 0, none⟩, 1, 1⟩, rfl, by rw [HQ12.out]; exact own_alloc encS_ok w9 [([49, 46, 50] : B)] _ rfl HS9.out (by unfold maxLen; simp)⟩, hA⟩
      case inr.inr.inr.inr.inr.inr.inr.inr.inr.inl =>
       clear l1
       go_wp2_with fail
       have hA : Below w9.heap.size w9 (w9.alloc (.cells #[.int .i64 0] 3)) := (Below.refl _ _).alloc (Nat.le_refl _) _
       exact ⟨rfl, rfl, ⟨⟨some ⟨w9.heap.size, 0, none⟩, 1, 1⟩, rfl, own_alloc encI_ok w9 [(0 : Int)] _ rfl HS9.out (by unfold maxLen; simp)⟩, hA⟩
      case inr.inr.inr.inr.inr.inr.inr.inr.inr.inr.inl =>
       obtain ⟨⟨p, h7, hp⟩, ⟨s, h8, ho8⟩, ⟨q, h9, ho9⟩⟩ := hd
       have HO8 := Bx.mk ho8
       have HO9 := Bx.mk ho9
       have HP := Bx.mk hp
       clear l1 ho8 ho9 hp
       go_wp2_with fail
       exact ⟨rfl, rfl, ⟨p, s, q, rfl, HP.out, HO8.out, HO9.out⟩, Below.refl _ _⟩
      case inr.inr.inr.inr.inr.inr.inr.inr.inr.inr.inr.inl =>
       obtain ⟨p, s, q, h10, hp, ho8, ho9⟩ := (show ∃ (p : B) (s q : Sl), z 10 = .agg #[.string (bstr p), .slice s.ad s.n s.c, .slice q.ad q.n q.c] ∧ p.length ≤ 100 ∧ Slc.Own w9 w8.heap.size 9 1 encS s.val q12 ∧ Slc.Own w9 w8.heap.size 3 1 encI q.val [0] by
        first
         | exact hd
         | (obtain ⟨p, ⟨s, q, e1, e2, e3, e4⟩⟩ := hd; exact ⟨p, s, q, e1, e2, e3, e4⟩)
         | (obtain ⟨p, s, q, e1, e2, e3, e4⟩ := hd; exact ⟨p, s, q, e1, e2, e3, e4⟩))
       have HO8 := Bx.mk ho8
       have HO9 := Bx.mk ho9
       have HP := Bx.mk hp
       clear l1 ho8 ho9 hp hd
       go_wp2_with fail
       have hA : Below w9.heap.size w9 (w9.alloc (.cells #[.string (bstr p), .slice s.ad s.n s.c, .slice q.ad q.n q.c] 65)) := (Below.refl _ _).alloc (Nat.le_refl _) _
       exact ⟨rfl, rfl, ⟨_, p, s, q, rfl, HS9.out, heap_alloc_new _ _, HP.out, HO8.out.below hA, HO9.out.below hA⟩, hA⟩
      all_goals
       go_wp2_with fail
       exact ⟨rfl, rfl, rfl, Below.refl _ _⟩
     ·intro d z w9 hall hCC hf
      have f12 := hf 12 (by omega) (fun c hc => by cases hc)
      have f14 := hf 14 (by omega) (fun c hc => by cases hc)
      simp only [ChC] at f12 f14
      obtain ⟨t, p, s, q, B0, f12, hp100, ho8, ho9, hown, hbl⟩ := f12
      obtain ⟨wz, hcz, hgz⟩ : ∃ wz : World, (CSG w v zs g wq wz (.slice (some ⟨gb0, 0, none⟩) N occ) oc ∧ w8.heap.size ≤ wz.heap.size) ∧ wz.grownBy w9 (some lb) := by
       rcases hCC with h | ⟨-, wz, h2, h4⟩
       ·exact ⟨w9, h, grown_refl _ _⟩
       ·exact ⟨wz, h2, h4⟩
      have hlbG : GB (.slice (some ⟨gb0, 0, none⟩) N occ) oc lb := .inr ⟨_, List.getElem_mem HIL.out, by rw [HLB.out]; rfl⟩
      have hlz : lb < w8.heap.size ∧ gb0 < w8.heap.size ∧ lb ≠ gb0 := HLBL.out
      have hlo : Slc.Own w9 wq.heap.size 63 1 encL (.slice (some ⟨gb0, 0, none⟩) N occ) oc := hcz.1.tr.own.keep fun k hk hkl => hgz.block k hkl fun e => by
       simp only [Option.some.injEq] at e
       have h2 : gb0 = k := by simpa [Value.ownBlock] using hk
       exact hlz.2.2 (by rw [← e, ← h2])
      obtain ⟨gbx, capx, hvx, hB9, hlt9, hfr9, hown9, hgr9⟩ := hlo.set1 encL_ok i 0 HIL.out (by omega) t.val (⟨VS ++ [⟨⟨p, q12, [0]⟩, s, q⟩], t⟩ : Lv) rfl
      simp only [Value.slice.injEq, Option.some.injEq, Addr.mk.injEq, and_true] at hvx
      obtain ⟨hgbx, -, -⟩ := hvx
      subst hgbx
      rw [Nat.mul_one, Nat.add_zero] at hown9 hgr9
      obtain ⟨W10, hW10⟩ : ∃ W10, W10 = w9.setCell ⟨gb0, i, none⟩ t.val := ⟨_, rfl⟩
      rw [← hW10] at hown9 hgr9
      have hmv : ∀ k, k < w9.heap.size → k ≠ gb0 → W10.heap[k]? = w9.heap[k]? := fun k hk hne => hgr9.block k hk fun e => by simp only [Option.some.injEq] at e; exact hne e
      have kx : ∀ L ∈ oc, ∀ x ∈ L.vs, VtAt W10 x := fun L hL x hx => by
       have h1 : VtIn w9 (fun k => ¬ GB (.slice (some ⟨gb0, 0, none⟩) N occ) oc k) x := (hcz.1.tr.nm L hL x hx).keep hgz.size fun k hk hkl => hgz.block k hkl fun e => by
        simp only [Option.some.injEq] at e
        subst e; exact hk hlbG
       exact (h1.keep hgr9.size fun k hk hkl => hmv k hkl fun e => by subst e; exact hk (.inl rfl)).at_
      have hgq : GQ W10 (.slice (some ⟨gb0, 0, none⟩) N occ) (oc.set i ⟨VS ++ [⟨⟨p, q12, [0]⟩, s, q⟩], t⟩) := by
       refine ⟨hown9.rd, fun L hL => ?_⟩
       obtain ⟨q', hq', rfl⟩ := List.getElem_of_mem hL
       rw [List.length_set] at hq'
       rw [List.getElem_set]
       by_cases eqi : i = q'
       rotate_left 1
       ·rw [if_neg eqi]
        have hr0 := (hcz.1.tr.lv _ (List.getElem_mem hq')).rd
        have hr1 : Rd w9 encV (oc[q']).s.val (oc[q']).vs := hr0.keep hgz.size fun k hk hkl => hgz.block k hkl fun e => by
         simp only [Option.some.injEq] at e
         exact hcz.1.tr.ap q' i hq' HIL.out (fun e => eqi e.symm) k hk (by rw [HLB.out, e]; rfl)
        have hr : Rd W10 encV (oc[q']).s.val (oc[q']).vs := hr1.keep hgr9.size fun k hk hkl => hmv k hkl fun e => by
         subst e
         exact hcz.1.tr.ao _ (List.getElem_mem hq') k hk rfl
        exact ⟨.inr ⟨hr, hr.lt⟩, fun x hx => (kx _ (List.getElem_mem hq') x hx).q⟩
       ·rw [if_pos eqi]
        have hr : Rd W10 encV t.val (VS ++ [⟨⟨p, q12, [0]⟩, s, q⟩]) := hown.rd.keep hgr9.size fun k hk hkl => hmv k hkl fun e => by
         subst e
         rcases hbl with e1 | ⟨z', e1, e2⟩
         ·rw [hk] at e1; simp only [Option.some.injEq] at e1; exact hlz.2.2 e1.symm
         ·rw [hk] at e1; simp only [Option.some.injEq] at e1; omega
        refine ⟨.inr ⟨hr, hr.lt⟩, fun x hx => ?_⟩
        rcases List.mem_append.1 hx with e | e
        ·exact (kx _ (List.getElem_mem HIL.out) x (by rw [← HVS.out]; exact e)).q
        ·rw [List.mem_singleton] at e
         subst e
         have h8 : Rd W10 encS s.val q12 := ho8.rd.keep hgr9.size fun k hk hkl => hmv k hkl fun e => by have := (ho8.lt k hk).1; omega
         have h9 : Rd W10 encI q.val [0] := ho9.rd.keep hgr9.size fun k hk hkl => hmv k hkl fun e => by have := (ho9.lt k hk).1; omega
         refine ⟨.inr h8, .inr ⟨h9, h9.lt⟩, ⟨by rw [HQ12.out]; simp, fun b hb => ?_⟩, ?_, ?_⟩
         ·rw [HQ12.out, List.mem_singleton] at hb
          subst hb
          show 3 ≤ 1000000
          omega
         ·show p.length ≤ 1000000; omega
         ·show 1 ≤ 100000; omega
      have hbb : Below wq.heap.size wz W10 := by
       have h1 : Below wq.heap.size wz w9 := (show Below wq.heap.size wz wz from ⟨rfl, rfl, rfl, Nat.le_refl _, fun _ _ => rfl⟩).grown hgz (Nat.le_trans HWQ.out hcz.2) fun k hk => by simp only [Option.some.injEq] at hk; subst hk; exact (hcz.1.tr.lt hlbG).1
       exact h1.grown hgr9 (Nat.le_trans (Nat.le_trans HWQ.out hcz.2) hgz.size) fun k hk => by simp only [Option.some.injEq] at hk; subst hk; exact (hcz.1.tr.lt (k := gb0) (.inl rfl)).1
      have HGQ := Bx.mk hgq
      have HDK := Bx.mk (deck_keep hcz.1.dk hbb HGL.out HW0.out)
      have HGR := Bx.mk (show wq.grownBy W10 (some g) from ⟨hbb.os.trans hcz.1.gr.os, hbb.tape.trans hcz.1.gr.tape, hbb.output.trans hcz.1.gr.output, Nat.le_trans hcz.1.gr.size hbb.size, fun i hi hne => (hbb.block i (by
       exact hi)).trans (hcz.1.gr.block i hi hne)⟩)
      have HBF := Bx.mk (HBO.out.set i (L' := ⟨VS ++ [⟨⟨p, q12, [0]⟩, s, q⟩], t⟩) (by
       have hb := HBO.out.2 _ (List.getElem_mem HIL.out)
       refine ⟨by show (VS ++ [_]).length ≤ 2201; rw [List.length_append, List.length_singleton, HVS.out]; have := GI_len.out; omega, fun y hy => ?_⟩
       rcases List.mem_append.1 hy with e | e
       ·exact hb.2 y (by rw [← HVS.out]; exact e)
       ·rw [List.mem_singleton] at e
        subst e
        show q12.length ≤ 5
        rw [HQ12.out]; simp))
      have hz9 := hfr9 i
      have hcl : w9.cell? ⟨gb0, i, none⟩ = some (.slice (some ⟨lb, 0, none⟩) NV lcap) := by
       have h5 := HLC.out wz hcz.1
       have h6 := hgz.block gb0 (World.block_lt_of_cell? wz _ h5) (fun e => by simp only [Option.some.injEq] at e; exact hlz.2.2 e.symm)
       unfold World.cell? at h5 ⊢
       rw [h6]; exact h5
      have HW10 := Bx.mk hW10
      simp only [List.take_succ_cons, List.take_zero, List.drop_succ_cons, List.drop_zero, putFrom, Act.put, List.setIfInBounds_toArray, List.set_cons_succ, List.set_cons_zero, Nat.zero_add, Nat.reduceAdd, f12, f14]
      clear hf f12 f14 hall hCC hp100 ho8 ho9 hown hbl hcz hgz hlbG hlz hlo hB9 hlt9 hfr9 hown9 hgr9 hW10 hmv kx hgq hbb
      simp only [Sl.val] at HW10
      go_wp2_with fail
      rw [← HW10.out]
      rw [HQ.out]
      exact ⟨_, _, rfl, HGQ.out, HTD.out.grow HGR.out HDK.out, HGR.out, HBF.out⟩
    ·go_wp2_with fail
     rw [HQ.out]
     exact ⟨_, oc, rfl, HCS8.out.tr.gl.q, HTD.out.grow HCS8.out.gr HCS8.out.dk, HCS8.out.gr, HBO.out⟩
end Go.Proofs.YtmagjdocondmhaaGreat.Tr.Gr
