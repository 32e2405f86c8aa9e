/-
pgraph.level.
pgraph.table.
Map's own function: which policies are mapped; slices.IndexFunc with it.
-/
import Derived.Test.YtmagjdocondmhaaGreatPkSs11
import Derived.Test.YtmagjdocondmhaaGreatPkSs08
namespace Go.Proofs.YtmagjdocondmhaaGreat.Tr.Gr
open Go Go.RowKit Go.Proofs.YtmagjdocondmhaaGreat.Slc Go.Proofs.YtmagjdocondmhaaGreat.St Go.Proofs.YtmagjdocondmhaaGreat.Mp Go.Proofs.YtmagjdocondmhaaGreat.Tr Go.Proofs.YtmagjdocondmhaaGreat.Rg
set_option linter.unusedVariables false
set_option linter.unusedSimpArgs false
attribute [local go_sem] Oper.semAt_some

theorem kb_far {n p : Nat} {A B : World} {r : Option Nat} (h : A.grownBy B r) (hn : n ≤ A.heap.size) (hr : ∀ k, r = some k → n ≤ k) : KB n p A B :=
  ⟨h.os, h.tape, h.output, h.size, fun k hk _ => h.block k (by omega) (fun e => by have := hr k e.symm; omega)⟩
theorem kb_below {n p m : Nat} {A B : World} (h : KB n p A B) (h1 : m ≤ n) (h2 : m ≤ p) : Below m A B := ⟨h.os, h.tape, h.output, h.size, fun k hk => h.block k (by omega) (by omega)⟩
theorem str_at {w : World} {ad : Option Addr} {n c : Nat} {l : List B} (h : Rd w encS (.slice ad n c) l) (k : Nat) (hk : k < l.length) : ∃ b o, ad = some ⟨b, o, none⟩ ∧ b < w.heap.size ∧ ∀ W : World, W.heap[b]? = w.heap[b]? → W.cell? ⟨b, o + k, none⟩ = some (.string (bstr l[k])) := by
  obtain ⟨b, o, c', hv, _, hlt, hc⟩ := h.cells encS_ok (by omega)
  simp only [Value.slice.injEq] at hv
  refine ⟨b, o, hv.1, hlt, fun W hW => ?_⟩
  have q := hc W (fun k' hk' => by
    rw [hv.1] at hk'
    simp only [Value.ownBlock, Option.some.injEq] at hk'
    rw [← hk']; exact hW) k hk 0 _ (by omega) rfl
  rw [Nat.mul_one, Nat.add_zero] at q
  exact q
/-- the vertex of a policy in a new level -/
def lvV (h : B → List Int) (p : B) : Vx := ⟨p, [p], h p⟩
/-- vertices that the call has made so far -/
structure LvO (w wr : World) (B7 : Nat) (S : Nat → Prop) (v : Value) (L : List Vt) : Prop where
  own : Slc.Own wr B7 65 3 encV v L
  u : ∀ x ∈ L, RdIn wr (fun k => B7 ≤ k ∧ v.ownBlock ≠ some k) encS x.u.val x.n.ex
  q : ∀ x ∈ L, RdIn w S encI x.q.val x.n.par
/-- what level has made -/
structure LvP (w w' : World) (S : Nat → Prop) (v : Value) (L : List Vt) : Prop where
  own : Slc.Own w' w.heap.size 65 3 encV v L
  u : ∀ x ∈ L, RdIn w' (fun k => w.heap.size ≤ k ∧ v.ownBlock ≠ some k) encS x.u.val x.n.ex
  q : ∀ x ∈ L, RdIn w' S encI x.q.val x.n.par
set_option maxRecDepth 100000 in
set_option maxHeartbeats 8000000 in
theorem level_any (w : World) (b q : Nat) (f : B → Option Sg) (h : B → List Int) (S : Nat → Prop) (ks : List B) (hm : OwnF w kS rdS edS b q f) (hq : q ≤ 1000000) (hrd : ∀ p s, f p = some s → RdIn w S encI s.val (h p)) (ha : Asc ks) (hmem : ∀ k, k ∈ ks ↔ (f k).isSome = true) (hkl : ks.length ≤ 1000000) (hpl : ∀ p ∈ ks, p.length ≤ 1000000) :
    Calls Tryz.prog 53 #[.map (some b)] w fun e w' => ∃ v L, e = .returned (.agg #[v]) ∧ LvP w w' S v L ∧ vxs L = ks.map (lvV h) ∧ Below w.heap.size w w' := by
  obtain ⟨iv, hiv, hiv0, hiv1, hiv2⟩ := info_parts info_ver
  obtain ⟨il, hil, hil0, hil1, hil2⟩ := info_parts info_lev
  have HRD := Bx.mk hrd
  have HBL := Bx.mk hm.lt
  have HMEM := Bx.mk hmem
  have HPL := Bx.mk hpl
  obtain ⟨c2, hc2⟩ : ∃ c, c = w.heap.size := ⟨_, rfl⟩
  have HC2 := Bx.mk hc2
  obtain ⟨W0, hW0⟩ : ∃ W0, W0 = w.alloc (.cells #[.slice none 0 0] 63) := ⟨_, rfl⟩
  have hs0 : W0.heap.size = w.heap.size + 1 := by rw [hW0]; simp
  obtain ⟨c3, hc3⟩ : ∃ c, c = w.heap.size + 1 := ⟨_, rfl⟩
  have HC3 := Bx.mk (show c3 = c2 + 1 by rw [hc3, hc2])
  obtain ⟨W1, hW1⟩ : ∃ W1, W1 = W0.alloc (.cells #[.slice none 0 0] 63) := ⟨_, rfl⟩
  have hb1 : Below w.heap.size w W1 := by
    rw [hW1]
    have h0 : Below w.heap.size w W0 := by rw [hW0]; exact (Below.refl _ _).alloc (Nat.le_refl _) _
    exact h0.alloc (by rw [hs0]; omega) _
  have HB1 := Bx.mk hb1
  have HR2 := Bx.mk (show W1.heap[c2]? = some (.cells #[.slice none 0 0] 63 (0, 0)) by
    rw [hW1]
    refine alloc_keep ?_
    rw [hW0, hc2]; exact heap_alloc_new _ _)
  have HR3 := Bx.mk (show W1.heap[c3]? = some (.cells #[.slice none 0 0] 63 (0, 0)) by rw [hW1, hc3, ← hs0]; exact heap_alloc_new _ _)
  have HS1 := Bx.mk (show W1.heap.size = c3 + 1 by rw [hW1, hc3]; simp [hs0])
  have hm1 := hm.below hb1
  have hsk := sortedTI b q f W1 hm1 hq ks ha hmem
  have hkk := keysTI (some b) W1
  obtain ⟨W6, hW6⟩ : ∃ W6, W6 = W1.alloc (.cells #[.map (some b)] 77) := ⟨_, rfl⟩
  obtain ⟨kb, hkb⟩ : ∃ kb, kb = W1.heap.size := ⟨_, rfl⟩
  have HKB := Bx.mk hkb
  have HB6 := Bx.mk (show Below W1.heap.size W1 W6 by rw [hW6]; exact (Below.refl _ _).alloc (Nat.le_refl _) _)
  have HS6 := Bx.mk (show W6.heap.size = kb + 1 by rw [hW6, hkb]; simp)
  rw [← hW6, ← hkb] at hsk hkk
  have HM1 := Bx.mk hm1
  clear hm hm1 hrd hmem hpl hb1 hW6 hkb hs0
  go_enter Tryz.func53, Tryz.ntmps53
  go_upto_region 2 with fail
  rw [← hW0, ← hW1, ← hc3, ← hc2]
  clear hW0 hW1 hc2 hc3
  go_wp2_with fail
  go_at_call 102
  refine hkk.mono ?_
  rintro e w6 ⟨rfl, rfl⟩
  clear hkk
  go_wp2_with fail
  go_at_call 63
  refine hsk.mono ?_
  rintro e w7 ⟨sv, rfl, ho7, hb7⟩
  obtain ⟨sa, sc, rfl, -⟩ := ho7.rd.form
  have HB7 := Bx.mk (show Below W1.heap.size W1 w7 from HB6.out.trans (hb7.mono (by have := HKB.out; omega)))
  have hs7 := HB7.out.size
  have H7 := Bx.mk (show c3 + 1 ≤ w7.heap.size by have := HS1.out; omega)
  have HBW7 := Bx.mk (show Below w.heap.size w w7 from HB1.out.trans (HB7.out.mono HB1.out.size))
  have HM7 := Bx.mk (HM1.out.below HB7.out)
  have HKR := Bx.mk ho7.rd
  have HKO := Bx.mk (show ∀ j, (Value.slice sa ks.length sc).ownBlock = some j → c3 < j from fun j hj => by have := (ho7.lt j hj).1; have := HKB.out; have := HS1.out; omega)
  have H27 := Bx.mk ((HB7.out.block c2 (by have := HC3.out; have := HS1.out; omega)).trans HR2.out)
  have H37 := Bx.mk ((HB7.out.block c3 (by have := HS1.out; omega)).trans HR3.out)
  obtain ⟨B7, hB7⟩ : ∃ B7, B7 = w7.heap.size := ⟨_, rfl⟩
  have HZ7 := Bx.mk hB7
  obtain ⟨N, hN⟩ : ∃ N, N = ks.length := ⟨_, rfl⟩
  have HN := Bx.mk hN
  rw [← hN] at hkl ⊢
  clear hsk ho7 hb7 HR2 HR3 hs7 hB7 hN ha
  go_wp2_with fail
  go_loopw [10] (fun i wr => ∃ (k : Nat) (v : Value) (L : List Vt), k ≤ N ∧ i = .int .i64 k ∧ Bx (KB B7 c3 w7 wr) ∧ Bx (wr.heap[c3]? = some (.cells #[v] 63 (0, 0))) ∧ Bx (LvO w wr B7 S v L) ∧ Bx (vxs L = (ks.take k).map (lvV h))) (fun i _ => N - (intOf i).toNat)
  case atStart => exact ⟨0, _, [], by omega, rfl, ⟨KB.refl _ _ _⟩, H37, ⟨⟨Slc.Own.nil _ _, (fun x hx => by cases hx), (fun x hx => by cases hx)⟩⟩, ⟨by simp [vxs]⟩⟩
  case round =>
    clear H37
    obtain ⟨k, v, L, hk, rfl, hK, hR, hL, hV⟩ := hrel
    have HC3N := Bx.mk (show c3 < B7 by have := H7.out; have := HZ7.out; omega)
    by_cases hlt : k < N
    · have hkl2 : k < ks.length := by rw [← HN.out]; exact hlt
      obtain ⟨bs, os, rfl, hbl, hcs⟩ := str_at HKR.out k hkl2
      have c0 := hcs wr (hK.out.block bs (by have := HZ7.out; omega) (by have := HKO.out bs rfl; omega))
      have HTK := Bx.mk (show (ks.take (k + 1)).map (lvV h) = (ks.take k).map (lvV h) ++ [lvV h ks[k]] by rw [List.take_succ_eq_append_getElem hkl2, List.map_append]; rfl)
      have HPK := Bx.mk (HPL.out ks[k] (List.getElem_mem hkl2))
      have HFK := Bx.mk ((HMEM.out ks[k]).1 (List.getElem_mem hkl2))
      obtain ⟨p, hp⟩ : ∃ p, p = ks[k] := ⟨_, rfl⟩
      rw [← hp] at c0 HTK HPK HFK
      obtain ⟨s0, hs0⟩ := Option.isSome_iff_exists.1 HFK.out
      have HRS := Bx.mk (HRD.out p s0 hs0)
      have HLEN := Bx.mk (show L.length = k by have := congrArg List.length hV.out; simp only [vxs, List.length_map, List.length_take] at this; omega)
      obtain ⟨va, vc, rfl, -⟩ := hL.out.own.rd.form
      have HW := Bx.mk (show B7 ≤ wr.heap.size by have := hK.out.size; have := HZ7.out; omega)
      have HVL := Bx.mk (show ∀ j, (Value.slice va L.length vc).ownBlock = some j → B7 ≤ j ∧ j < wr.heap.size from fun j hj => hL.out.own.lt j hj)
      have HBWR := Bx.mk (show Below w.heap.size w wr from HBW7.out.trans (kb_below hK.out (by have := HBW7.out.size; have := HZ7.out; omega) (by have := HC3.out; have := HC2.out; omega)))
      have hb3 : b ≠ c3 := by have := HBL.out; have := HC3.out; have := HC2.out; omega
      have HLOOK := Bx.mk (show ∀ W : World, wr.grownBy W (Value.slice va L.length vc).ownBlock → (Instr.lookup 77 (.map (some b)) (.string (bstr p)) false).run Tryz.prog W = .ok s0.val W from fun W hW => by
        have h1 := HM7.out.block (w' := wr) (hK.out.block b (by have := HM7.out.lt; have := HZ7.out; omega) hb3)
        have h2 := h1.kept hW (fun e => by have := (HVL.out b e.symm).1; have := HM7.out.lt; have := HZ7.out; omega)
        have := (h2.lookS u_mapSI Sg.val nilS (Tryz.zeroValue22 _) rdS_mk rdS_inv (k := p) (by have := HPK.out; unfold maxLen; omega)).1
        rw [hs0] at this
        exact this)
      have HR3 := Bx.mk hR.out
      clear hbl hcs hp hkl2 HFK hb3 hs0
      have hsf : ∃ ya yn yc, s0.val = .slice ya yn yc := ⟨_, _, _, rfl⟩
      obtain ⟨ya, yn, yc, hsf⟩ := hsf
      have HSF := Bx.mk hsf
      have hrow3 := hR.out
      have m3 := cell_of_row _ _ 0 _ _ _ hrow3
      simp only [List.getElem?_toArray, List.getElem?_cons_zero, List.getElem?_cons_succ] at m3
      have hba : ∀ {A : World} (o : Obj), Below A.heap.size A (A.alloc o) := fun {A} o => (Below.refl _ _).alloc (Nat.le_refl _) _
      have hgn : wr.grownBy (wr.alloc (.cells #[.string (bstr p)] 9)) (Value.slice va L.length vc).ownBlock := by
        have := hba (A := wr) (.cells #[.string (bstr p)] 9)
        exact ⟨this.os, this.tape, this.output, this.size, fun j hj _ => this.block j hj⟩
      have hlook := HLOOK.out _ hgn
      rw [hsf] at hlook
      have HOWN := Bx.mk (show Slc.Own ((wr.alloc (.cells #[.string (bstr p)] 9)).alloc (.cells #[.string (bstr p), .slice (some ⟨wr.heap.size, 0, none⟩) 1 1, .slice ya yn yc] 65)) B7 65 3 encV (.slice va L.length vc) L from (hL.out.own.below (hba _)).below (hba _))
      have hwz : (wr.alloc (.cells #[.string (bstr p)] 9)).heap.size = wr.heap.size + 1 := by simp
      obtain ⟨y, hy⟩ : ∃ y : Vt, y = ⟨lvV h p, ⟨some ⟨wr.heap.size, 0, none⟩, 1, 1⟩, ⟨s0.ad.map fun q => ⟨q.1, q.2, none⟩, s0.n, s0.c⟩⟩ := ⟨_, rfl⟩
      have hyq : y.q.val = s0.val := by
        rw [hy]
        cases h : s0.ad <;> simp [Sl.val, Sg.val, h]
      have HSRC := Bx.mk (show SrcV ((wr.alloc (.cells #[.string (bstr p)] 9)).alloc (.cells #[.string (bstr p), .slice (some ⟨wr.heap.size, 0, none⟩) 1 1, .slice ya yn yc] 65)) 3 (.slice (some ⟨wr.heap.size + 1, 0, none⟩) 1 1) 1 ([y].flatMap encV) from by
        have h1 := src_ver (wr.alloc (.cells #[.string (bstr p)] 9)) y
        rw [hwz, hyq, hsf, show y.n.pol = p by rw [hy]; rfl, show y.u.val = .slice (some ⟨wr.heap.size, 0, none⟩) 1 1 by rw [hy]; rfl] at h1
        exact h1)
      have HU := Bx.mk (show Slc.Own ((wr.alloc (.cells #[.string (bstr p)] 9)).alloc (.cells #[.string (bstr p), .slice (some ⟨wr.heap.size, 0, none⟩) 1 1, .slice ya yn yc] 65)) wr.heap.size 9 1 encS (.slice (some ⟨wr.heap.size, 0, none⟩) 1 1) [p] from
        Slc.Own.below (t := 9) (own_alloc encS_ok wr [p] _ rfl (Nat.le_refl _) (by unfold maxLen; simp)) (hba _))
      have HBA := Bx.mk (show Below wr.heap.size wr ((wr.alloc (.cells #[.string (bstr p)] 9)).alloc (.cells #[.string (bstr p), .slice (some ⟨wr.heap.size, 0, none⟩) 1 1, .slice ya yn yc] 65)) from (hba _).alloc (by simp) _)
      have HZA := Bx.mk (show ((wr.alloc (.cells #[.string (bstr p)] 9)).alloc (.cells #[.string (bstr p), .slice (some ⟨wr.heap.size, 0, none⟩) 1 1, .slice ya yn yc] 65)).heap.size = wr.heap.size + 2 by simp)
      have hap1 : L.length + 1 ≤ maxLen := by have := HLEN.out; unfold maxLen; omega
      have hap2 : (L.length + 1) * 64 ≤ 140737488355328 := by have := HLEN.out; omega
      have hap3 : B7 ≤ ((wr.alloc (.cells #[.string (bstr p)] 9)).alloc (.cells #[.string (bstr p), .slice (some ⟨wr.heap.size, 0, none⟩) 1 1, .slice ya yn yc] 65)).heap.size := by have := HW.out; simp; omega
      have HYQ := Bx.mk hyq
      have HY := Bx.mk hy
      clear hsf hrow3 hba hgn hwz hy hyq hR
      go_wp2_with (at_builtin; refine wpList_append_any rfl _ _ _ rfl B7 65 iv _ 3 64 und_vers hiv hiv0 hiv1 hiv2 rfl (by decide) _ L.length (L.flatMap encV) rfl HOWN.out _ 1 ([y].flatMap encV) rfl HSRC.out hap1 hap2 hap3 ?_)
      intro v9 w9 hapd
      have hown := Slc.Own.apd (m := [y]) HOWN.out rfl rfl rfl rfl hapd
      have hgr := hapd.grown
      have hblk := hapd.blk
      obtain ⟨W3, hW3⟩ : ∃ W3, W3 = ((wr.alloc (.cells #[.string (bstr p)] 9)).alloc (.cells #[.string (bstr p), .slice (some ⟨wr.heap.size, 0, none⟩) 1 1, .slice ya yn yc] 65)) := ⟨_, rfl⟩
      rw [← hW3] at HU HBA HZA hgr hblk
      obtain ⟨a9, c9, rfl, -⟩ := hown.rd.form
      have hvw : ∀ j, (Value.slice va L.length vc).ownBlock = some j → B7 ≤ j ∧ j < wr.heap.size := HVL.out
      have hb9 : ∀ j, j < wr.heap.size + 2 → (Value.slice va L.length vc).ownBlock ≠ some j → w9.heap[j]? = W3.heap[j]? := fun j hj hn => hgr.block j (by rw [HZA.out]; exact hj) (fun e => hn e.symm)
      have HR9 := Bx.mk (show w9.heap[c3]? = some (.cells #[.slice va L.length vc] 63 (0, 0)) by
        have h3 := lt_of_some HR3.out
        rw [hb9 c3 (by omega) (fun e => by have := (hvw c3 e).1; have := HC3N.out; omega), HBA.out.block c3 h3]; exact HR3.out)
      have hln : (L ++ [y]).length = L.length + 1 := by simp
      rw [hln] at hown hblk ⊢
      clear hln
      obtain ⟨V9, hV9⟩ : ∃ V9, V9 = Value.slice a9 (L.length + 1) c9 := ⟨_, rfl⟩
      rw [← hV9] at hblk hown
      obtain ⟨W10, hW10⟩ : ∃ W10, W10 = w9.setCell ⟨c3, 0, none⟩ V9 := ⟨_, rfl⟩
      have hR10 : W10.heap[c3]? = some (.cells #[V9] 63 (0, 0)) := by rw [hW10]; exact row_set HR9.out _
      have hO10 : ∀ j, j ≠ c3 → W10.heap[j]? = w9.heap[j]? := fun j hj => by rw [hW10]; exact heap_setCell_other _ _ _ _ hj
      have hz10 : W10.heap.size = w9.heap.size := by rw [hW10]; simp
      have hz9 := hgr.size
      have HK10 := Bx.mk (show KB B7 c3 w7 W10 by
        refine hK.out.trans ((KB.of_below (HBA.out.mono HW.out)).trans ((kb_far hgr (by rw [HZA.out]; have := HW.out; omega) fun j hj => (hvw j hj).1).trans ?_))
        rw [hW10]; exact KB.set _ _ _ (by have := HW.out; rw [HZA.out] at hz9; omega))
      have HR10 := Bx.mk hR10
      have hb93 : B7 ≤ c3 → False := fun e => by have := HC3N.out; omega
      have HL10 := Bx.mk (show LvO w W10 B7 S V9 (L ++ [y]) from by
        refine ⟨hown.keep fun j hj _ => hO10 j (by have := (hown.lt j hj).1; have := HC3N.out; omega), fun x hx => ?_, fun x hx => ?_⟩
        · rcases List.mem_append.1 hx with hx | hx
          · have h1 := hL.out.u x hx
            have h2 : RdIn W10 (fun j => B7 ≤ j ∧ (Value.slice va L.length vc).ownBlock ≠ some j) encS x.u.val x.n.ex := h1.keep (by rw [hz10]; have := HBA.out.size; omega) fun j hS hj => by
              rw [hO10 j (by have := hS.1; have := HC3N.out; omega), hb9 j (by omega) hS.2, HBA.out.block j hj]
            refine ⟨h2.1, fun j hj => ⟨(h2.2 j hj).1, fun e => ?_⟩⟩
            rcases hblk with q | q
            · rw [q] at e; exact (h2.2 j hj).2 e
            · rw [q] at e
              simp only [Option.some.injEq] at e
              have := h1.1.lt j hj
              rw [HZA.out] at e
              omega
          · rw [List.mem_singleton] at hx
            subst hx
            have hu : RdIn W10 (fun j => B7 ≤ j ∧ V9.ownBlock ≠ some j) encS (.slice (some ⟨wr.heap.size, 0, none⟩) 1 1) [p] := by
              have h1 : RdIn W3 (fun j => j = wr.heap.size) encS (.slice (some ⟨wr.heap.size, 0, none⟩) 1 1) [p] := ⟨HU.out.rd, fun j hj => by simp only [Value.ownBlock, Option.some.injEq] at hj; exact hj.symm⟩
              refine (h1.keep (w' := W10) (by rw [hz10]; exact hz9) fun j hS _ => ?_).mono fun j _ hS => ⟨by have := HW.out; omega, fun e => ?_⟩
              · rw [hO10 j (by have := HW.out; have := HC3N.out; omega), hb9 j (by omega) (fun e => by have := (hvw j e).2; omega)]
              · rcases hblk with q | q
                · rw [q] at e; have := (hvw j e).2; omega
                · rw [q] at e
                  simp only [Option.some.injEq] at e
                  rw [HZA.out] at e
                  omega
            have e1 : x.u.val = .slice (some ⟨wr.heap.size, 0, none⟩) 1 1 := by rw [HY.out]; rfl
            have e2 : x.n.ex = [p] := by rw [HY.out]; rfl
            rw [e1, e2]; exact hu
        · rcases List.mem_append.1 hx with hx | hx
          · exact hL.out.q x hx
          · rw [List.mem_singleton] at hx
            subst hx
            rw [HYQ.out, show x.n.par = h p by rw [HY.out]; rfl]
            exact HRS.out)
      have HV10 := Bx.mk (show vxs (L ++ [y]) = (ks.take (k + 1)).map (lvV h) by
        rw [HTK.out, ← hV.out, HY.out]; simp [vxs])
      have m9 := cell_of_row _ _ 0 _ _ _ HR9.out
      have hf9 := frozen_row (i := 0) HR9.out
      simp only [List.getElem?_toArray, List.getElem?_cons_zero, List.getElem?_cons_succ] at m9
      have hc9l := lt_of_some HR9.out
      rw [← hV9]
      rw [hV9] at hW10
      have HW10 := Bx.mk hW10
      have HVV := Bx.mk hV9
      clear hV9 hW10 hown hgr hblk hvw hb9 hR10 hO10 hz10 hz9 hb93 hapd m3 hlook hap1 hap2 hap3
      rw [HVV.out]
      go_wp2_with fail
      rw [← HW10.out]
      go_roundw
      case rel => exact ⟨k + 1, V9, _, by omega, by go_num, HK10, HR10, HL10, HV10⟩
      case measure => simp [intOf]; omega
    · obtain rfl : N = k := by omega
      have hr3 := hR.out
      have m3 := cell_of_row _ _ 0 _ _ _ hr3
      have hr2 := (hK.out.block c2 (by have := HC3.out; have := HC3N.out; omega) (by have := HC3.out; omega)).trans H27.out
      have m2 := cell_of_row _ _ 0 _ _ _ hr2
      simp only [List.getElem?_toArray, List.getElem?_cons_zero, List.getElem?_cons_succ] at m3 m2
      have hf2 := frozen_row (i := 0) hr2
      obtain ⟨va, vc, hvf, -⟩ := hL.out.own.rd.form
      rw [hvf] at m3
      have hc2l := lt_of_some hr2
      have HKK := Bx.mk hK.out
      have HF2 := Bx.mk (show KB B7 c3 wr (wr.setCell ⟨c2, 0, none⟩ (.slice va L.length vc)) → True from fun _ => trivial)
      obtain ⟨W9, hW9⟩ : ∃ W9, W9 = wr.setCell ⟨c2, 0, none⟩ (.slice va L.length vc) := ⟨_, rfl⟩
      have HO9 := Bx.mk (show ∀ j, j ≠ c2 → W9.heap[j]? = wr.heap[j]? from fun j hj => by rw [hW9]; exact heap_setCell_other _ _ _ _ hj)
      have HZ9 := Bx.mk (show W9.heap.size = wr.heap.size by rw [hW9]; simp)
      have HE9 := Bx.mk (show W9.os = wr.os ∧ W9.tape = wr.tape ∧ W9.output = wr.output by rw [hW9]; exact ⟨rfl, rfl, rfl⟩)
      have HR9 := Bx.mk (show W9.heap[c2]? = some (.cells #[.slice va L.length vc] 63 (0, 0)) by rw [hW9]; exact row_set hr2 _)
      clear hr2 hr3 hK
      go_wp2_with fail
      rw [← hW9]
      refine bodyPost_ret (v := .agg #[.slice va L.length vc]) ?_ rfl ⟨_, L, rfl, ?_, ?_, ?_⟩
      · exact results_cell_row rfl _ _ c2 63 _ (0, 0) _ rfl HR9.out Tryz.underlying63 rfl (by kernel_rfl)
      · have hLo := hL.out
        rw [hvf] at hLo
        have hle : w.heap.size ≤ B7 := by have := HBW7.out.size; have := HZ7.out; omega
        have h2lt : c2 < B7 := by have := HC3.out; have := HC3N.out; omega
        have hbb : ∀ j, j < w.heap.size → W9.heap[j]? = w.heap[j]? := fun j hj => (HO9.out j (by have := HC2.out; omega)).trans ((HKK.out.block j (by omega) (by have := HC3.out; have := HC2.out; omega)).trans ((HBW7.out.block j hj)))
        have hsz : w.heap.size ≤ W9.heap.size := by rw [HZ9.out]; have := HKK.out.size; have := HZ7.out; omega
        refine ⟨(hLo.own.keep fun j hj _ => HO9.out j (by have := (hLo.own.lt j hj).1; omega)).mono hle, fun x hx => ?_, fun x hx => ?_⟩
        · exact ((hLo.u x hx).keep (by rw [HZ9.out]; exact Nat.le_refl _) fun j hS _ => HO9.out j (by have := hS.1; omega)).mono fun j _ hS => ⟨by have := hS.1; omega, hS.2⟩
        · exact (hLo.q x hx).keep hsz fun j _ hj => hbb j hj
      · rw [hV.out, HN.out, List.take_length]
      · refine ⟨HE9.out.1.trans (HKK.out.os.trans HBW7.out.os), HE9.out.2.1.trans (HKK.out.tape.trans HBW7.out.tape), HE9.out.2.2.trans (HKK.out.output.trans HBW7.out.output), ?_, fun j hj => ?_⟩
        · rw [HZ9.out]; have := HKK.out.size; have := HBW7.out.size; omega
        · have := HBW7.out.size
          have := HZ7.out
          have := HC2.out
          have := HC3.out
          exact (HO9.out j (by omega)).trans ((HKK.out.block j (by omega) (by omega)).trans (HBW7.out.block j hj))
end Go.Proofs.YtmagjdocondmhaaGreat.Tr.Gr
namespace Go.Proofs.YtmagjdocondmhaaGreat.Tr.Gr
open Go Go.RowKit Go.Proofs.YtmagjdocondmhaaGreat.Slc Go.Proofs.YtmagjdocondmhaaGreat.St Go.Proofs.YtmagjdocondmhaaGreat.Mp Go.Proofs.YtmagjdocondmhaaGreat.Tr
set_option linter.unusedVariables false
set_option linter.unusedSimpArgs false
attribute [local go_sem] Oper.semAt_some

set_option maxRecDepth 100000 in
set_option maxHeartbeats 4000000 in
theorem gtable_any (w : World) (v : Value) (l : List (B × B)) (h : Rd w encP v l) (hn : l.length ≤ 100000) (hx : ∀ m ∈ l, m.1.length ≤ 1000000 ∧ m.2.length ≤ 1000000) :
    Calls Tryz.prog 60 #[v] w fun e w' => ∃ bm f, e = .returned (.map (some bm)) ∧ w.heap.size ≤ bm ∧ TabP w' l bm f ∧ Below w.heap.size w w' ∧ ∀ p s, f p = some s → ∀ b, s.val.ownBlock = some b → bm < b := by
  obtain ⟨i0, hi0, hz0, hz1, hz2⟩ := info_parts info_str
  obtain ⟨ad, c, rfl, -⟩ := h.form
  have HC := Bx.mk (maps_cells h).2
  have HXX := Bx.mk hx
  obtain ⟨N, hN⟩ : ∃ N, N = l.length := ⟨_, rfl⟩
  have HN := Bx.mk hN
  rw [← hN] at hn ⊢
  clear h hx hN
  have hmm := @run_makeMap Tryz.prog
  obtain ⟨W0, hW0⟩ : ∃ W0, W0 = w.alloc (.map #[] 0) := ⟨_, rfl⟩
  obtain ⟨bm, hbm⟩ : ∃ bm, bm = w.heap.size := ⟨_, rfl⟩
  have HBM := Bx.mk hbm
  have HM0 := Bx.mk (show ∃ q, q ≤ 0 ∧ OwnF W0 kS rdS edS bm q (fun _ => none) from ⟨0, Nat.le_refl _, by rw [hW0, hbm]; exact OwnF.made w kS rdS edS⟩)
  have HT0 := Bx.mk (show TB W0 bm (fun _ => none) (gK l 0) from ⟨fun p => (by simp [gK_zero]), (by intro p s hp; cases hp), (by intro p p' s s' hp; cases hp)⟩)
  have HB0 := Bx.mk (show Below bm w W0 by rw [hW0, hbm]; exact (Below.refl _ _).alloc (Nat.le_refl _) _)
  go_enter Tryz.func60, Tryz.ntmps60
  go_wp2_with fail
  rw [← hW0, ← hbm]
  clear hW0 hbm hmm
  go_loopw [11] (fun i wr => ∃ (k : Nat) (f : B → Option Sg), k ≤ N ∧ i = .int .i64 k ∧ Bx (TB wr bm f (gK l k)) ∧ Bx (∃ q, q ≤ k ∧ OwnF wr kS rdS edS bm q f) ∧ Bx (Below bm w wr)) (fun i _ => N - (intOf i).toNat)
  case atStart => exact ⟨0, _, by omega, rfl, HT0, HM0, HB0⟩
  case round =>
    clear HT0 HM0 HB0
    obtain ⟨k, f, hk, rfl, hT, hM, hBw⟩ := hrel
    have hb0 : Below w.heap.size w wr := HBM.out ▸ hBw.out
    by_cases hlt : k < N
    · have hkl : k < l.length := by rw [← HN.out]; exact hlt
      obtain ⟨b, o, rfl, hbl, c0, c1⟩ := HC.out wr hb0 k hkl
      have HGS := Bx.mk (gK_succ l k hkl)
      have HXK := Bx.mk (HXX.out l[k] (List.getElem_mem hkl))
      obtain ⟨m, hm⟩ : ∃ m, m = l[k] := ⟨_, rfl⟩
      rw [← hm] at c0 c1 HGS HXK
      clear hm hkl hbl
      obtain ⟨W1, hW1⟩ : ∃ W1, W1 = wr.alloc (.cells #[.string (bstr m.1), .string (bstr m.2)] 49) := ⟨_, rfl⟩
      obtain ⟨bn, hbn⟩ : ∃ bn, bn = wr.heap.size := ⟨_, rfl⟩
      have HBN := Bx.mk hbn
      have hq1 : W1.heap[bn]? = some (.cells #[.string (bstr m.1), .string (bstr m.2)] 49 (0, 0)) := by rw [hW1, hbn]; exact heap_alloc_new _ _
      have HBA := Bx.mk (show Below wr.heap.size wr W1 by rw [hW1]; exact (Below.refl _ _).alloc (Nat.le_refl _) _)
      have hbsz := hBw.out.size
      have HBWA := Bx.mk (show Below bm w W1 from hBw.out.trans (HBA.out.mono (by have := HBM.out; omega)))
      have HTA := Bx.mk (hT.out.below HBA.out)
      have HMA := Bx.mk (show ∃ q, q ≤ k ∧ OwnF W1 kS rdS edS bm q f by obtain ⟨q, h1, h2⟩ := hM.out; exact ⟨q, h1, h2.below HBA.out⟩)
      have HQ1 := Bx.mk hq1
      go_upto_region 5 with fail
      rw [← hW1, ← hbn]
      clear hW1 hbn c0 c1
      have m0 := cell_of_row _ _ 0 _ _ _ hq1
      have m1 := cell_of_row _ _ 1 _ _ _ hq1
      simp only [List.getElem?_toArray, List.getElem?_cons_zero, List.getElem?_cons_succ] at m0 m1
      clear hq1 hbsz
      have hs1 := same_any m.1
      have hs2 := same_any m.2
      obtain ⟨t1, ht1⟩ : ∃ t, t = decide (m.1 = anyP) := ⟨_, rfl⟩
      obtain ⟨t2, ht2⟩ : ∃ t, t = decide (m.2 = anyP) := ⟨_, rfl⟩
      have HOK := Bx.mk (show okM m = (!t1 && !t2) by unfold okM; rw [ht1, ht2, ← decide_not, ← decide_not])
      rw [← ht1] at hs1
      rw [← ht2] at hs2
      clear ht1 ht2
      have hskip : okM m = false → TB W1 bm f (gK l (k + 1)) := fun e => by
        have : gK l (k + 1) = gK l k := by funext p; rw [HGS.out, e]; simp
        rw [this]; exact HTA.out
      have HSK := Bx.mk hskip
      clear hskip
      cases t1 with
      | true =>
        have HT2 := Bx.mk (HSK.out (by rw [HOK.out]; rfl))
        go_wp2_with fail
        go_roundw
        case rel => exact ⟨k + 1, f, by omega, by go_num, HT2, ⟨by obtain ⟨q, h1, h2⟩ := HMA.out; exact ⟨q, by omega, h2⟩⟩, HBWA⟩
        case measure => simp [intOf]; omega
      | false =>
      cases t2 with
      | true =>
        have HT2 := Bx.mk (HSK.out (by rw [HOK.out]; rfl))
        go_wp2_with fail
        go_roundw
        case rel => exact ⟨k + 1, f, by omega, by go_num, HT2, ⟨by obtain ⟨q, h1, h2⟩ := HMA.out; exact ⟨q, by omega, h2⟩⟩, HBWA⟩
        case measure => simp [intOf]; omega
      | false =>
        obtain ⟨q, hq, hop⟩ := HMA.out
        have HQK := Bx.mk hq
        have HOP := Bx.mk hop
        have HOWN := Bx.mk (HTA.out.get m.1)
        obtain ⟨sv, hsv⟩ : ∃ s, s = (f m.1).getD nilS := ⟨_, rfl⟩
        have HSV := Bx.mk hsv
        rw [← hsv] at HOWN
        have hvl : ∀ j, sv.val.ownBlock = some j → j < W1.heap.size := fun j hj => (HOWN.out.lt j hj).2
        have hvb : ∀ j, sv.val.ownBlock = some j → j ≠ bm ∧ j ≠ bn := fun j hj => ⟨by have := (HOWN.out.lt j hj).1; omega, fun e => by
          have h1 := HTA.out.get m.1
          rw [← hsv] at h1
          cases hf : f m.1 with
          | none =>
            rw [hf] at hsv
            simp only [Option.getD_none] at hsv
            rw [hsv] at hj; simp [nilS, Sg.val, Value.ownBlock] at hj
          | some s0 =>
            rw [hf] at hsv
            simp only [Option.getD_some] at hsv
            have := ((hT.out.own m.1 s0 hf).lt j (by rw [← hsv]; exact hj)).2
            have := HBN.out; omega⟩
        have HVB := Bx.mk hvb
        obtain ⟨va, vc, hvf, -⟩ := HOWN.out.rd.form
        have HGL := gK_len l k m.1
        have HLOOK := Bx.mk (show ∀ W : World, W1.grownBy W sv.val.ownBlock → (Instr.lookup 86 (.map (some bm)) (.string (bstr m.1)) false).run Tryz.prog W = .ok (.slice va (gK l k m.1).length vc) W from fun W hW => by
          have := ((HOP.out.kept hW (fun e => (HVB.out bm e.symm).1 rfl)).lookS u_mapSS Sg.val nilS (Tryz.zeroValue34 _) rdS_mk rdS_inv (k := m.1) (by have := HXK.out.1; unfold maxLen; omega)).1
          rw [← hsv, hvf] at this
          exact this)
        rw [hvf] at HOWN hvl HVB HLOOK
        have HVF := Bx.mk hvf
        clear hq hop hsv hvb hvf
        go_wp2_with fail
        clear hs1 hs2 m0 m1
        refine wp_region_factsC 11 (fun _ => none) (· == 10) (TaF W1 bm bn m (.slice va (gK l k m.1).length vc) (gK l k m.1)) (TaC W1 bm (.slice va (gK l k m.1).length vc) (gK l k m.1)) (fun a b => a.grownBy b (Value.slice va (gK l k m.1).length vc).ownBlock) ?_ (by kernel_rfl) (by kernel_rfl) (by rfl) ?_ ?_ ?_ ?_ ?_ ?_
        · exact ⟨⟨rfl, rfl, rfl, Nat.le_refl _, fun _ _ _ => rfl⟩, fun _ => HOWN.out⟩
        · exact TaF.stable _ _ _ _ _ _
        · exact fun d i w1 w2 hh hi _ hb => hh.bel hi hb
        · exact fun d i w1 w2 hh hi _ hg => hh.big hi hg
        · exact fun b j x w1 w2 hb _ hne _ hh hg => TaF.big _ _ _ _ _ _ hvl j (fun e => hne (e.trans (show b = 10 by simpa using hb).symm)) _ _ _ hh hg
        · intro i o hi ho d x w7 hcl hdi hCC hd
          have hc : i = 0 ∨ i = 1 ∨ i = 2 ∨ i = 3 ∨ i = 4 ∨ i = 5 ∨ i = 6 ∨ i = 7 ∨ i = 8 ∨ i = 9 ∨ i = 10 := by omega
          obtain ⟨hg7, how7⟩ := hCC
          have HG7 := Bx.mk hg7
          have HOW7 := Bx.mk how7
          have b5 := (hg7.block bn (lt_of_some HQ1.out) (fun e => (HVB.out bn e.symm).2 rfl)).trans HQ1.out
          have m0 := cell_of_row _ _ 0 _ _ _ b5
          have m1 := cell_of_row _ _ 1 _ _ _ b5
          simp only [List.getElem?_toArray, List.getElem?_cons_zero, List.getElem?_cons_succ] at m0 m1
          have hlook := HLOOK.out w7 (HVF.out ▸ hg7)
          have HDI := Bx.mk hdi
          clear hcl hg7 how7 b5
          simp only [List.take_succ_cons, List.take_zero, putFrom, Act.put, List.setIfInBounds_toArray, List.set_cons_succ, List.set_cons_zero, Nat.zero_add, Nat.reduceAdd]
          rcases hc with rfl | rfl | rfl | rfl | rfl | rfl | rfl | rfl | rfl | rfl | rfl
          all_goals
            simp only [List.getElem?_cons_succ, List.getElem?_cons_zero, Option.some.injEq] at ho
            subst ho
            simp [NeedsB, Region.binds, TaF] at hd
          all_goals clear hi hdi
          case inr.inr.inr.inr.inr.inr.inr.inr.inr.inl =>
            clear hlook m0 m1
            go_wp2_with fail
            exact ⟨rfl, rfl, ⟨_, rfl, HG7.out.size, heap_alloc_new _ _⟩, (Below.refl _ _).alloc (Nat.le_refl _) _⟩
          case inr.inr.inr.inr.inr.inr.inr.inr.inr.inr =>
            obtain ⟨h6, g9, h9, hg9, hr9⟩ := hd
            have how := HOW7.out HDI.out
            have hsr : SrcV w7 1 (x 9) 1 ([m.2].flatMap encS) := by rw [h9]; exact src_row hr9
            rw [← h6] at how
            have H6 := Bx.mk h6
            have HH := Bx.mk how
            clear h6 h9 hr9 hlook m0 m1
            go_wp2_with (at_builtin; refine wpList_append_any rfl _ _ _ rfl (bm + 1) 9 i0 _ 1 16 und_strs hi0 hz0 hz1 hz2 rfl (by decide) _ (gK l k m.1).length ((gK l k m.1).flatMap encS) rfl HH.out _ 1 ([m.2].flatMap encS) rfl hsr ?ap1 ?ap2 ?ap3 ?_)
            case ap1 => unfold maxLen; omega
            case ap2 => omega
            case ap3 => have := lt_of_some HQ1.out; have := HG7.out.size; have := HBN.out; have := HBWA.out.size; have := HBM.out; have := hBw.out.size; omega
            intro v' w8 ha
            have hown := Slc.Own.apd (m := [m.2]) HH.out rfl rfl rfl rfl ha
            have hblk : v'.ownBlock = (Value.slice va (gK l k m.1).length vc).ownBlock ∨ ∃ y, v'.ownBlock = some y ∧ W1.heap.size ≤ y := by
              rcases ha.blk with q | q
              · left; rw [q, H6.out]
              · exact .inr ⟨_, q, HG7.out.size⟩
            have hgr := ha.grown
            rw [H6.out] at hgr
            clear ha
            go_wp2_with fail
            exact ⟨rfl, rfl, ⟨hown, hblk⟩, hgr⟩
          case inr.inr.inr.inr.inr.inr.inl =>
            clear m0 m1
            go_wp2_with fail
            exact ⟨rfl, rfl, rfl, Below.refl _ _⟩
          all_goals
            clear hlook
            go_wp2_with fail
            exact ⟨rfl, rfl, rfl, Below.refl _ _⟩
        · intro d x w7 hCC hf
          have f0 := hf 0 (by omega) (fun c hc => by simp at hc)
          have f2 := hf 2 (by omega) (fun c hc => by simp at hc)
          have f10 := hf 10 (by omega) (fun c hc => by simp at hc)
          simp only [TaF] at f0 f2 f10
          clear hf
          obtain ⟨hown, hblk⟩ := f10
          have hg7 : W1.grownBy w7 sv.val.ownBlock := HVF.out ▸ hCC.1
          obtain ⟨s', hs'⟩ := own_sg hown
          rw [hs'] at hown hblk
          obtain ⟨w8, hrun, ho8, hg8⟩ := (HOP.out.kept hg7 (fun e => (HVB.out bm (by rw [← HVF.out]; exact e.symm)).1 rfl)).putS u_mapSS (by have := HQK.out; unfold maxLen; omega) (k := m.1) (by have := HXK.out.1; unfold maxLen; omega) s' s'.val (rdS_mk _)
          have hT8 := HTA.out.step (p := m.1) (x := m.2) (s' := s') (HSV.out ▸ hg7) hown (by rw [← HSV.out, HVF.out]; exact hblk) hg8
          have HT8 := Bx.mk (show TB w8 bm (fun j => if j = m.1 then some s' else f j) (gK l (k + 1)) by
            have e : gK l (k + 1) = fun j => if j = m.1 then gK l k m.1 ++ [m.2] else gK l k j := by
              funext j
              rw [HGS.out, HOK.out]
              by_cases e : j = m.1
              · subst e; simp
              · rw [if_neg e, decide_eq_false fun q => e q.symm]; simp
            rw [e]; exact hT8)
          have HM8 := Bx.mk ho8
          have HB8 := Bx.mk (show Below bm w w8 from ((HBWA.out.grown hg7 (by have := HBWA.out.size; have := HBM.out; omega) fun j hj => by
            have := (HTA.out.get m.1).lt j (by rw [← HSV.out]; exact hj)
            omega)).grown hg8 (by have := HBWA.out.size; have := hg7.size; have := HBM.out; omega) fun j hj => by simp only [Option.some.injEq] at hj; omega)
          have hsf : ∃ sa sn sc, s'.val = .slice sa sn sc := ⟨_, _, _, rfl⟩
          obtain ⟨sa, sn, sc, hsf⟩ := hsf
          have hrun' : (Instr.mapUpdate 86 (.map (some bm)) (.string (bstr m.1)) (.slice sa sn sc)).run Tryz.prog w7 = .ok () w8 := by rw [← hsf]; exact hrun
          rw [hsf] at hs'
          clear hown hblk hg7 hrun ho8 hg8 hT8 hCC hsf
          simp only [List.take_succ_cons, List.take_zero, List.drop_succ_cons, List.drop_zero, putFrom, Nat.zero_add, Nat.reduceAdd, f0, f2, hs']
          clear f0 f2 hs'
          generalize x 1 = x1, x 3 = x3, x 4 = x4, x 5 = x5, x 6 = x6, x 7 = x7, x 8 = x8, x 9 = x9
          simp only [Act.put, List.setIfInBounds_toArray, List.set_cons_succ, List.set_cons_zero]
          go_wp2_with fail
          go_roundw
          case rel => exact ⟨k + 1, _, by omega, by go_num, HT8, ⟨_, by have := HQK.out; omega, HM8.out⟩, HB8⟩
          case measure => simp [intOf]; omega
    · obtain rfl : N = k := by omega
      obtain ⟨q, hq, D, hown, hIs⟩ := hM.out
      have HIS := Bx.mk hIs
      have HHAS := Bx.mk (show ∀ p, (f p).isSome = true ↔ gK l N p ≠ [] from hT.out.has_)
      have hq1 : q < maxLen := by unfold maxLen; omega
      have HRD := Bx.mk (show ∀ p s, f p = some s → RdIn wr (fun b => b ≠ bm ∧ b ≠ wr.heap.size ∧ bm < b) encS s.val (gK l N p) from fun p s hp => by
        have h1 := hT.out.own p s hp
        exact ⟨h1.rd, fun b hb => by have := h1.lt b hb; omega⟩)
      have hbsz := hBw.out.size
      obtain ⟨r, hr⟩ : ∃ r, r = wr.heap.size := ⟨_, rfl⟩
      have HR := Bx.mk hr
      clear hT hM hb0 hIs
      go_wp2_with (at_range; refine wpList_range_own _ rfl _ 86 rfl 9 34 (Go.Maps.string_keyed u_str) u_mapSS _ bm _ D rfl hown ?_; intro w0 hrg0 hg0 hs0)
      rw [← hr] at hrg0 HRD ⊢
      have HB0 := Bx.mk (show Below bm w w0 from hBw.out.grown hg0 (by have := HBM.out; omega) fun k hk => by cases hk)
      have HRG0 := Bx.mk hrg0
      have HRD0 := Bx.mk (show ∀ p s, f p = some s → RdIn w0 (fun b => b ≠ bm ∧ b ≠ r ∧ bm < b) encS s.val (gK l N p) from fun p s hp => (HRD.out p s hp).keep hg0.size fun k _ hk => hg0.block k hk (by simp))
      have hrbm : bm < r := by rw [hr]; exact hown.lt
      clear hown hg0 hs0 hrg0 HRD hr hbsz hBw
      go_frame
      go_loopw [] (fun wr => ∃ (left : Lit → Bool) (cnt : Nat) (D : DW) (f : B → Option Sg), Bx (wr.ranges Tryz.prog 9 rdS bm r q D left cnt) ∧ Bx (IsF kS edS D f) ∧ Bx (∀ p, (f p).isSome = true ↔ gK l N p ≠ []) ∧ Bx (∀ p s, f p = some s → RdIn wr (fun b => b ≠ bm ∧ b ≠ r ∧ bm < b) encS s.val (if left (.string p) then gK l N p else setB (gK l N p))) ∧ Bx (Below bm w wr)) (fun wr => wr.rangeLeft bm r)
      case atStart =>
        refine ⟨_, _, D, f, HRG0, HIS, HHAS, ⟨fun p s hp => ?_⟩, HB0⟩
        have h1 := HIS.out.has_ p
        rw [hp] at h1
        rw [if_pos (show Maps.has D (.string p) = true from h1)]
        exact HRD0.out p s hp
      case round =>
        clear HIS HHAS HRG0 HRD0 HB0
        obtain ⟨left, cnt, D, f, hrg, hIs, hHas, hRd, hBw⟩ := hrel
        go_wp2_with (at_next; refine next_tab hIs.out rfl _ rfl rfl hrg.out ?_ ?_)
        · intro hl0
          have HL0 := Bx.mk hl0
          clear hl0
          go_wp2_with fail
          go_ret
          refine ⟨bm, f, rfl, by have := HBM.out; omega, ⟨fun p => ?_, fun p s hp => ?_, ⟨q, by omega, D, hrg.out.owns, hIs.out⟩⟩, HBM.out ▸ hBw.out, fun p s hp b hb => ((hRd.out p s hp).2 b hb).2.2⟩
          · have h1 := hHas.out p
            rw [HN.out, gK_src] at h1
            rw [Bool.eq_iff_iff, decide_eq_true_eq]; exact h1
          · have h1 := hRd.out p s hp
            rw [HL0.out p, if_neg (by simp), HN.out, gK_all] at h1
            exact ⟨h1.1, fun k hk => (h1.2 k hk).1⟩
        · intro x c w1 cnt1 hkey hlx hfx hrg1 hlt1 hg1 hs1 hen
          have hr1 := hRd.out x c hfx
          rw [if_pos hlx] at hr1
          have hr2 : RdIn w1 (fun b => b ≠ bm ∧ b ≠ r ∧ bm < b) encS c.val (gK l N x) := hr1.keep hg1.size fun k hS hk => hg1.block k hk (by simp only [ne_eq, Option.some.injEq]; exact hS.2.1)
          obtain ⟨ca, cc, hcf, -⟩ := hr1.1.form
          have hgl := gK_len l N x
          have hV := fun (a : Option Addr) (len cap : Nat) => valS_any a len cap w1
          have hset := sortedV_any (w1.alloc (.cells #[c.val] 34)) w1.heap.size c.val (gK l N x) (by omega) (by simp) (by unfold World.cell?; rw [heap_alloc_new]; rfl) ⟨w1, hr2.1, by simp, (Below.refl _ _).alloc (Nat.le_refl _) _⟩
          rw [hcf] at hset hen ⊢
          obtain ⟨WV, hWV⟩ : ∃ WV, WV = w1.alloc (.cells #[.slice ca (gK l N x).length cc] 34) := ⟨_, rfl⟩
          have HBV := Bx.mk (show Below w1.heap.size w1 WV by rw [hWV]; exact (Below.refl _ _).alloc (Nat.le_refl _) _)
          rw [← hWV] at hset
          obtain ⟨S, hS⟩ : ∃ S, S = (gK l N x).mergeSort (fun x y => decide (x ≤ y)) := ⟨_, rfl⟩
          have HSL := Bx.mk (show S.length ≤ 1000000 by rw [hS, List.length_mergeSort]; omega)
          have HCS := Bx.mk (show Lib.compact S = setB (gK l N x) by rw [hS, compact_sort])
          rw [← hS] at hset
          clear hS
          have HFX := Bx.mk hfx
          have HRG1 := Bx.mk hrg1
          have HKEY := Bx.mk hkey
          have HLT1 := Bx.mk hlt1
          have HB1 := Bx.mk (show Below bm w w1 from hBw.out.grown hg1 (by have := hBw.out.size; have := HBM.out; omega) fun k hk => by simp only [Option.some.injEq] at hk; omega)
          have HRW := Bx.mk (show ∀ p s, f p = some s → RdIn w1 (fun b => b ≠ bm ∧ b ≠ r ∧ bm < b) encS s.val (if left (.string p) then gK l N p else setB (gK l N p)) from fun p s hp => (hRd.out p s hp).keep hg1.size fun k hS hk => hg1.block k hk (by simp only [ne_eq, Option.some.injEq]; exact hS.2.1))
          have HRLT := Bx.mk (show r < w1.heap.size from hrg1.lt)
          have HBLT := Bx.mk (show bm < w1.heap.size by have := HRLT.out; omega)
          clear hr1 hr2 hcf hfx hrg1 hkey hlt1 hg1 hs1 hlx hBw hRd
          obtain ⟨G, hG⟩ : ∃ G, G = gK l N x := ⟨_, rfl⟩
          have HG := Bx.mk hG
          rw [← hG] at hen hgl HCS hWV ⊢
          clear hG
          obtain ⟨X, hX⟩ : ∃ X, X = bstr x := ⟨_, rfl⟩
          have HX := Bx.mk hX
          rw [← hX] at hen ⊢
          clear hX
          go_wp2_with fail
          go_at_call 72
          refine (hV _ _ _).mono ?_
          rintro e w1' ⟨rfl, rfl⟩
          rw [← hWV]
          clear hV hWV
          go_wp2_with fail
          go_at_call 63
          refine hset.mono ?_
          rintro e wS ⟨vS, rfl, hoS, hbS⟩
          have h3 := compS_any wS WV.heap.size vS _ hoS HSL.out
          rw [HCS.out] at h3
          obtain ⟨avS, cvS, rfl, -⟩ := hoS.rd.form
          have HOS := Bx.mk hoS
          have HBS := Bx.mk hbS
          clear hset hoS hbS
          go_wp2_with fail
          go_at_call 71
          refine h3.mono ?_
          rintro e w2 ⟨v2, rfl, ho3, hg3⟩
          have hsz1 := HBV.out.size
          have ho2 : Slc.Own w2 w1.heap.size 9 1 encS v2 (setB G) := ho3.mono hsz1
          have hb2 : Below w1.heap.size w1 w2 := (HBV.out.trans (HBS.out.mono hsz1)).grown hg3 (Nat.le_trans hsz1 HBS.out.size) fun k hk => Nat.le_trans hsz1 (HOS.out.lt k hk).1
          clear h3 ho3 hg3 hsz1
          obtain ⟨s', hs'⟩ := own_sg ho2
          rw [hs'] at ho2
          obtain ⟨w3, hrun, hrg3, hg3, hs3⟩ := ranges_put (HRG1.out.kept (grown_none hb2) (by simp) (by simp)) (Go.Maps.string_keyed u_str) u_mapSS hq1 (Tryz.zeroValue34 w2) HKEY.out (by
            have := hIs.out.has_ x
            rw [HFX.out] at this; exact this) (rdS_mk s')
          have hrun' : (Instr.mapUpdate 86 (.map (some bm)) (.string X) v2).run Tryz.prog w2 = .ok () w3 := by rw [hs', HX.out]; exact hrun
          obtain ⟨sa, sc, hsf, -⟩ := ho2.rd.form
          rw [hs', hsf] at hrun' ⊢
          have HIS' := Bx.mk (hIs.out.put x s')
          have HHAS' := Bx.mk (show ∀ p, ((fun j => if j = x then some s' else f j) p).isSome = true ↔ gK l N p ≠ [] from fun p => by
            by_cases e : p = x
            · subst e
              have := hHas.out p
              rw [HFX.out] at this
              simpa using this
            · simp only [if_neg e]; exact hHas.out p)
          have HRD' := Bx.mk (show ∀ p s, (fun j => if j = x then some s' else f j) p = some s → RdIn w3 (fun b => b ≠ bm ∧ b ≠ r ∧ bm < b) encS s.val (if (fun z : Lit => left z && !z.sameKey (.string x)) (.string p) then gK l N p else setB (gK l N p)) from fun p s hp => by
            by_cases e : p = x
            · subst e
              simp only [if_true, Option.some.injEq] at hp
              subst hp
              simp only [sameS, decide_true, Bool.not_true, Bool.and_false, Bool.false_eq_true, if_false]
              have h1 : RdIn w2 (fun b => b ≠ bm ∧ b ≠ r ∧ bm < b) encS s'.val (setB (gK l N p)) := ⟨by rw [← HG.out]; exact ho2.rd, fun b hb => by
                have := (ho2.lt b hb).1
                have := HRLT.out
                have := HBLT.out
                omega⟩
              exact h1.keep hg3.size fun k hS hk => hg3.block k hk (by simp only [ne_eq, Option.some.injEq]; exact hS.1)
            · simp only [if_neg e] at hp
              simp only [sameS, decide_eq_false e, Bool.not_false, Bool.and_true]
              exact (RdIn.below (HRW.out p s hp) hb2).keep hg3.size fun k hS hk => hg3.block k hk (by simp only [ne_eq, Option.some.injEq]; exact hS.1))
          have HRG3 := Bx.mk hrg3
          have HB3 := Bx.mk (show Below bm w w3 from (HB1.out.trans (hb2.mono (by have := HBLT.out; omega))).grown hg3 (by have := HBLT.out; have := hb2.size; omega) fun k hk => by simp only [Option.some.injEq] at hk; omega)
          clear hen ho2 hb2 hrg3 hg3 hs3 hs' hsf hrun hHas
          go_wp2_with fail
          go_roundw
          case rel => exact ⟨_, _, _, _, HRG3, HIS', HHAS', HRD', HB3⟩
          case measure => rw [HRG3.out.left_eq, hrg.out.left_eq]; exact HLT1.out
end Go.Proofs.YtmagjdocondmhaaGreat.Tr.Gr
namespace Go.Proofs.YtmagjdocondmhaaGreat.Tr.Gr
open Go Go.RowKit Go.Proofs.YtmagjdocondmhaaGreat.Slc Go.Proofs.YtmagjdocondmhaaGreat.St Go.Proofs.YtmagjdocondmhaaGreat.Mp Go.Proofs.YtmagjdocondmhaaGreat.Tr
set_option linter.unusedVariables false
set_option linter.unusedSimpArgs false
attribute [local go_sem] Oper.semAt_some

set_option maxRecDepth 100000 in
theorem mapF_any (w : World) (x : Vt) (qd bm q : Nat) (f : B → Option Sg) (hm : OwnF w kS rdS edS bm q f) (hq : w.cell? ⟨qd, 0, none⟩ = some (.map (some bm))) (hql : qd < w.heap.size) (hp : x.n.pol.length ≤ 1000000) :
    Calls Tryz.prog 62 #[verV x, .pointer (some ⟨qd, 0, none⟩)] w fun e w' => e = .returned (.bool (f x.n.pol).isSome) ∧ Below w.heap.size w w' := by
  have hba : Below w.heap.size w (w.alloc (.cells #[.string (bstr x.n.pol), x.u.val, x.q.val] 65)) := (Below.refl _ _).alloc (Nat.le_refl _) _
  have hlk := ((hm.below hba).lookS u_mapSS Sg.val nilS (Tryz.zeroValue34 _) rdS_mk rdS_inv (k := x.n.pol) (by unfold maxLen; omega)).2
  have hq1 := (hba.cell (p := ⟨qd, 0, none⟩) hql).trans hq
  have HB := Bx.mk hba
  unfold verV
  have hlk' : (Instr.lookup 86 (.map (some bm)) (.string (bstr x.n.pol)) true).run Tryz.prog (w.alloc (.cells #[.string (bstr x.n.pol), x.u.val, x.q.val] 65)) = .ok (.tuple #[((f x.n.pol).getD nilS).val, .bool (f x.n.pol).isSome]) (w.alloc (.cells #[.string (bstr x.n.pol), x.u.val, x.q.val] 65)) := hlk
  clear hba hlk hq
  generalize (f x.n.pol).isSome = R at *
  generalize ((f x.n.pol).getD nilS).val = V at *
  generalize x.u.val = U1 at *
  generalize x.q.val = U2 at *
  generalize bstr x.n.pol = S at *
  go_enter Tryz.func62, Tryz.ntmps62
  go_wp2_with fail
  go_ret
  exact ⟨rfl, HB.out⟩
set_option maxRecDepth 100000 in
set_option maxHeartbeats 2000000 in
theorem idxM_any (w : World) (v : Value) (l : List Vt) (h : VL w v l) (hn : l.length ≤ 100000) (qd bm q : Nat) (f : B → Option Sg) (hm : OwnF w kS rdS edS bm q f) (hq : w.cell? ⟨qd, 0, none⟩ = some (.map (some bm))) (hql : qd < w.heap.size) :
    Calls Tryz.prog 94 #[v, .func (.func 62) #[] #[.pointer (some ⟨qd, 0, none⟩)]] w fun e w' => e = .returned (.int .i64 (idxG (vxs l) fun n => (f n.pol).isSome)) ∧ Below w.heap.size w w' := by
  obtain ⟨ad, c, rfl, -⟩ := h.rd.form
  have HC := Bx.mk h.at3
  obtain ⟨R, hR⟩ : ∃ R, R = idxG (vxs l) fun n => (f n.pol).isSome := ⟨_, rfl⟩
  rw [← hR]
  have HR := Bx.mk hR
  obtain ⟨N, hN⟩ : ∃ N, N = l.length := ⟨_, rfl⟩
  have HN := Bx.mk hN
  rw [← hN] at hn ⊢
  clear hR hN
  have HQ := Bx.mk hq
  have HQL := Bx.mk hql
  have HM := Bx.mk hm
  have HPL := Bx.mk (show ∀ x ∈ l, x.n.pol.length ≤ 1000000 from fun x hx => (h.at_ x hx).2.2.2.1)
  clear hq hql hm h
  have eg : ∀ args W, (callFunc 62 args).run Tryz.prog W = .ok (.enter 62 args) W := enters_of Tryz.func62 (by kernel_rfl) rfl
  go_enter Tryz.func94, Tryz.ntmps94
  go_wp2_with fail
  go_loopw [8] (fun i wr => ∃ k : Nat, k ≤ N ∧ i = .int .i64 k ∧ Bx (∀ j, j < k → (f ((vxs l)[j]!).pol).isSome = false) ∧ Bx (Below w.heap.size w wr)) (fun i _ => N - (intOf i).toNat)
  case atStart => exact ⟨0, by omega, rfl, ⟨fun j hj => by omega⟩, ⟨Below.refl _ _⟩⟩
  case round =>
    obtain ⟨k, hk, rfl, hF, hBw⟩ := hrel
    by_cases hlt : k < N
    · have hkl : k < l.length := by rw [← HN.out]; exact hlt
      obtain ⟨b, o, rfl, hbl, c0, c1, c2⟩ := HC.out wr hBw.out k hkl
      have HX := Bx.mk (show (vxs l)[k]! = (l[k]).n from vxs_at l k hkl)
      have HXP := Bx.mk (HPL.out _ (List.getElem_mem hkl))
      obtain ⟨x, hx⟩ : ∃ x, x = l[k] := ⟨_, rfl⟩
      rw [← hx] at c0 c1 c2 HX HXP
      simp only [Sl.val] at c1 c2
      have hcf := mapF_any wr x qd bm q f (HM.out.below hBw.out) ((hBw.out.cell (p := ⟨qd, 0, none⟩) HQL.out).trans HQ.out) (Nat.lt_of_lt_of_le HQL.out hBw.out.size) HXP.out
      unfold verV at hcf
      simp only [Sl.val] at hcf
      obtain ⟨r, hr⟩ : ∃ r, r = (f x.n.pol).isSome := ⟨_, rfl⟩
      rw [← hr] at hcf
      have HRX := Bx.mk hr
      clear hx hbl hr
      go_wp2_with fail
      go_at_call 62
      refine hcf.mono ?_
      rintro e w2 ⟨rfl, hb2⟩
      have HB2 := Bx.mk (hBw.out.trans (hb2.mono hBw.out.size))
      clear hcf hb2 c0 c1 c2
      cases r with
      | true =>
        have HF2 := Bx.mk (show R = (k : Int) by rw [HR.out]; exact idxG_eq (by rw [vxs_len]; exact hkl) (by rw [HX.out]; exact HRX.out.symm) hF.out)
        clear hkl
        go_wp2_with fail
        go_ret
        exact ⟨by rw [HF2.out]; rfl, HB2.out⟩
      | false =>
        clear hkl
        go_wp2_with fail
        go_roundw
        case rel => exact ⟨k + 1, by omega, by go_num, ⟨fun j hj => by
          by_cases e : j = k
          · subst e; rw [HX.out]; exact HRX.out.symm
          · exact hF.out j (by omega)⟩, HB2⟩
        case measure => simp [intOf]; omega
    · obtain rfl : N = k := by omega
      have HF2 := Bx.mk (show R = -1 by rw [HR.out]; exact idxG_no fun i hi => hF.out i (by rw [vxs_len, ← HN.out] at hi; exact hi))
      go_wp2_with fail
      go_ret
      exact ⟨by rw [HF2.out]; rfl, hBw.out⟩
end Go.Proofs.YtmagjdocondmhaaGreat.Tr.Gr
