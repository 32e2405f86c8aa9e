/-
  first. (Written by wip/gen/gen_pbf2.py.)
-/
import Derived.Test.YtpagoinnkknkfaaPbFirst
import Derived.Test.YtpagoinnkknkfaaFactsB
namespace Go.Proofs.Ytpagoinnkknkfaa.Pb
open Go Go.RowKit Go.Proofs.Ytpagoinnkknkfaa.Slc
set_option linter.unusedVariables false
set_option linter.unusedSimpArgs false

theorem info_entry : (Try.prog.info? 44).map (fun i => (i.zero, i.size, i.bytes)) = some (some (.agg #[.int .i64 0, .int .i64 0, .int .i64 0, .int .i64 0, .slice none 0 0]), 5, 56) := by kernel_rfl
theorem und_entries : Try.prog.underlying 40 = some (.slice 44) := by kernel_rfl
theorem und_entries' : Try.prog.underlying 40 = some (.slice (Try.prog.elem 40)) := by kernel_rfl
theorem size_entries (W : World) : (sizeOf (Try.prog.elem 40)).run Try.prog W = .ok 5 W := by kernel_rfl
theorem firstA_snoc (x : En) : ∀ (l pre : List En), firstA pre (l ++ [x]) = firstA pre l ++ (if (findE (pre ++ l) x).isSome then [] else [x])
  | [], pre => by
    rw [List.nil_append, firstA, firstA, firstA, List.append_nil]
    split <;> rfl
  | a :: l, pre => by
    rw [List.cons_append, firstA, firstA, firstA_snoc x l (pre ++ [a])]
    simp only [List.append_assoc, List.singleton_append]
    split <;> rfl
theorem first_snoc (l : List En) (x : En) : firstE (l ++ [x]) = firstE l ++ (if (findE l x).isSome then [] else [x]) := firstA_snoc x l []
theorem optV_form (o : Option Et) : ∃ s t r v a n c, optV o = .tuple #[.agg #[.int .i64 s, .int .i64 t, .int .i64 r, .int .i64 v, .slice a n c], .bool o.isSome] := by
  cases o with
  | none => exact ⟨_, _, _, _, _, _, _, rfl⟩
  | some x => exact ⟨_, _, _, _, _, _, _, rfl⟩
def zBox : Obj := .cells #[.int .i64 0, .int .i64 0, .int .i64 0, .int .i64 0, .slice none 0 0] 44
/-- the facts of first's region -/
def FsF (W : World) (v0 : Value) (k : Nat) (U E : Value) (s t r v : Int) (a : Option Addr) (n c : Nat) (q : Bool) : Nat → Value → World → Prop
  | 0, x, _ => x = v0
  | 1, x, _ => x = .int .i64 k
  | 2, x, _ => x = U
  | 3, x, _ => x = E
  | 4, x, _ => x = .tuple #[.agg #[.int .i64 s, .int .i64 t, .int .i64 r, .int .i64 v, .slice a n c], .bool q]
  | 5, x, _ => x = .tuple #[.agg #[.int .i64 s, .int .i64 t, .int .i64 r, .int .i64 v, .slice a n c], .bool q]
  | 6, x, _ => x = .agg #[.int .i64 s, .int .i64 t, .int .i64 r, .int .i64 v, .slice a n c]
  | 7, x, _ => x = .bool q
  | 8, x, w => ∃ g : Nat, x = .pointer (some ⟨g, 0, none⟩) ∧ W.heap.size ≤ g ∧ w.heap[g]? = some zBox
  | _, _, _ => True
theorem FsF.stable (W : World) (v0 : Value) (k : Nat) (U E : Value) (s t r v : Int) (a : Option Addr) (n c : Nat) (q : Bool) (i : Nat) (x : Value) (w w' : World) (h : FsF W v0 k U E s t r v a n c q i x w) (hb : Below w.heap.size w w') : FsF W v0 k U E s t r v a n c q i x w' := by
  match i with
  | 0 | 1 | 2 | 3 | 4 | 5 | 6 | 7 => exact h
  | 8 => obtain ⟨g, h1, h2, h3⟩ := h; exact ⟨g, h1, h2, by rw [hb.block g (lt_of_block h3)]; exact h3⟩
  | _ + 9 => exact trivial
def FsC : Nat → Option Nat
  | 8 => some 9
  | _ => none
def FsB : Nat → Bool
  | 9 => true
  | _ => false
theorem FsF.big (W : World) (v0 : Value) (k : Nat) (U E : Value) (s t r v : Int) (a : Option Addr) (n c : Nat) (q : Bool) (d : Nat → Bool) (b j : Nat) (x : Value) (w w' : World) (hb : FsB b = true) (hc : ∀ c, FsC j = some c → mark d b c = false) (hne : j ≠ b) (h : FsF W v0 k U E s t r v a n c q j x w) : FsF W v0 k U E s t r v a n c q j x w' := by
  have hb9 : b = 9 := by
    unfold FsB at hb; split at hb
    · rfl
    · cases hb
  subst hb9
  match j with
  | 0 | 1 | 2 | 3 | 4 | 5 | 6 | 7 => exact h
  | 8 => have := hc 9 rfl; simp [mark] at this
  | _ + 9 => exact trivial

set_option maxRecDepth 10000 in
set_option maxHeartbeats 4000000 in
theorem pfirst_any (w : World) (v : Value) (l : List Et) (hl : EL w v l) (hn : l.length ≤ 1000000) :
    Calls Try.prog 48 #[v] w fun e w' => ∃ v' l', e = .returned v' ∧ Own w' w.heap.size 44 5 encE v' l' ∧ EL w' v' l' ∧ ens l' = firstE (ens l) ∧ Below w.heap.size w w' := by
  obtain ⟨i0, hi0, hz0, hz1, hz2⟩ := info_parts info_entry
  obtain ⟨ad, c, rfl, -⟩ := hl.rd.form
  have HL := Bx.mk hl
  have HC := Bx.mk hl.cells.2
  clear hl
  go_enter Try.func48, Try.ntmps48
  go_wp2
  go_loopw [3, 10] (fun ov i wr => ∃ (k : Nat) (out : List Et), k ≤ l.length ∧ i = .int .i64 k ∧ out.length ≤ k ∧ Gr w w.heap.size 44 5 encE wr ov out ∧ Bx (ens out = firstE (ens (l.take k)) ∧ ∀ x ∈ out, EtAt w x)) (fun _ i _ => l.length - (intOf i).toNat)
  case atStart => exact ⟨0, [], by omega, rfl, by simp, Gr.nil _ _ (Nat.le_refl _), ⟨by simp [ens, firstE, firstA], fun x hx => by cases hx⟩⟩
  case round =>
    obtain ⟨k, out, hk, rfl, hlen, hG, hF⟩ := hrel
    obtain ⟨av, cv, rfl, -⟩ := hG.form
    have hBw : Below w.heap.size w wr := hG.bel
    have HBw := Bx.mk hBw
    have HG := Bx.mk hG
    have HLEN := Bx.mk hlen
    by_cases hlt : k < l.length
    · obtain ⟨b, o, rfl, hbl, c0, c1, c2, c3, c4⟩ := HC.out wr hBw k hlt
      have hmem : l[k] ∈ l := List.getElem_mem hlt
      have hbl' : b < wr.heap.size := by have := hBw.size; omega
      obtain ⟨z, hz⟩ : ∃ z, z = l[k] := ⟨_, rfl⟩
      rw [← hz] at c0 c1 c2 c3 c4 hmem
      have htk : ens (l.take (k + 1)) = ens (l.take k) ++ [z.e] := by rw [ens, List.take_succ_eq_append_getElem hlt, List.map_append, ← hz]; rfl
      have hsn := first_snoc (ens (l.take k)) z.e
      rw [← htk, ← findT_some] at hsn
      obtain ⟨es, et, er, ev, ea, en, ec, hopt⟩ := optV_form (findT (l.take k) z.e)
      obtain ⟨U, hrun, hrd⟩ := HL.out.rd.upto (P := Try.prog) (T := 40) encE_ok und_entries' size_entries k (by omega)
      have hEL : EL w U (l.take k) := ⟨hrd, fun x hx => HL.out.at_ x (List.mem_of_mem_take hx)⟩
      have HCALL := Bx.mk (fun (W : World) (hW : Below w.heap.size w W) => pfind_any W U (l.take k) z (hEL.below hW) ((HL.out.at_ z hmem).below hW) (by rw [List.length_take]; omega))
      rw [hopt] at HCALL
      have HATZ := Bx.mk (fun (W : World) (hW : Below w.heap.size w W) => (HL.out.at_ z hmem).below hW)
      have HRUN := Bx.mk hrun
      have HEV := Bx.mk (encBox_eq z)
      unfold entV at HCALL
      generalize (findT (l.take k) z.e).isSome = q at *
      have HF := Bx.mk hF.out
      have HSN := Bx.mk hsn
      clear hz hmem htk hsn hopt hrun hrd hEL hF hG hlen hbl
      have hU1 : ∃ a n c, z.u.val = .slice a n c := ⟨_, _, _, rfl⟩
      have HB5 := Bx.mk (show ∀ (o : Obj) W, Below (wr.alloc o).heap.size (wr.alloc o) W → Below w.heap.size w W from fun o W h => (HBw.out.alloc HBw.out.size o).trans (h.mono (by have := HBw.out.size; simp; omega)))
      obtain ⟨p, hp⟩ : ∃ p, p = wr.heap.size := ⟨_, rfl⟩
      have HP0 := Bx.mk hp
      unfold encBox at HEV
      generalize z.u.val = U1 at *
      obtain ⟨ua, un, uc, rfl⟩ := hU1
      generalize z.e.s = S1 at *
      generalize z.e.t = T1 at *
      generalize z.e.r = R1 at *
      generalize z.e.v = V1 at *
      go_wp2_with fail
      obtain ⟨W5, hW5⟩ : ∃ W5, W5 = wr.alloc (.cells #[.int .i64 S1, .int .i64 T1, .int .i64 R1, .int .i64 V1, .slice ua un uc] 44) := ⟨_, rfl⟩
      have HPB := Bx.mk (show ∀ W, Below W5.heap.size W5 W → W.heap[p]? = some (.cells #[.int .i64 S1, .int .i64 T1, .int .i64 R1, .int .i64 V1, .slice ua un uc] 44) from fun W hW => by
        rw [hW.block p (by rw [hW5, hp]; simp), hW5, hp]; exact heap_alloc_new _ _)
      have HW5 := Bx.mk (show ∀ W, Below W5.heap.size W5 W → Below w.heap.size w W from fun W hW => HB5.out _ W (by rw [← hW5]; exact hW))
      have HW5b := Bx.mk (show Below wr.heap.size wr W5 by rw [hW5]; exact (Below.refl _ _).alloc (Nat.le_refl _) _)
      have HW5s := Bx.mk (show p < W5.heap.size by rw [hW5, hp]; simp)
      rw [← hW5, ← hp]
      clear hW5 hp HB5
      refine wp_region_factsV 10 FsC FsB (FsF W5 (.slice (some ⟨b, o, none⟩) l.length c) k U (.agg #[.int .i64 S1, .int .i64 T1, .int .i64 R1, .int .i64 V1, .slice ua un uc]) es et er ev ea en ec q) (by kernel_rfl) (by kernel_rfl) (by rfl) (FsF.stable _ _ _ _ _ _ _ _ _ _ _ _ _) (fun b ob j v d w1 w' hb _ _ hc hne _ h _ => FsF.big _ _ _ _ _ _ _ _ _ _ _ _ _ d b j v w1 w' hb hc hne h) ?_ ?_
      · intro i o hi ho x w1 hb hd
        have hc : i = 0 ∨ i = 1 ∨ i = 2 ∨ i = 3 ∨ i = 4 ∨ i = 5 ∨ i = 6 ∨ i = 7 ∨ i = 8 ∨ i = 9 := by omega
        simp only [List.take_succ_cons, List.take_zero, putFrom]
        have hpb := HPB.out w1 hb
        have d0 := cell_of_row _ _ 0 _ _ _ hpb
        have d1 := cell_of_row _ _ 1 _ _ _ hpb
        have d2 := cell_of_row _ _ 2 _ _ _ hpb
        have d3 := cell_of_row _ _ 3 _ _ _ hpb
        have d4 := cell_of_row _ _ 4 _ _ _ hpb
        simp only [List.getElem?_toArray, List.getElem?_cons_zero, List.getElem?_cons_succ] at d0 d1 d2 d3 d4
        have hcall := HCALL.out w1 (HW5.out w1 hb)
        have hru := HRUN.out w1
        clear hpb c0 c1 c2 c3 c4
        rcases hc with rfl | rfl | rfl | rfl | rfl | rfl | rfl | rfl | rfl | rfl
        all_goals
          simp only [List.getElem?_cons_succ, List.getElem?_cons_zero, Option.some.injEq] at ho
          subst ho
          simp [NeedsB, Region.binds, FsF, FsC] at hd
          try obtain ⟨hd1, hd⟩ := hd
          try obtain ⟨hd2, hd⟩ := hd
        case inr.inr.inr.inr.inr.inr.inr.inr.inr =>
          obtain ⟨g, hd1, hg, hbk⟩ := hd1
          clear hd
          rw [hd1, hd2]
          unfold zBox at hbk
          have m0 := cell_of_row _ _ 0 _ _ _ hbk
          have m1 := cell_of_row _ _ 1 _ _ _ hbk
          have m2 := cell_of_row _ _ 2 _ _ _ hbk
          have m3 := cell_of_row _ _ 3 _ _ _ hbk
          have m4 := cell_of_row _ _ 4 _ _ _ hbk
          simp only [List.getElem?_toArray, List.getElem?_cons_zero, List.getElem?_cons_succ] at m0 m1 m2 m3 m4
          have fr : ∀ i, w1.frozen? ⟨g, i, none⟩ = false := fun i => by simp [World.frozen?, hbk]
          have HST := Bx.mk (show Below W5.heap.size w1 (((((w1.setCell ⟨g, 0, none⟩ (.int .i64 es)).setCell ⟨g, 1, none⟩ (.int .i64 et)).setCell ⟨g, 2, none⟩ (.int .i64 er)).setCell ⟨g, 3, none⟩ (.int .i64 ev)).setCell ⟨g, 4, none⟩ (.slice ea en ec)) from
            (((((Below.refl _ _).setCell (p := ⟨g, 0, none⟩) hg _).setCell (p := ⟨g, 1, none⟩) hg _).setCell (p := ⟨g, 2, none⟩) hg _).setCell (p := ⟨g, 3, none⟩) hg _).setCell (p := ⟨g, 4, none⟩) hg _)
          clear hd1 hd2 hcall hru d0 d1 d2 d3 d4 hbk hg hb
          go_wp2_with fail
          exact ⟨rfl, rfl, trivial, HST.out⟩
        all_goals go_wp2_with fail
        all_goals simp only [FsB, upd, if_true, Bool.false_eq_true, if_false]
        all_goals first
          | (exact ⟨rfl, rfl, rfl, Below.refl _ _⟩)
          | (exact ⟨rfl, rfl, ⟨_, rfl, hb.size, heap_alloc_new _ _⟩, (Below.refl _ _).alloc (Nat.le_refl _) _⟩)
          | (go_at_call 49; (with_reducible refine hcall.mono ?_); rintro e w2 ⟨rfl, hb2⟩; go_wp2_with fail; simp only [FsB, upd, if_true, Bool.false_eq_true, if_false]; exact ⟨rfl, rfl, rfl, hb2⟩)
      · intro x w1 hb hf
        have f0 := hf 0 (by omega) (fun c hc => by cases hc)
        have f1 := hf 1 (by omega) (fun c hc => by cases hc)
        have f2 := hf 2 (by omega) (fun c hc => by cases hc)
        have f3 := hf 3 (by omega) (fun c hc => by cases hc)
        have f4 := hf 4 (by omega) (fun c hc => by cases hc)
        have f5 := hf 5 (by omega) (fun c hc => by cases hc)
        have f6 := hf 6 (by omega) (fun c hc => by cases hc)
        have f7 := hf 7 (by omega) (fun c hc => by cases hc)
        simp only [FsF] at f0 f1 f2 f3 f4 f5 f6 f7
        clear hf
        simp only [List.take_succ_cons, List.take_zero, List.drop_succ_cons, List.drop_zero, putFrom, Nat.zero_add, Nat.reduceAdd, f0, f1, f2, f3, f4, f5, f6, f7]
        clear f0 f1 f2 f3 f4 f5 f6 f7
        generalize x 8 = X8 at *
        generalize x 9 = X9 at *
        clear x
        have hpb := HPB.out w1 hb
        have d0 := cell_of_row _ _ 0 _ _ _ hpb
        have d1 := cell_of_row _ _ 1 _ _ _ hpb
        have d2 := cell_of_row _ _ 2 _ _ _ hpb
        have d3 := cell_of_row _ _ 3 _ _ _ hpb
        have d4 := cell_of_row _ _ 4 _ _ _ hpb
        simp only [List.getElem?_toArray, List.getElem?_cons_zero, List.getElem?_cons_succ] at d0 d1 d2 d3 d4
        have HBST := Bx.mk (HW5b.out.trans (hb.mono HW5b.out.size))
        clear hpb hb c0 c1 c2 c3 c4 hbl' hBw
        cases q with
        | true =>
          have HSN2 := Bx.mk (show firstE (ens (l.take (k + 1))) = firstE (ens (l.take k)) by rw [HSN.out]; simp)
          go_wp2
          go_roundw
          case rel => exact ⟨k + 1, out, by omega, by go_num, by have := HLEN.out; omega, HG.out.below HBST.out, ⟨by rw [HSN2.out]; exact HF.out.1, HF.out.2⟩⟩
          case measure => simp [intOf]; omega
        | false =>
          have HSN2 := Bx.mk (show firstE (ens (l.take (k + 1))) = firstE (ens (l.take k)) ++ [z.e] by rw [HSN.out]; simp)
          have HBA := Bx.mk (HBST.out.alloc HBST.out.size (.cells #[.int .i64 S1, .int .i64 T1, .int .i64 R1, .int .i64 V1, .slice ua un uc] 44))
          have hown := (HG.out.below HBA.out).own
          have hsrc : SrcV (w1.alloc (.cells #[.int .i64 S1, .int .i64 T1, .int .i64 R1, .int .i64 V1, .slice ua un uc] 44)) 5 (.slice (some ⟨w1.heap.size, 0, none⟩) 1 1) 1 ([z].flatMap encE) := src_new encE_ok (by rw [heap_alloc_new, HEV.out])
          have hbz : w.heap.size ≤ (w1.alloc (.cells #[.int .i64 S1, .int .i64 T1, .int .i64 R1, .int .i64 V1, .slice ua un uc] 44)).heap.size := (HG.out.below HBA.out).sz
          have HOWN := Bx.mk hown
          have hm1 : out.length + 1 ≤ maxLen := by have := HLEN.out; unfold maxLen; omega
          have hm2 : (out.length + 1) * 56 ≤ 140737488355328 := by have := HLEN.out; omega
          clear hown
          go_wp2_with (refine wpList_append_any rfl _ _ _ rfl w.heap.size 44 i0 _ 5 56 und_entries hi0 hz0 hz1 hz2 rfl (by decide) _ out.length (out.flatMap encE) rfl HOWN.out _ 1 ([z].flatMap encE) rfl hsrc hm1 hm2 hbz ?_)
          intro v2 w3 hapd
          have hG2 := (HG.out.below HBA.out).apd (m := [z]) rfl rfl rfl rfl hapd
          have HG2 := Bx.mk hG2
          have HAT := Bx.mk (show ∀ x ∈ out ++ [z], EtAt w x from fun x hx => by
            rcases List.mem_append.1 hx with hx | hx
            · exact HF.out.2 x hx
            · rw [List.mem_singleton] at hx; subst hx
              exact HATZ.out _ (Below.refl _ _))
          clear hapd hsrc hbz hG2 HOWN
          go_wp2
          go_roundw
          case rel => exact ⟨k + 1, out ++ [z], by omega, by go_num, by have := HLEN.out; simp; omega, HG2.out, ⟨by rw [HSN2.out, ← HF.out.1]; simp [ens], HAT.out⟩⟩
          case measure => simp [intOf]; omega
    · obtain rfl : k = l.length := by omega
      have HFF := Bx.mk hF.out
      clear hF hG hBw
      go_wp2
      go_ret
      exact ⟨_, out, rfl, HG.out.own, ⟨HG.out.own.rd, fun x hx => (HFF.out.2 x hx).below HG.out.bel⟩, by rw [HFF.out.1, List.take_length], HG.out.bel⟩
end Go.Proofs.Ytpagoinnkknkfaa.Pb
