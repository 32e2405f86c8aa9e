/-
  The walk of WalFollows: it returns true. (Written by wip/gen/gen_wlf.py.)
-/
import Derived.Test.YtbfgkcgnhgfkmaaGreatWlE
import Derived.Test.YtbfgkcgnhgfkmaaGreatFactsM
namespace Go.Proofs.YtbfgkcgnhgfkmaaGreat.Wl
open Go Go.RowKit Go.Proofs.YtbfgkcgnhgfkmaaGreat.Slc Go.Proofs.YtbfgkcgnhgfkmaaGreat.Hs
open Go.Proofs.YtbfgkcgnhgfkmaaGreat.Dk (Fr ptr bstr bstr_size bstr_list same_any i64ok small_any NewP NewB St new_rep new_any rnew_any RepP RepR read_any rread_any names_any rnames_any rdV nms_len)
set_option linter.unusedVariables false
set_option linter.unusedSimpArgs false

theorem cell_stay {w w' : World} {p i : Nat} {v : Value} (h : some v = w.cell? ⟨p, i, none⟩) (hb : Below w.heap.size w w') : some v = w'.cell? ⟨p, i, none⟩ := by
  have hlt : p < w.heap.size := by
    rcases Nat.lt_or_ge p w.heap.size with q | q
    · exact q
    · simp [World.cell?, Array.getElem?_eq_none q] at h
  rw [h]; unfold World.cell?; rw [hb.block p hlt]
/-- what the round's operations yield -/
def LoF (p d r b o k n z u : Nat) (V cv : Value) (nm : List Hs.B) : Nat → Value → World → Prop
  | 0, v, _ => v = ptr p
  | 1, v, _ => v = V
  | 2, v, _ => v = .int .i64 (k : Int)
  | 3, v, _ => v = .pointer (some ⟨b, o + k * 4, none⟩)
  | 4, v, _ => v = cv
  | 5, v, _ => v = .bool true
  | 6, v, _ => v = .bool false
  | 7, v, _ => v = .bool false
  | 8, v, _ => v = ptr p
  | 9, v, _ => v = ptr p
  | 10, v, _ => v = .pointer (some ⟨p, 2, none⟩)
  | 11, v, w => some v = w.cell? ⟨p, 2, none⟩
  | 12, v, _ => v = .int .i64 (n : Int)
  | 13, v, _ => v = ptr p
  | 14, v, _ => v = ptr p
  | 15, v, _ => v = .pointer (some ⟨p, 3, none⟩)
  | 16, v, w => some v = w.cell? ⟨p, 3, none⟩
  | 17, v, w => some v = w.cell? ⟨p, 3, none⟩
  | 18, v, w => ∃ m : Nat, some (ptr m) = w.cell? ⟨p, 3, none⟩ ∧ v = .pointer (some ⟨m, 2, none⟩)
  | 19, v, _ => v = .int .i64 (n : Int)
  | 20, v, _ => v = .bool false
  | 21, v, _ => v = .bool false
  | 22, v, _ => v = .bool false
  | 23, v, _ => v = ptr p
  | 24, v, _ => v = ptr p
  | 25, v, _ => v = .pointer (some ⟨p, 2, none⟩)
  | 26, v, w => some v = w.cell? ⟨p, 2, none⟩
  | 27, v, _ => v = .int .i64 (z : Int)
  | 28, v, _ => v = ptr p
  | 29, v, _ => v = ptr p
  | 30, v, _ => v = .pointer (some ⟨p, 3, none⟩)
  | 31, v, w => some v = w.cell? ⟨p, 3, none⟩
  | 32, v, w => some v = w.cell? ⟨p, 3, none⟩
  | 33, v, w => ∃ m : Nat, some (ptr m) = w.cell? ⟨p, 3, none⟩ ∧ v = .pointer (some ⟨m, 3, none⟩)
  | 34, v, _ => v = .int .i64 (z : Int)
  | 35, v, _ => v = .bool false
  | 36, v, _ => v = .bool false
  | 37, v, _ => v = .bool false
  | 38, v, _ => v = ptr p
  | 39, v, _ => v = ptr p
  | 40, v, _ => v = .pointer (some ⟨p, 0, none⟩)
  | 41, v, _ => v = ptr d
  | 42, v, w => Rd w Dk.encS v nm
  | 43, v, _ => v = ptr p
  | 44, v, _ => v = ptr p
  | 45, v, _ => v = .pointer (some ⟨p, 1, none⟩)
  | 46, v, _ => v = ptr r
  | 47, v, w => Rd w Dk.encS v nm
  | 48, v, _ => v = .bool true
  | 49, v, _ => v = .bool false
  | 50, v, _ => v = .bool false
  | 51, v, _ => v = .bool false
  | 52, v, _ => v = ptr p
  | 53, v, _ => v = ptr p
  | 54, v, _ => v = .pointer (some ⟨p, 0, none⟩)
  | 55, v, _ => v = ptr d
  | 56, v, _ => v = .int .i64 (u : Int)
  | 57, v, _ => v = ptr p
  | 58, v, _ => v = ptr p
  | 59, v, _ => v = .pointer (some ⟨p, 1, none⟩)
  | 60, v, _ => v = ptr r
  | 61, v, _ => v = ptr r
  | 62, v, _ => v = .pointer (some ⟨r, 2, none⟩)
  | 63, v, _ => ∃ ad c, v = .slice ad u c
  | 64, v, _ => v = .int .i64 (u : Int)
  | 65, v, _ => v = .bool false
  | 66, v, _ => v = .bool false
  | _, _, _ => True
theorem LoF.stable {p d r b o k n z u : Nat} {V cv : Value} {nm : List Hs.B} (i : Nat) (v : Value) (w w' : World) (h : LoF p d r b o k n z u V cv nm i v w) (hb : Below w.heap.size w w') : LoF p d r b o k n z u V cv nm i v w' := by
  match i with
  | 0 | 1 | 2 | 3 | 4 | 5 | 6 | 7 | 8 | 9 | 10 | 12 | 13 | 14 | 15 | 19 | 20 | 21 | 22 | 23 | 24 | 25 | 27 | 28 | 29 | 30 | 34 | 35 | 36 | 37 | 38 | 39 | 40 | 41 | 43 | 44 | 45 | 46 | 48 | 49 | 50 | 51 | 52 | 53 | 54 | 55 | 56 | 57 | 58 | 59 | 60 | 61 | 62 | 63 | 64 | 65 | 66 => exact h
  | 11 | 26 | 16 | 17 | 31 | 32 => exact cell_stay h hb
  | 18 | 33 => obtain ⟨m, h1, h2⟩ := h; exact ⟨m, cell_stay h1 hb, h2⟩
  | 42 | 47 => exact Rd.below (show Rd w Dk.encS v nm from h) hb
  | _ + 67 => exact trivial
theorem LoF.free {p d r b o k n z u : Nat} {V cv : Value} {nm : List Hs.B} (i : Nat) (v : Value) (w w' : World) (hi : i < 5) (h : LoF p d r b o k n z u V cv nm i v w) : LoF p d r b o k n z u V cv nm i v w' := by
  have hc : i = 0 ∨ i = 1 ∨ i = 2 ∨ i = 3 ∨ i = 4 := by omega
  rcases hc with rfl | rfl | rfl | rfl | rfl <;> exact h
/-- what holds at a round's start -/
def LoR (d : Nat) (w : World) (r p : Nat) (L : Nat) (i : Value) (wx : World) : Prop :=
  ∃ (k : Nat) (s : St) (g : Lg) (lx mx : Nat), k ≤ L ∧ i = .int .i64 (k : Int) ∧ WFi (k + 1) s g ∧ Pr d w wx d r s s (Hl p d r lx mx g g [])
theorem Pr.ok {B : Nat} {w w' : World} {d r : Nat} {s t : St} {H : List (Nat × Obj)} (h : Pr B w w' d r s t H) : s.Ok := by
  obtain ⟨F, R, G, Q, h1, _⟩ := h; exact h1.ok
theorem Pr.drawn {B : Nat} {w w' : World} {d r : Nat} {s t : St} {H : List (Nat × Obj)} (h : Pr B w w' d r s t H) (n : Nat) : Pr B w { w' with drawn := n } d r s t H := h.below ⟨rfl, rfl, rfl, Nat.le_refl _, fun _ _ => rfl⟩
theorem Hl.mem_l {p d r l m : Nat} {ga gb : Lg} {H : List (Nat × Obj)} : (l, lblk ga d) ∈ Hl p d r l m ga gb H := by simp [Hl]
theorem Hl.mem_m {p d r l m : Nat} {ga gb : Lg} {H : List (Nat × Obj)} : (m, rlblk gb r) ∈ Hl p d r l m ga gb H := by simp [Hl]

set_option maxHeartbeats 16000000 in
set_option maxRecDepth 20000 in
theorem law_follows (cap : Int) (v : Value) (l : List WC) (w : World) (hcap : i64ok cap) (hA : WArg w v l) (hin : ∀ c ∈ l, c.In) (hl : l.length ≤ 9223372036854775807) :
    Calls Tryz.prog 3 #[.int .i64 cap, v] w fun e w' => e = .returned (.bool true) ∧ Below w.heap.size w w' := by
  have hsh := few_any w v l hA hin hl
  have HAW := Lib.hid (fun W => wawake_any W)
  have HL := Lib.hid hl
  obtain ⟨ad, c, rfl, -⟩ := id hA
  have HA := Lib.hid hA
  cases hs : fewB l with
  | false =>
    rw [hs] at hsh
    clear hA hin
    go_enter Tryz.func3, Tryz.ntmps3
    go_wp2_with fail
    go_at_call 4
    refine hsh.mono ?_
    rintro e w' ⟨rfl, rfl⟩
    go_wp2_with fail
    go_at_call 5
    refine (HAW.out _).mono ?_
    rintro e w' ⟨rfl, hb⟩
    go_wp2
    go_ret
    exact ⟨rfl, hb⟩
  | true =>
    rw [hs] at hsh
    obtain ⟨hlen, hfit⟩ := few_len hs hin
    have HFIT := Lib.hid hfit
    have HSM := Lib.hid (fun W => small_any cap 3000 W hcap.1 hcap.2 (by omega) (by omega))
    have z0 : 0 ≤ cap % 3000 := by omega
    have z1 : cap % 3000 < 3000 := by omega
    generalize cap % 3000 = C0 at *
    have HN0 := Lib.hid (new_rep w C0 (by omega))
    have HRN := Lib.hid (fun W => rnew_any C0 W (by omega))
    have h10 := new_any C0 w
    have hop : openP (St.new C0) lg = (St.new C0, 0, some ([], 0)) := by rw [new_one C0 z0]; exact one_open C0 [] (fun x h => by simp at h) (by simp)
    have HOP := Bx.mk hop
    have HW0 := Lib.hid (show WFi 1 (St.new C0) ⟨lg, 0, 0, false⟩ from ⟨by simp [St.new], by rw [Dk.new_wt]; omega, by simp, by simp, rfl, by simp [St.new]; omega⟩)
    have HLEN := Lib.hid hlen
    clear hA hin hfit hs hcap hop
    go_enter Tryz.func3, Tryz.ntmps3
    go_wp2_with fail
    go_at_call 4
    refine hsh.mono ?_
    rintro e w' ⟨rfl, rfl⟩
    go_wp2_with fail
    go_at_call 6
    refine (HSM.out _).mono ?_
    rintro e w' ⟨rfl, rfl⟩
    go_wp2_with fail
    go_at_call 7
    refine h10.mono ?_
    rintro e w2 ⟨rfl, hw2⟩
    rw [← hw2] at HN0
    clear h10 hw2
    generalize hd : w.heap.size = d at *
    have HD := Lib.hid hd
    clear hd
    go_wp2_with fail
    go_at_call 8
    refine (HRN.out _).mono ?_
    rintro e w3 ⟨rfl, hr1, hb2⟩
    have hnb := Pr.of (NewB.made HN0.out hr1 hb2)
    generalize w2.heap.size = r at *
    have hpm := hnb.made (pblk d r (.pointer none) (.pointer none))
    obtain ⟨w4, hw4⟩ : ∃ W, w3.alloc (.cells #[.pointer (some ⟨d, 0, none⟩), .pointer (some ⟨r, 0, none⟩), .pointer none, .pointer none] 34) = W := ⟨_, rfl⟩
    have hpm4 : Pr d w w4 d r (St.new C0) (St.new C0) [(w3.heap.size, pblk d r (.pointer none) (.pointer none))] := by rw [← hw4]; exact hpm
    clear hr1 hb2 hnb hpm
    obtain ⟨c0, c1, -, -, -⟩ := pblk_cells (hpm4.blk _ List.mem_cons_self)
    have hpo : Calls Tryz.prog 9 #[ptr w3.heap.size, .string ⟨#[108, 111, 103]⟩] w4 _ := popen_any lg hpm4 (by decide) (by simp [St.new]) (by rw [Dk.new_wt]; omega)
    have HPO := Lib.hid hpo
    unfold ptr at HPO c0 c1 ⊢
    clear hpo hpm4
    go_wp2_with fail
    go_at_call 9
    refine HPO.out.mono ?_
    rintro e w5 ⟨rfl, hpp⟩
    clear c0 c1 hw4 HPO
    generalize w3.heap.size = p at *
    obtain ⟨l0, m0, hp5⟩ : ∃ l0 m0, Pr d w w5 d r (St.new C0) (St.new C0) (Hl p d r l0 m0 ⟨lg, 0, 0, false⟩ ⟨lg, 0, 0, false⟩ []) := by rw [HOP.out] at hpp; exact hpp
    obtain ⟨-, -, c2, -, -⟩ := pblk_cells (hp5.blk _ List.mem_cons_self)
    have HP5 := Lib.hid hp5
    unfold ptr at c2
    clear hpp hp5
    go_wp2_with fail
    go_loopw [7, 8, 9, 10, 11] (fun i a8 a9 a10 a11 wx => LoR d w r p l.length i wx) (fun i _ _ _ _ _ => l.length - (intOf i).toNat)
    case atStart => exact ⟨0, _, _, l0, m0, Nat.zero_le _, rfl, HW0.out, HP5.out⟩
    case round =>
      obtain ⟨k, s, g, lx, mx, hk, rfl, hfi, hp⟩ := hrel
      have hbel := hp.bel
      have HWF := Lib.hid hfi
      have HP := Lib.hid hp
      clear hfi hp
      by_cases hlt : k < l.length
      · obtain ⟨b, o, rfl, hbs, x0, x1, x2, x3⟩ := (HA.out.below (by rw [HD.out]; exact hbel)).four k hlt
        have HOK := Lib.hid HP.out.ok
        have HDO := Lib.hid (fun (W : World) (hP : Pr d w W d r s s (Hl p d r lx mx g g [])) => wdo_any d w W d r p lx mx s g l[k] hP (HFIT.out _ (List.getElem_mem hlt)) (HWF.out.fit (by have := HLEN.out; omega)))
        have hcc : (l[k]).cells.toArray = #[.int .i64 l[k].kind, .int .i64 l[k].n, .int .i64 l[k].m, .string (bstr l[k].data)] := rfl
        rw [hcc] at HDO
        have hwf2 := HWF.out.run (HFIT.out _ (List.getElem_mem hlt)) HOK.out
        generalize l[k].run s g = X at *
        have HW2 := Lib.hid hwf2
        clear hcc hbel hbs hwf2
        unfold ptr at HDO
        generalize bstr l[k].data = X3 at *
        generalize l[k].kind = X0 at *
        generalize l[k].n = X1 at *
        generalize l[k].m = X2 at *
        obtain ⟨nz, hnz⟩ : ∃ y, y = X.2.n := ⟨_, rfl⟩
        obtain ⟨sz, hsz⟩ : ∃ y, y = X.2.size := ⟨_, rfl⟩
        obtain ⟨uz, huz⟩ : ∃ y, y = X.1.ops.length := ⟨_, rfl⟩
        have HNZ := Bx.mk hnz
        have HSZ := Bx.mk hsz
        have HUZ := Bx.mk huz
        clear hnz hsz huz
        go_wp2_with fail
        simp only [List.append_eq, List.cons_append, List.nil_append]
        refine wp_region_mid 67 5 (LoF p d r b o k nz sz uz (.slice (some ⟨b, o, none⟩) l.length c) (.agg #[.int .i64 X0, .int .i64 X1, .int .i64 X2, .string X3]) X.1.nms) (fun w' => ∃ lx mx, Pr d w w' d r X.1 X.1 (Hl p d r lx mx X.2 X.2 [])) (by kernel_rfl) (by kernel_rfl) (by rfl) (by kernel_rfl) (by kernel_rfl) (by omega) LoF.stable LoF.free (fun w1 w2 ⟨a1, a2, h⟩ hb => ⟨a1, a2, h.below hb⟩) ?_ ?_ ?_ ?_
        · intro i o hi ho x hN
          have hcs : i = 0 ∨ i = 1 ∨ i = 2 ∨ i = 3 ∨ i = 4 := by omega
          simp only [List.take_succ_cons, List.take_zero, putFrom, Act.put, List.setIfInBounds_toArray, List.set_cons_succ, List.set_cons_zero, Nat.zero_add, Nat.reduceAdd]
          rcases hcs with rfl | rfl | rfl | rfl | rfl
          all_goals
            simp only [List.getElem?_cons_succ, List.getElem?_cons_zero, Option.some.injEq] at ho
            subst ho
            simp [NeedsB, Region.binds, LoF, ptr] at hN
          all_goals clear hi
          all_goals
            go_wp2_with fail
            exact ⟨rfl, rfl, rfl, rfl⟩
        · intro o ho x hN
          simp only [List.take_succ_cons, List.take_zero, putFrom, Act.put, List.setIfInBounds_toArray, List.set_cons_succ, List.set_cons_zero, Nat.zero_add, Nat.reduceAdd]
          simp only [List.getElem?_cons_succ, List.getElem?_cons_zero, Option.some.injEq] at ho
          subst ho
          simp [NeedsB, Region.binds, LoF, ptr] at hN
          have hdo := fun n => HDO.out _ (HP.out.drawn n)
          clear x0 x1 x2 x3
          go_wp2_with fail
          go_at_call 10
          refine (hdo _).mono ?_
          rintro e w6 ⟨rfl, hdp⟩
          have HDP := Lib.hid hdp
          clear hdp hdo
          go_wp2_with fail
          exact ⟨rfl, rfl, rfl, HDP.out⟩
        · intro i o hmi hi ho x w6 haf hN
          obtain ⟨l6, m6, hp6⟩ := haf
          have hcs : i = 6 ∨ i = 7 ∨ i = 8 ∨ i = 9 ∨ i = 10 ∨ i = 11 ∨ i = 12 ∨ i = 13 ∨ i = 14 ∨ i = 15 ∨ i = 16 ∨ i = 17 ∨ i = 18 ∨ i = 19 ∨ i = 20 ∨ i = 21 ∨ i = 22 ∨ i = 23 ∨ i = 24 ∨ i = 25 ∨ i = 26 ∨ i = 27 ∨ i = 28 ∨ i = 29 ∨ i = 30 ∨ i = 31 ∨ i = 32 ∨ i = 33 ∨ i = 34 ∨ i = 35 ∨ i = 36 ∨ i = 37 ∨ i = 38 ∨ i = 39 ∨ i = 40 ∨ i = 41 ∨ i = 42 ∨ i = 43 ∨ i = 44 ∨ i = 45 ∨ i = 46 ∨ i = 47 ∨ i = 48 ∨ i = 49 ∨ i = 50 ∨ i = 51 ∨ i = 52 ∨ i = 53 ∨ i = 54 ∨ i = 55 ∨ i = 56 ∨ i = 57 ∨ i = 58 ∨ i = 59 ∨ i = 60 ∨ i = 61 ∨ i = 62 ∨ i = 63 ∨ i = 64 ∨ i = 65 ∨ i = 66 := by omega
          obtain ⟨y0, y1, y2, y3, -⟩ := pblk_cells (hp6.blk _ List.mem_cons_self)
          obtain ⟨-, -, y4, y5, -, -⟩ := rlblk_cells (hp6.blk _ Hl.mem_m)
          have HLB := Lib.hid (hp6.blk _ Hl.mem_l)
          obtain ⟨F6, R6, G6, Q6, q1, q2, -⟩ := hp6
          obtain ⟨oad, oc, y6⟩ := rops_cell q2
          have HQ1 := Lib.hid q1
          have HQ2 := Lib.hid q2
          rw [← HNZ.out] at y4
          rw [← HSZ.out] at y5
          rw [← HUZ.out] at y6
          unfold ptr at y0 y1 y2 y3
          simp only [List.take_succ_cons, List.take_zero, putFrom, Act.put, List.setIfInBounds_toArray, List.set_cons_succ, List.set_cons_zero, Nat.zero_add, Nat.reduceAdd]
          clear q1 q2 x0 x1 x2 x3
          rcases hcs with rfl | rfl | rfl | rfl | rfl | rfl | rfl | rfl | rfl | rfl | rfl | rfl | rfl | rfl | rfl | rfl | rfl | rfl | rfl | rfl | rfl | rfl | rfl | rfl | rfl | rfl | rfl | rfl | rfl | rfl | rfl | rfl | rfl | rfl | rfl | rfl | rfl | rfl | rfl | rfl | rfl | rfl | rfl | rfl | rfl | rfl | rfl | rfl | rfl | rfl | rfl | rfl | rfl | rfl | rfl | rfl | rfl | rfl | rfl | rfl | rfl
          all_goals
            simp only [List.getElem?_cons_succ, List.getElem?_cons_zero, Option.some.injEq] at ho
            subst ho
            simp [NeedsB, Region.binds, LoF, ptr, y2, y3] at hN
          all_goals clear hi hmi
          · go_wp2_with fail
            exact ⟨rfl, rfl, rfl, Below.refl _ _⟩
          · go_wp2_with fail
            exact ⟨rfl, rfl, rfl, Below.refl _ _⟩
          · go_wp2_with fail
            exact ⟨rfl, rfl, rfl, Below.refl _ _⟩
          · go_wp2_with fail
            exact ⟨rfl, rfl, rfl, Below.refl _ _⟩
          · go_wp2_with fail
            exact ⟨rfl, rfl, rfl, Below.refl _ _⟩
          · go_wp2_with fail
            exact ⟨rfl, rfl, y2.symm, Below.refl _ _⟩
          · have hcl := llen_any w6 l6 d X.2 HLB.out
            rw [← HNZ.out] at hcl
            clear y0 y1 y2 y3 y4 y5 y6
            go_wp2_with fail
            go_at_call 11
            refine hcl.mono ?_
            rintro e w7 ⟨rfl, rfl⟩
            clear hcl
            go_wp2_with fail
            exact ⟨rfl, rfl, rfl, Below.refl _ _⟩
          · go_wp2_with fail
            exact ⟨rfl, rfl, rfl, Below.refl _ _⟩
          · go_wp2_with fail
            exact ⟨rfl, rfl, rfl, Below.refl _ _⟩
          · go_wp2_with fail
            exact ⟨rfl, rfl, rfl, Below.refl _ _⟩
          · go_wp2_with fail
            exact ⟨rfl, rfl, y3.symm, Below.refl _ _⟩
          · go_wp2_with fail
            exact ⟨rfl, rfl, y3.symm, Below.refl _ _⟩
          · go_wp2_with fail
            exact ⟨rfl, rfl, ⟨m6, y3.symm, rfl⟩, Below.refl _ _⟩
          · go_wp2_with fail
            exact ⟨rfl, rfl, rfl, Below.refl _ _⟩
          · go_wp2_with fail
            exact ⟨rfl, rfl, rfl, Below.refl _ _⟩
          · go_wp2_with fail
            exact ⟨rfl, rfl, rfl, Below.refl _ _⟩
          · go_wp2_with fail
            exact ⟨rfl, rfl, rfl, Below.refl _ _⟩
          · go_wp2_with fail
            exact ⟨rfl, rfl, rfl, Below.refl _ _⟩
          · go_wp2_with fail
            exact ⟨rfl, rfl, rfl, Below.refl _ _⟩
          · go_wp2_with fail
            exact ⟨rfl, rfl, rfl, Below.refl _ _⟩
          · go_wp2_with fail
            exact ⟨rfl, rfl, y2.symm, Below.refl _ _⟩
          · have hcl := lsize_any w6 l6 d X.2 HLB.out
            rw [← HSZ.out] at hcl
            clear y0 y1 y2 y3 y4 y5 y6
            go_wp2_with fail
            go_at_call 12
            refine hcl.mono ?_
            rintro e w7 ⟨rfl, rfl⟩
            clear hcl
            go_wp2_with fail
            exact ⟨rfl, rfl, rfl, Below.refl _ _⟩
          · go_wp2_with fail
            exact ⟨rfl, rfl, rfl, Below.refl _ _⟩
          · go_wp2_with fail
            exact ⟨rfl, rfl, rfl, Below.refl _ _⟩
          · go_wp2_with fail
            exact ⟨rfl, rfl, rfl, Below.refl _ _⟩
          · go_wp2_with fail
            exact ⟨rfl, rfl, y3.symm, Below.refl _ _⟩
          · go_wp2_with fail
            exact ⟨rfl, rfl, y3.symm, Below.refl _ _⟩
          · go_wp2_with fail
            exact ⟨rfl, rfl, ⟨m6, y3.symm, rfl⟩, Below.refl _ _⟩
          · go_wp2_with fail
            exact ⟨rfl, rfl, rfl, Below.refl _ _⟩
          · go_wp2_with fail
            exact ⟨rfl, rfl, rfl, Below.refl _ _⟩
          · go_wp2_with fail
            exact ⟨rfl, rfl, rfl, Below.refl _ _⟩
          · go_wp2_with fail
            exact ⟨rfl, rfl, rfl, Below.refl _ _⟩
          · go_wp2_with fail
            exact ⟨rfl, rfl, rfl, Below.refl _ _⟩
          · go_wp2_with fail
            exact ⟨rfl, rfl, rfl, Below.refl _ _⟩
          · go_wp2_with fail
            exact ⟨rfl, rfl, rfl, Below.refl _ _⟩
          · go_wp2_with fail
            exact ⟨rfl, rfl, rfl, Below.refl _ _⟩
          · have hcl := names_any w6 d X.1 F6 R6 HQ1.out
            unfold ptr at hcl
            clear y0 y1 y2 y3 y4 y5 y6
            go_wp2_with fail
            go_at_call 14
            refine hcl.mono ?_
            rintro e w7 ⟨v7, rfl, hv, hb⟩
            have HV := Lib.hid hv.rd
            have HBB := Lib.hid hb
            clear hv hb
            clear hcl
            go_wp2_with fail
            exact ⟨rfl, rfl, HV.out, HBB.out⟩
          · go_wp2_with fail
            exact ⟨rfl, rfl, rfl, Below.refl _ _⟩
          · go_wp2_with fail
            exact ⟨rfl, rfl, rfl, Below.refl _ _⟩
          · go_wp2_with fail
            exact ⟨rfl, rfl, rfl, Below.refl _ _⟩
          · go_wp2_with fail
            exact ⟨rfl, rfl, rfl, Below.refl _ _⟩
          · have hcl := rnames_any w6 r X.1 G6 Q6 HQ2.out (by have := HW2.out.ops; have := HLEN.out; omega) (by have := HW2.out.wt; have := HLEN.out; omega)
            unfold ptr at hcl
            clear y0 y1 y2 y3 y4 y5 y6
            go_wp2_with fail
            go_at_call 15
            refine hcl.mono ?_
            rintro e w7 ⟨v7, rfl, hv, hb⟩
            have HV := Lib.hid hv.rd
            have HBB := Lib.hid hb
            clear hv hb
            clear hcl
            go_wp2_with fail
            exact ⟨rfl, rfl, HV.out, HBB.out⟩
          · obtain ⟨h42, h47, hg⟩ := hN
            have hcl := same_any w6 (x 42) (x 47) X.1.nms X.1.nms h42 h47 (nms_len X.1 HQ1.out.ok) (nms_len X.1 HQ1.out.ok)
            rw [decide_eq_true rfl] at hcl
            clear h42 h47
            clear y0 y1 y2 y3 y4 y5 y6
            go_wp2_with fail
            go_at_call 13
            refine hcl.mono ?_
            rintro e w7 ⟨rfl, hb⟩
            have HBB := Lib.hid hb
            clear hb
            clear hcl
            go_wp2_with fail
            exact ⟨rfl, rfl, rfl, HBB.out⟩
          · go_wp2_with fail
            exact ⟨rfl, rfl, rfl, Below.refl _ _⟩
          · go_wp2_with fail
            exact ⟨rfl, rfl, rfl, Below.refl _ _⟩
          · go_wp2_with fail
            exact ⟨rfl, rfl, rfl, Below.refl _ _⟩
          · go_wp2_with fail
            exact ⟨rfl, rfl, rfl, Below.refl _ _⟩
          · go_wp2_with fail
            exact ⟨rfl, rfl, rfl, Below.refl _ _⟩
          · go_wp2_with fail
            exact ⟨rfl, rfl, rfl, Below.refl _ _⟩
          · go_wp2_with fail
            exact ⟨rfl, rfl, rfl, Below.refl _ _⟩
          · have hcl := pend_any w6 d X.1 F6 R6 HQ1.out
            rw [← HUZ.out] at hcl
            clear y0 y1 y2 y3 y4 y5 y6
            go_wp2_with fail
            go_at_call 16
            refine hcl.mono ?_
            rintro e w7 ⟨rfl, rfl⟩
            clear hcl
            go_wp2_with fail
            exact ⟨rfl, rfl, rfl, Below.refl _ _⟩
          · go_wp2_with fail
            exact ⟨rfl, rfl, rfl, Below.refl _ _⟩
          · go_wp2_with fail
            exact ⟨rfl, rfl, rfl, Below.refl _ _⟩
          · go_wp2_with fail
            exact ⟨rfl, rfl, rfl, Below.refl _ _⟩
          · go_wp2_with fail
            exact ⟨rfl, rfl, rfl, Below.refl _ _⟩
          · go_wp2_with fail
            exact ⟨rfl, rfl, rfl, Below.refl _ _⟩
          · go_wp2_with fail
            exact ⟨rfl, rfl, rfl, Below.refl _ _⟩
          · go_wp2_with fail
            exact ⟨rfl, rfl, ⟨oad, oc, rfl⟩, Below.refl _ _⟩
          · obtain ⟨ad9, c9, h63⟩ := hN.1
            go_wp2_with fail
            exact ⟨rfl, rfl, rfl, Below.refl _ _⟩
          · go_wp2_with fail
            exact ⟨rfl, rfl, rfl, Below.refl _ _⟩
          · go_wp2_with fail
            exact ⟨rfl, rfl, rfl, Below.refl _ _⟩
        · intro x w6 haf hf
          obtain ⟨l6, m6, hp6⟩ := haf
          have f66 := hf 66 (by omega)
          simp only [LoF] at f66
          obtain ⟨y0, y1, -, -, -⟩ := pblk_cells (hp6.blk _ List.mem_cons_self)
          obtain ⟨F6, R6, G6, Q6, q1, q2, -⟩ := id hp6
          have hrd := read_any w6 d X.1 F6 R6 lg q1 (by decide)
          have hrr := rread_any w6 r X.1 G6 Q6 lg q2 (by decide) (by have := HW2.out.ops; have := HLEN.out; omega) (by have := HW2.out.wt; have := HLEN.out; omega)
          have HRD : Hid (Calls Tryz.prog 17 #[.pointer (some ⟨d, 0, none⟩), .string ⟨#[108, 111, 103]⟩] w6 fun e w' => e = .returned (.tuple #[.string (bstr (X.1.read lg).1), .int .i64 (X.1.read lg).2]) ∧ w6 = w') := Lib.hid hrd
          have HRR : Hid (Calls Tryz.prog 18 #[.pointer (some ⟨r, 0, none⟩), .string ⟨#[108, 111, 103]⟩] w6 fun e w' => e = .returned (.tuple #[.string (bstr (X.1.read lg).1), .int .i64 (X.1.read lg).2]) ∧ Below w6.heap.size w6 w') := Lib.hid hrr
          have HP6 := Lib.hid hp6
          unfold ptr at y0 y1
          simp only [List.take_succ_cons, List.take_zero, putFrom, Act.put, List.setIfInBounds_toArray, List.set_cons_succ, List.set_cons_zero, Nat.zero_add, Nat.reduceAdd, List.drop_succ_cons, List.drop_zero, f66]
          generalize bstr (X.1.read lg).1 = RB at *
          generalize (X.1.read lg).2 = RE at *
          have e1 : (RE != RE) = false := by simp
          clear hf f66 q1 q2 hrd hrr hp6 x0 x1 x2 x3
          go_wp2_with fail
          go_at_call 17
          refine HRD.out.mono ?_
          rintro e w7 ⟨rfl, rfl⟩
          go_wp2_with fail
          go_at_call 18
          refine HRR.out.mono ?_
          rintro e w7 ⟨rfl, hb7⟩
          have HP7 := Lib.hid (HP6.out.below hb7)
          clear hb7 y0 y1
          go_wp2_with fail
          go_roundw
          case rel => exact ⟨k + 1, X.1, X.2, l6, m6, by omega, by go_num, HW2.out, HP7.out⟩
          case measure => simp [intOf]; omega
      · obtain rfl : k = l.length := by omega
        clear hbel
        go_wp2_with fail
        go_at_call 5
        refine (HAW.out _).mono ?_
        rintro e w' ⟨rfl, hb⟩
        have HBB := Lib.hid (HP.out.below hb).bel
        clear hb
        go_wp2
        go_ret
        exact ⟨rfl, by rw [HD.out]; exact HBB.out⟩
end Go.Proofs.YtbfgkcgnhgfkmaaGreat.Wl
