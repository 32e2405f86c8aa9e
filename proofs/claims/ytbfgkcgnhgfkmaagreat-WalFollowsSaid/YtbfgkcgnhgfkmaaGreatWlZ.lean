/-
  The law's pair: opening, crashing, fusing; pair.do; the bounds that its calls keep.
-/
import Derived.Test.YtbfgkcgnhgfkmaaGreatWlY
import Derived.Test.YtbfgkcgnhgfkmaaGreatDkCrash
import Derived.Test.YtbfgkcgnhgfkmaaGreatDkRCrash
namespace Go.Proofs.YtbfgkcgnhgfkmaaGreat.Wl
open Go Go.RowKit Go.Proofs.YtbfgkcgnhgfkmaaGreat.Slc Go.Proofs.YtbfgkcgnhgfkmaaGreat.Hs
open Go.Proofs.YtbfgkcgnhgfkmaaGreat.Dk (Fr ptr bstr bstr_size bstr_list RepP NextP RepR NextR St Apart i64ok small_any crash_any rcrash_any fuse_any rfuse_any)
set_option linter.unusedVariables false
set_option linter.unusedSimpArgs false

theorem Pr.box {B : Nat} {w w' : World} {d r p l m : Nat} {s t : St} {ga gb : Lg} (h : Pr B w w' d r s t (Hl p d r l m ga gb [])) (o : Obj) : Pr B w (w'.alloc o) d r s t (Hl p d r l m ga gb [(w'.heap.size, o)]) := by
  have hpm := h.made o
  exact hpm.sub (fun y hy => by
    simp only [Hl, List.mem_cons, List.not_mem_nil, or_false] at hy ⊢
    rcases hy with e | e | e | e
    · exact .inr (.inl e)
    · exact .inr (.inr (.inl e))
    · exact .inr (.inr (.inr e))
    · exact .inl e) (by
    obtain ⟨_, _, _, _, _, _, _, _, _, _, _, h8⟩ := hpm
    simp only [Hl, List.map_cons, List.map_nil, List.nodup_cons, List.mem_cons, List.not_mem_nil, or_false, not_or, not_false_eq_true, List.nodup_nil, and_true] at h8 ⊢
    exact ⟨⟨h8.2.1.1, h8.2.1.2, fun e => h8.1.1 e.symm⟩, ⟨h8.2.2, fun e => h8.1.2.1 e.symm⟩, fun e => h8.1.2.2 e.symm⟩)
theorem PoPost.to {B : Nat} {w w2 : World} {d r p l m : Nat} {s : St} {g : Lg} {H : List (Nat × Obj)} {x : St × Lg} (h : PoPost B w w2 d r p (ptr l) (ptr m) ((l, lblk g d) :: (m, rlblk g r) :: H) lg (openP s lg)) (hx : x = opn s g) : DoPost B w w2 d r p x := by
  subst hx
  unfold PoPost at h
  unfold opn
  split at h
  · rename_i he
    rw [he]
    exact DoPost.of rfl h
  · rename_i q he
    rw [he]
    obtain ⟨l', m', h⟩ := h
    exact ⟨l', m', h⟩

set_option maxRecDepth 10000 in
set_option maxHeartbeats 4000000 in
theorem wdo_4 (B : Nat) (w w' : World) (d r p l m : Nat) (s : St) (g : Lg) (c : WC) (h : Pr B w w' d r s s (Hl p d r l m g g [])) (hc : c.Ok) (hf : WFit s g) (hk : c.kind % 7 = 4) :
    Calls Tryz.prog 10 #[ptr p, .agg c.cells.toArray] w' fun e w2 => e = .returned (.bool true) ∧ DoPost B w w2 d r p (c.run s g) := by
  have hpm' := h.box (cbx c (bstr c.data))
  have HRUN := Bx.mk (show c.run s g = opn s g by unfold WC.run; rw [if_neg (by omega), if_neg (by omega), if_neg (by omega), if_pos hk])
  have HSM := Lib.hid (fun W => small_any c.kind 7 W hc.kind.1 hc.kind.2 (by omega) (by omega))
  rw [hk] at HSM
  obtain ⟨c0, c1, c2, c3⟩ := cbx_cells (hpm'.blk (w'.heap.size, cbx c (bstr c.data)) (by simp [Hl]))
  have HP := Lib.hid hpm'
  have HC := Lib.hid hc
  have HF := Lib.hid hf
  have hcc : c.cells.toArray = #[.int .i64 c.kind, .int .i64 c.n, .int .i64 c.m, .string (bstr c.data)] := rfl
  rw [hcc]
  unfold ptr
  clear h hpm' hc hf hk hcc
  generalize hD : bstr c.data = D at *
  clear hD
  go_enter Tryz.func10, Tryz.ntmps10
  go_wp2_with fail
  go_at_call 6
  refine (HSM.out _).mono ?_
  rintro e w2 ⟨rfl, hw⟩
  have hp2 : Pr B w w2 d r s s (Hl p d r l m g g [(w'.heap.size, cbx c D)]) := by rw [← hw]; exact Pr.below HP.out ⟨rfl, rfl, rfl, Nat.le_refl _, fun _ _ => rfl⟩
  clear hw c0 c1 c2 c3 HP HSM
  have hpo : Calls Tryz.prog 9 #[ptr p, .string ⟨#[108, 111, 103]⟩] w2 _ := popen_any lg hp2 (by decide) (by have := HF.out.ops; omega) (by have := HF.out.wt; omega)
  have HPO := Lib.hid hpo
  unfold ptr at HPO
  clear hpo hp2
  go_wp2_with fail
  go_at_call 9
  refine HPO.out.mono ?_
  rintro e w9 ⟨rfl, hpp⟩
  have HPP := Lib.hid hpp
  clear hpp
  go_wp2_with fail
  go_ret
  exact ⟨rfl, PoPost.to HPP.out HRUN.out⟩

set_option maxRecDepth 10000 in
set_option maxHeartbeats 4000000 in
theorem wdo_5 (B : Nat) (w w' : World) (d r p l m : Nat) (s : St) (g : Lg) (c : WC) (h : Pr B w w' d r s s (Hl p d r l m g g [])) (hc : c.Ok) (hf : WFit s g) (hk : c.kind % 7 = 5) :
    Calls Tryz.prog 10 #[ptr p, .agg c.cells.toArray] w' fun e w2 => e = .returned (.bool true) ∧ DoPost B w w2 d r p (c.run s g) := by
  have hpm' := h.box (cbx c (bstr c.data))
  have HRUN := Bx.mk (show c.run s g = opn (s.crash (c.n % 6) (c.m % 20)) g by unfold WC.run; rw [if_neg (by omega), if_neg (by omega), if_neg (by omega), if_neg (by omega), if_pos hk])
  have HSM := Lib.hid (fun W => small_any c.kind 7 W hc.kind.1 hc.kind.2 (by omega) (by omega))
  rw [hk] at HSM
  obtain ⟨c0, c1, c2, c3⟩ := cbx_cells (hpm'.blk (w'.heap.size, cbx c (bstr c.data)) (by simp [Hl]))
  have HP := Lib.hid hpm'
  have HC := Lib.hid hc
  have HF := Lib.hid hf
  have hcc : c.cells.toArray = #[.int .i64 c.kind, .int .i64 c.n, .int .i64 c.m, .string (bstr c.data)] := rfl
  rw [hcc]
  unfold ptr
  clear h hpm' hc hf hk hcc
  generalize hD : bstr c.data = D at *
  clear hD
  go_enter Tryz.func10, Tryz.ntmps10
  go_wp2_with fail
  go_at_call 6
  refine (HSM.out _).mono ?_
  rintro e w2 ⟨rfl, hw⟩
  have hp2 : Pr B w w2 d r s s (Hl p d r l m g g [(w'.heap.size, cbx c D)]) := by rw [← hw]; exact Pr.below HP.out ⟨rfl, rfl, rfl, Nat.le_refl _, fun _ _ => rfl⟩
  clear hw c0 c1 c2 c3 HP HSM
  have hcell := fun e : Ext w2 => cbx_cells ((hp2.below e.bel).blk (w'.heap.size, cbx c D) (by simp [Hl]))
  have m1 := fun e => (hcell e).2.1
  have m2 := fun e => (hcell e).2.2.1
  have HS6 := Lib.hid (fun W => small_any c.n 6 W HC.out.n.1 HC.out.n.2 (by omega) (by omega))
  have HS20 := Lib.hid (fun W => small_any c.m 20 W HC.out.m.1 HC.out.m.2 (by omega) (by omega))
  have HP2 := Lib.hid hp2
  clear hcell hp2
  go_wp2_with fail
  refine wp_region_self (by kernel_rfl) (by kernel_rfl) ?_
  repeat (go_big_quiet_step (fail))
  go_big_quiet_step ((go_at_call 6; exact ext_of_same (HS6.out _)))
  repeat (go_big_quiet_step (fail))
  go_big_quiet_step ((go_at_call 6; exact ext_of_same (HS20.out _)))
  repeat (go_big_quiet_step (fail))
  refine wpQuiet_nil ?_
  rintro _ ⟨e1, rfl⟩
  have hp3 := HP2.out.below e1.bel
  clear m1 m2 HP2
  generalize e1.out = w3 at *
  clear e1
  have hcw := Dk.crash_wt s (c.n % 6) (c.m % 20)
  have HW := Lib.hid hcw
  clear hcw
  have hcr := hp3.onP (s' := s.crash (c.n % 6) (c.m % 20)) (Post := fun e => e = .returned (.tuple #[])) fun F R hr => crash_any w3 d s F R (c.n % 6) (c.m % 20) hr (by have := HF.out.ops; omega) (by omega) (by omega) (by omega) (by omega)
  obtain ⟨p0, p1, -, -, -⟩ := pblk_cells (hp3.blk _ List.mem_cons_self)
  have HCR := Lib.hid hcr
  unfold ptr at HCR p0 p1
  clear hcr hp3
  go_wp2_with fail
  go_at_call 27
  refine HCR.out.mono ?_
  rintro e w4 ⟨rfl, hp4⟩
  clear p0 p1 HCR
  have hcr := hp4.onR (t' := s.crash (c.n % 6) (c.m % 20)) (Post := fun e => e = .returned (.tuple #[])) fun F R hr => rcrash_any w4 r s F R (c.n % 6) (c.m % 20) hr (by have := HF.out.ops; omega) (by have := HF.out.wt; omega) (by omega) (by omega) (by omega) (by omega)
  obtain ⟨p0, p1, -, -, -⟩ := pblk_cells (hp4.blk _ List.mem_cons_self)
  have HCR := Lib.hid hcr
  unfold ptr at HCR p0 p1
  clear hcr hp4
  go_wp2_with fail
  go_at_call 28
  refine HCR.out.mono ?_
  rintro e w5 ⟨rfl, hp5⟩
  clear p0 p1 HCR
  have hpo : Calls Tryz.prog 9 #[ptr p, .string ⟨#[108, 111, 103]⟩] w5 _ := popen_any lg hp5 (by decide) (by have := HF.out.ops; have := HW.out; omega) (by have := HF.out.wt; have := HW.out; omega)
  have HPO := Lib.hid hpo
  unfold ptr at HPO
  clear hpo hp5
  go_wp2_with fail
  go_at_call 9
  refine HPO.out.mono ?_
  rintro e w9 ⟨rfl, hpp⟩
  have HPP := Lib.hid hpp
  clear hpp
  go_wp2_with fail
  go_ret
  exact ⟨rfl, PoPost.to HPP.out HRUN.out⟩

set_option maxRecDepth 10000 in
set_option maxHeartbeats 4000000 in
theorem wdo_6 (B : Nat) (w w' : World) (d r p l m : Nat) (s : St) (g : Lg) (c : WC) (h : Pr B w w' d r s s (Hl p d r l m g g [])) (hc : c.Ok) (hf : WFit s g) (hk : c.kind % 7 = 6) :
    Calls Tryz.prog 10 #[ptr p, .agg c.cells.toArray] w' fun e w2 => e = .returned (.bool true) ∧ DoPost B w w2 d r p (c.run s g) := by
  have hpm' := h.box (cbx c (bstr c.data))
  have HRUN := Bx.mk (show c.run s g = (s.fuse (c.n % 12 - 1), g) by unfold WC.run; rw [if_neg (by omega), if_neg (by omega), if_neg (by omega), if_neg (by omega), if_neg (by omega)])
  have HSM := Lib.hid (fun W => small_any c.kind 7 W hc.kind.1 hc.kind.2 (by omega) (by omega))
  rw [hk] at HSM
  obtain ⟨c0, c1, c2, c3⟩ := cbx_cells (hpm'.blk (w'.heap.size, cbx c (bstr c.data)) (by simp [Hl]))
  have HP := Lib.hid hpm'
  have HC := Lib.hid hc
  have HF := Lib.hid hf
  have hcc : c.cells.toArray = #[.int .i64 c.kind, .int .i64 c.n, .int .i64 c.m, .string (bstr c.data)] := rfl
  rw [hcc]
  unfold ptr
  clear h hpm' hc hf hk hcc
  generalize hD : bstr c.data = D at *
  clear hD
  go_enter Tryz.func10, Tryz.ntmps10
  go_wp2_with fail
  go_at_call 6
  refine (HSM.out _).mono ?_
  rintro e w2 ⟨rfl, hw⟩
  have hp2 : Pr B w w2 d r s s (Hl p d r l m g g [(w'.heap.size, cbx c D)]) := by rw [← hw]; exact Pr.below HP.out ⟨rfl, rfl, rfl, Nat.le_refl _, fun _ _ => rfl⟩
  clear hw c0 c1 c2 c3 HP HSM
  obtain ⟨-, c1, -, -⟩ := cbx_cells (hp2.blk (w'.heap.size, cbx c D) (by simp [Hl]))
  have HS12 := Lib.hid (fun W => small_any c.n 12 W HC.out.n.1 HC.out.n.2 (by omega) (by omega))
  have q1 : IntKind.i64.wrap (c.n % 12 - 1) = c.n % 12 - 1 := IntWalk.i64_in _ (by omega)
  have hz0 : 0 ≤ c.n % 12 := by omega
  have hz1 : c.n % 12 < 12 := by omega
  generalize c.n % 12 = z at *
  have HP2 := Lib.hid hp2
  clear hp2
  go_wp2_with fail
  go_at_call 6
  refine (HS12.out _).mono ?_
  rintro e w3 ⟨rfl, hw⟩
  have hp3 : Pr B w w3 d r s s (Hl p d r l m g g [(w'.heap.size, cbx c D)]) := by rw [← hw]; exact HP2.out
  clear hw c1 HP2 HS12
  have hcr := hp3.onP (s' := s.fuse (z - 1)) (Post := fun e => e = .returned (.tuple #[])) fun F R hr => fuse_any w3 d s F R (z - 1) hr (by omega) (by omega)
  obtain ⟨p0, p1, -, -, -⟩ := pblk_cells (hp3.blk _ List.mem_cons_self)
  have HCR := Lib.hid hcr
  unfold ptr at HCR p0 p1
  clear hcr hp3
  go_wp2_with fail
  go_at_call 29
  refine HCR.out.mono ?_
  rintro e w4 ⟨rfl, hp4⟩
  clear p0 p1 HCR
  have hcr := hp4.onR (t' := s.fuse (z - 1)) (Post := fun e => e = .returned (.tuple #[])) fun F R hr => rfuse_any w4 r s F R (z - 1) hr (by omega) (by omega)
  obtain ⟨p0, p1, -, -, -⟩ := pblk_cells (hp4.blk _ List.mem_cons_self)
  have HCR := Lib.hid hcr
  unfold ptr at HCR p0 p1
  clear hcr hp4
  go_wp2_with fail
  go_at_call 30
  refine HCR.out.mono ?_
  rintro e w5 ⟨rfl, hp5⟩
  clear p0 p1 HCR
  have HP5 := Lib.hid hp5
  clear hp5
  go_wp2_with fail
  go_ret
  exact ⟨rfl, DoPost.of HRUN.out HP5.out⟩

theorem wdo_any (B : Nat) (w w' : World) (d r p l m : Nat) (s : St) (g : Lg) (c : WC) (h : Pr B w w' d r s s (Hl p d r l m g g [])) (hc : c.Ok) (hf : WFit s g) :
    Calls Tryz.prog 10 #[ptr p, .agg c.cells.toArray] w' fun e w2 => e = .returned (.bool true) ∧ DoPost B w w2 d r p (c.run s g) := by
  have hx : c.kind % 7 = 0 ∨ c.kind % 7 = 1 ∨ c.kind % 7 = 2 ∨ c.kind % 7 = 3 ∨ c.kind % 7 = 4 ∨ c.kind % 7 = 5 ∨ c.kind % 7 = 6 := by omega
  rcases hx with hk | hk | hk | hk | hk | hk | hk
  · exact wdo_0 B w w' d r p l m s g c h hc hf hk
  · exact wdo_1 B w w' d r p l m s g c h hc hf hk
  · exact wdo_2 B w w' d r p l m s g c h hc hf hk
  · exact wdo_3 B w w' d r p l m s g c h hc hf hk
  · exact wdo_4 B w w' d r p l m s g c h hc hf hk
  · exact wdo_5 B w w' d r p l m s g c h hc hf hk
  · exact wdo_6 B w w' d r p l m s g c h hc hf hk
end Go.Proofs.YtbfgkcgnhgfkmaaGreat.Wl
