/-
  The log's Len and Size; the disk's Pending; the bounds that the law's calls keep. (Written by wip/gen/gen_wle.py.)
-/
import Derived.Test.YtbfgkcgnhgfkmaaGreatWlC
import Derived.Test.YtbfgkcgnhgfkmaaGreatFactsH
namespace Go.Proofs.YtbfgkcgnhgfkmaaGreat.Wl
open Go Go.RowKit Go.Proofs.YtbfgkcgnhgfkmaaGreat.Slc Go.Proofs.YtbfgkcgnhgfkmaaGreat.Hs
open Go.Proofs.YtbfgkcgnhgfkmaaGreat.Dk (Fr ptr bstr bstr_size bstr_list RepP NextP RepR NextR St Apart pending_any)
set_option linter.unusedVariables false
set_option linter.unusedSimpArgs false

theorem llen_any (w : World) (l d : Nat) (g : Lg) (h : w.heap[l]? = some (lblk g d)) : Calls Tryz.prog 11 #[.pointer (some ⟨l, 0, none⟩)] w fun e w' => e = .returned (.int .i64 (g.n : Int)) ∧ w = w' := by
  obtain ⟨-, c1, -, -, -, -⟩ := lblk_cells h
  clear h
  go_enter Tryz.func11, Tryz.ntmps11
  go_wp2
  go_ret
  exact ⟨rfl, rfl⟩
theorem lsize_any (w : World) (l d : Nat) (g : Lg) (h : w.heap[l]? = some (lblk g d)) : Calls Tryz.prog 12 #[.pointer (some ⟨l, 0, none⟩)] w fun e w' => e = .returned (.int .i64 (g.size : Int)) ∧ w = w' := by
  obtain ⟨-, -, c2, -, -, -⟩ := lblk_cells h
  clear h
  go_enter Tryz.func12, Tryz.ntmps12
  go_wp2
  go_ret
  exact ⟨rfl, rfl⟩
theorem pend_any (w : World) (d : Nat) (s : St) (F R : Nat → Prop) (h : RepP w d s F R) : Calls Tryz.prog 16 #[.pointer (some ⟨d, 0, none⟩)] w fun e w2 => e = .returned (.int .i64 (s.ops.length : Int)) ∧ w = w2 := by
  obtain ⟨dv, fv, pv, cs, ⟨fuse, hblk, -⟩, -, -, hpv, hcs, -⟩ := h.body
  obtain ⟨pa, pc, hpf, -⟩ := hpv.rd.form
  subst hpf
  have := pending_any d w _ _ _ _ _ _ _ _ _ hblk
  rwa [Dk.Cvs.length hcs] at this
theorem rops_cell {w : World} {r : Nat} {s : St} {F R : Nat → Prop} (h : RepR w r s F R) : ∃ ad c, w.cell? ⟨r, 2, none⟩ = some (.slice ad s.ops.length c) := by
  obtain ⟨fv, ov, hdr, -, -, hov, -⟩ := h.body
  obtain ⟨oa, oc, hof, -⟩ := hov.rd.form
  subst hof
  exact ⟨oa, oc, (Dk.rblk_cells (show w.heap[r]? = some (Dk.rblk s.cap fv (.slice oa s.ops.length oc) s.left s.off) from hdr)).2.2.1⟩

theorem spend_cap (s : St) : s.spend.cap = s.cap := (Dk.St.spend_ops s).2.2
theorem append_cap (s : St) (n x : B) : (s.append n x).1.cap = s.cap := by
  unfold Dk.St.append
  split; · rfl
  split; · rfl
  split; · rfl
  · exact spend_cap _
theorem rename_cap (s : St) (n x : B) : (s.rename n x).1.cap = s.cap := by
  unfold Dk.St.rename
  split; · rfl
  split; · rfl
  split; · rfl
  · exact spend_cap _
theorem remove_cap (s : St) (n : B) : (s.remove n).1.cap = s.cap := by
  unfold Dk.St.remove
  split; · rfl
  split; · rfl
  split; · rfl
  · exact spend_cap _
theorem sync_cap (s : St) : s.sync.1.cap = s.cap := by
  unfold Dk.St.sync
  split; · rfl
  · exact spend_cap _
theorem fuse_cap (s : St) (n : Int) : (s.fuse n).cap = s.cap := by unfold Dk.St.fuse; split <;> rfl
theorem replace_cap (s : St) (n b : B) : (replace s n b).1.cap = s.cap := by
  unfold replace
  simp only
  split
  · exact append_cap _ _ _
  · split
    · rw [sync_cap, append_cap]
    · split
      · rw [rename_cap, sync_cap, append_cap]
      · rw [sync_cap, rename_cap, sync_cap, append_cap]
theorem openT_cap (s : St) (n b : B) (size : Nat) (recs : List B) : (openT s n b size recs).1.cap = s.cap := by
  unfold openT
  by_cases hlt : size < b.length
  · simp only [hlt, if_true]
    split <;> exact replace_cap _ _ _
  · simp only [hlt, if_false]
    split <;> exact sync_cap _
theorem openP_cap (s : St) (n : B) : (openP s n).1.cap = s.cap := by
  unfold openP
  split
  · rfl
  · split
    · rfl
    · unfold openS
      split
      · rfl
      · unfold openR
        split
        · split
          · rw [openT_cap, remove_cap]
          · exact remove_cap _ _
        · exact openT_cap _ _ _ _ _
theorem replace_wt (s : St) (n b : B) : (replace s n b).1.wt ≤ s.wt + b.length ∧ (replace s n b).1.ops.length ≤ s.ops.length + 4 := by
  have h1 := append_wt2 s (n ++ sfx) b
  have h2 := Dk.sync_wt (s.append (n ++ sfx) b).1
  have h3 := rename_wt (s.append (n ++ sfx) b).1.sync.1 (n ++ sfx) n
  have h4 := Dk.sync_wt ((s.append (n ++ sfx) b).1.sync.1.rename (n ++ sfx) n).1
  unfold replace
  simp only
  split
  · omega
  · split
    · omega
    · split
      · omega
      · omega
theorem openT_wt (s : St) (n b : B) (size : Nat) (recs : List B) : (openT s n b size recs).1.wt ≤ s.wt + b.length ∧ (openT s n b size recs).1.ops.length ≤ s.ops.length + 4 := by
  have h1 := replace_wt s n (b.take size)
  have h2 := Dk.sync_wt s
  have h3 : (b.take size).length ≤ b.length := by rw [List.length_take]; omega
  unfold openT
  by_cases hlt : size < b.length
  · simp only [hlt, if_true]
    split
    · simp only; omega
    · simp only; omega
  · simp only [hlt, if_false]
    split
    · simp only; omega
    · simp only; omega
theorem openP_wt (s : St) (n : B) : (openP s n).1.wt ≤ s.wt + (s.read n).1.length ∧ (openP s n).1.ops.length ≤ s.ops.length + 5 := by
  unfold openP
  split
  · simp only; omega
  · split
    · simp only; omega
    · unfold openS
      split
      · simp only; omega
      · rename_i recs size hs
        unfold openR
        have h1 := openT_wt s n (s.read n).1 size recs
        have h2 := remove_wt s (n ++ sfx)
        have h3 := openT_wt (s.remove (n ++ sfx)).1 n (s.read n).1 size recs
        split
        · split
          · omega
          · simp only; omega
        · omega
theorem read_le (s : St) (n : B) (h : s.Ok) : ((s.read n).1.length : Int) ≤ s.cap := by
  have h1 := h.tot'
  have h2 := Dk.get_len_le s.files n
  have h3 := h.cap0
  unfold Dk.St.read
  split
  · simpa using h3
  · split
    · simpa using h3
    · split
      · rename_i d hd
        rw [hd] at h2
        simp only [Option.getD_some] at h2 ⊢
        omega
      · simpa using h3
/-- the bounds behind i calls -/
structure WFi (i : Nat) (s : St) (g : Lg) : Prop where
  ops : s.ops.length ≤ 5 * i
  wt : s.wt ≤ 3000 * i
  n : g.n ≤ 3000 + i
  size : g.size ≤ 3000 + 300 * i
  name : g.name = lg
  cap : s.cap ≤ 3000
theorem WFi.fit {i : Nat} {s : St} {g : Lg} (h : WFi i s g) (hi : i ≤ 31) : WFit s g := by
  obtain ⟨h1, h2, h3, h4, h5, h6⟩ := h
  exact ⟨by omega, by omega, by omega, by omega, h5⟩
theorem WFi.opn {i : Nat} {s : St} {g : Lg} (h : WFi i s g) (ho : s.Ok) : WFi (i + 1) (opn s g).1 (opn s g).2 := by
  obtain ⟨h1, h2, h3, h4, h5, h6⟩ := h
  have q1 := openP_wt s lg
  have q2 := read_le s lg ho
  have q3 := openP_cap s lg
  unfold Wl.opn
  split
  · exact ⟨by simp only; omega, by simp only; omega, by simp only; omega, by simp only; omega, h5, by simp only; omega⟩
  · rename_i q hq
    have q4 := scanB_le _ _ (openP_some hq)
    exact ⟨by simp only; omega, by simp only; omega, by simp only; omega, by simp only; omega, rfl, by simp only; omega⟩
theorem WFi.run {i : Nat} {s : St} {g : Lg} {c : WC} (h : WFi i s g) (hc : c.Ok) (ho : s.Ok) : WFi (i + 1) (c.run s g).1 (c.run s g).2 := by
  have h' := h
  obtain ⟨h1, h2, h3, h4, h5, h6⟩ := h
  have hd := hc.data
  unfold WC.run
  split
  · have q1 := append_wt2 s g.name (frameB g.n c.data)
    have q2 := append_cap s g.name (frameB g.n c.data)
    have q3 := frameB_len g.n c.data
    unfold Lg.append
    split
    · exact ⟨by simp only; omega, by simp only; omega, by simp only; omega, by simp only; omega, h5, by simp only; omega⟩
    · split
      · exact ⟨by simp only; omega, by simp only; omega, by simp only; omega, by simp only; omega, h5, by simp only; omega⟩
      · split
        · exact ⟨by simp only; omega, by simp only; omega, by simp only; omega, by simp only; omega, h5, by simp only; omega⟩
        · exact ⟨by simp only; omega, by simp only; omega, by simp only; omega, by simp only; omega, h5, by simp only; omega⟩
  · split
    · have q1 := Dk.sync_wt s
      have q2 := sync_cap s
      unfold Lg.sync
      split
      · exact ⟨by simp only; omega, by simp only; omega, by simp only; omega, by simp only; omega, h5, by simp only; omega⟩
      · exact ⟨by simp only; omega, by simp only; omega, by simp only; omega, by simp only; omega, h5, by simp only; omega⟩
    · split
      · have q1 := replace_wt s g.name (frameB 0 c.data)
        have q2 := replace_cap s g.name (frameB 0 c.data)
        have q3 := frameB_len 0 c.data
        unfold Lg.reset
        split
        · exact ⟨by simp only; omega, by simp only; omega, by simp only; omega, by simp only; omega, h5, by simp only; omega⟩
        · split
          · exact ⟨by simp only; omega, by simp only; omega, by simp only; omega, by simp only; omega, h5, by simp only; omega⟩
          · split
            · exact ⟨by simp only; omega, by simp only; omega, by simp only; omega, by simp only; omega, h5, by simp only; omega⟩
            · exact ⟨by simp only; omega, by simp only; omega, by simp only; omega, by simp only; omega, h5, by simp only; omega⟩
      · split
        · exact h'.opn ho
        · split
          · refine WFi.opn (s := s.crash (c.n % 6) (c.m % 20)) ⟨?_, ?_, h3, h4, h5, h6⟩ (ho.crash _ _)
            · show 0 ≤ _; omega
            · have := Dk.crash_wt s (c.n % 6) (c.m % 20); omega
          · have q1 := Dk.fuse_wt s (c.n % 12 - 1)
            have q2 := fuse_cap s (c.n % 12 - 1)
            exact ⟨by simp only; omega, by simp only; omega, by simp only; omega, by simp only; omega, h5, by simp only; omega⟩
end Go.Proofs.YtbfgkcgnhgfkmaaGreat.Wl
