/-
  What a disk of the reference is in the world; apply at any change, All.
-/
/-
  A change is noted in the reference's disk. (Written by wip/gen/gen_rops.py.)
-/
import Derived.Test.YtbfgkcgnhgfkmaaGreatDkRApply
import Derived.Test.YtbfgkcgnhgfkmaaGreatDkRepP
import Derived.Test.YtbfgkcgnhgfkmaaGreatDkMake
namespace Go.Proofs.YtbfgkcgnhgfkmaaGreat.Dk
open Go Go.Maps Go.RowKit Go.Proofs.YtbfgkcgnhgfkmaaGreat.Slc
set_option linter.unusedVariables false
set_option linter.unusedSimpArgs false

def encO : Ch → List Value
  | .app n d => [.int .i64 1, .string (bstr n), .string (bstr d)]
  | .ren a b => [.int .i64 2, .string (bstr a), .string (bstr b)]
  | .rem n => [.int .i64 3, .string (bstr n), .string (bstr [])]
theorem encO_ok : Enc 3 encO := ⟨fun c => by cases c <;> rfl, fun c u hu => by
  cases c <;> simp only [encO, List.mem_cons, List.not_mem_nil, or_false] at hu <;> rcases hu with rfl | rfl | rfl <;> rfl, by omega⟩
def opV (c : Ch) : Value := .agg (encO c).toArray
theorem apply_any (w : World) (sv : Value) (l : Fs) (c : Ch) (h : Rd w encF sv l) (hl : l.length ≤ 100000) (hb : ∀ n d, c = .app n d → total l + d.length ≤ 100000000) :
    Calls Tryz.prog 57 #[sv, opV c] w fun e w' => ∃ u, e = .returned u ∧ Own w' w.heap.size 75 2 encF u (ap l c) ∧ Below w.heap.size w w' := by
  cases c with
  | app n d =>
    cases hh : has l n with
    | false => exact apply_app0 w sv l n d hh h hl
    | true => exact apply_app1 w sv l n d hh (by have := hb n d rfl; have := get_len_le l n; omega) h hl
  | ren a b =>
    cases hh : has l a with
    | false => exact apply_ren0 w sv l a b hh h hl
    | true =>
      by_cases hab : a = b
      · exact apply_ren1 w sv l a b hh hab h hl
      · cases hhb : has (drop l a) b with
        | true => exact apply_ren2 w sv l a b hh hab hhb h hl
        | false => exact apply_ren3 w sv l a b hh hab hhb h hl
  | rem n =>
    cases hh : has l n with
    | false => exact apply_rem0 w sv l n hh h hl
    | true => exact apply_rem1 w sv l n hh h hl

/-- the reference's disk in block g, in state s; F: what its calls write; R: what they only read -/
structure RepR (w : World) (g : Nat) (s : St) (F R : Nat → Prop) : Prop where
  ok : s.Ok
  body : ∃ fv ov, DR w g s fv ov ∧ Rd w encF fv s.dur ∧ (∀ k, fv.ownBlock = some k → R k) ∧ Own w 0 92 3 encO ov s.ops ∧ ∀ k, ov.ownBlock = some k → F k
  Fg : F g
  Flt : ∀ k, F k → k < w.heap.size
  Rlt : ∀ k, R k → k < w.heap.size
  dis : ∀ k, F k → ¬ R k
theorem RepR.keep {w w' : World} {g : Nat} {s : St} {F R : Nat → Prop} (h : RepR w g s F R) (hs : w.heap.size ≤ w'.heap.size) (hb : ∀ k, F k ∨ R k → w'.heap[k]? = w.heap[k]?) : RepR w' g s F R := by
  obtain ⟨fv, ov, h1, h2, h3, h4, h5⟩ := h.body
  exact ⟨h.ok, ⟨fv, ov, (hb g (.inl h.Fg)).trans h1, h2.keep hs fun k q _ => hb k (.inr (h3 k q)), h3, h4.keep fun k q _ => hb k (.inl (h5 k q)), h5⟩, h.Fg, fun k q => Nat.lt_of_lt_of_le (h.Flt k q) hs, fun k q => Nat.lt_of_lt_of_le (h.Rlt k q) hs, h.dis⟩
theorem RepR.frame {w w' : World} {g : Nat} {s : St} {F R G : Nat → Prop} (h : RepR w g s F R) (hf : Fr G w w') (hG : ∀ k, F k ∨ R k → ¬ G k) : RepR w' g s F R :=
  h.keep hf.size fun k q => hf.block k (q.elim (h.Flt k) (h.Rlt k)) (hG k q)
theorem RepR.below {w w1 : World} {g : Nat} {s : St} {F R : Nat → Prop} (h : RepR w g s F R) (hb : Below w.heap.size w w1) : RepR w1 g s F R :=
  h.keep hb.size fun k q => hb.block k (q.elim (h.Flt k) (h.Rlt k))
def NextR (w w' : World) (g : Nat) (s' : St) (F R : Nat → Prop) : Prop :=
  ∃ F' R', RepR w' g s' F' R' ∧ (∀ k, F' k → F k ∨ w.heap.size ≤ k) ∧ (∀ k, R' k → R k ∨ w.heap.size ≤ k) ∧ Fr F w w'
theorem NextR.same {w w' : World} {g : Nat} {s : St} {F R : Nat → Prop} (h : RepR w g s F R) (hb : Below w.heap.size w w') : NextR w w' g s F R :=
  ⟨F, R, h.below hb, fun k q => .inl q, fun k q => .inl q, Fr.below hb⟩

/-- how much data a disk can hold at most, with what waits -/
def wts : List Ch → Nat
  | [] => 0
  | c :: l => c.w + wts l
def St.wt (s : St) : Nat := total s.dur + wts s.ops
theorem wts_snoc (l : List Ch) (c : Ch) : wts (l ++ [c]) = wts l + c.w := by
  induction l with
  | nil => simp [wts]
  | cons x l ih => rw [List.cons_append, wts, ih, wts]; omega
theorem total_aps (l : Fs) (cs : List Ch) : total (aps l cs) ≤ total l + wts cs := by
  induction cs generalizing l with
  | nil => simp [aps, wts]
  | cons c cs ih =>
    have h1 := ih (ap l c)
    have h2 := total_ap l c
    rw [wts]
    show total (aps (ap l c) cs) ≤ _
    omega
theorem wts_take (cs : List Ch) : ∀ k, wts (cs.take k) ≤ wts cs := by
  induction cs with
  | nil => intro k; simp [wts]
  | cons c cs ih =>
    intro k
    cases k with
    | zero => simp [wts]
    | succ k => have := ih k; rw [List.take_succ_cons, wts, wts]; omega
/-- what the k-th change finds -/
theorem St.small (s : St) (k : Nat) (hk : k < s.ops.length) (n d : B) (he : s.ops[k] = .app n d) : total (aps s.dur (s.ops.take k)) + d.length ≤ s.wt := by
  have h1 := total_aps s.dur (s.ops.take k)
  have h2 := wts_take s.ops (k + 1)
  rw [List.take_succ_eq_append_getElem hk, wts_snoc, he] at h2
  simp only [Ch.w] at h2
  unfold St.wt; omega

set_option maxHeartbeats 1000000 in
set_option maxRecDepth 10000 in
theorem all_any (w : World) (g : Nat) (s : St) (F R : Nat → Prop) (h : RepR w g s F R) (ho : s.ops.length ≤ 10000) (hcap : s.wt ≤ 100000000) :
    Calls Tryz.prog 34 #[ptr g] w fun e w' => ∃ u, e = .returned u ∧ Rd w' encF u s.files ∧ (∀ k, u.ownBlock = some k → R k ∨ w.heap.size ≤ k) ∧ Below w.heap.size w w' := by
  obtain ⟨fv, ov, hdr, hfv, hfR, hov, hoF⟩ := h.body
  have hblk : w.heap[g]? = some (rblk s.cap fv ov s.left s.off) := hdr
  obtain ⟨ad, cp, hof, hcp⟩ := hov.rd.form
  subst hof
  obtain ⟨ad0, cp0, hff, -⟩ := hfv.form
  subst hff
  have HB := Lib.hid hblk
  have HFV := Lib.hid hfv
  have HFR := Lib.hid hfR
  have HSO := Lib.hid h.ok
  have HCAP := Lib.hid hcap
  have HCELL := Lib.hid (show ∀ (W : World), Below w.heap.size w W → ∀ k (hk : k < s.ops.length), ∃ b o, ad = some ⟨b, o, none⟩ ∧ ∀ j u, j < 3 → (encO s.ops[k])[j]? = some u → W.cell? ⟨b, o + (k * 3 + j), none⟩ = some u by
    intro W hW k hk
    obtain ⟨b, o, c, hv, _, hlt, hc⟩ := hov.rd.cells encO_ok (by omega)
    simp only [Value.slice.injEq] at hv
    exact ⟨b, o, hv.1, fun j u hj hu => hc W (fun z hz => hW.block z (by rw [hv.1] at hz; cases hz; exact hlt)) k hk j u hj hu⟩)
  obtain ⟨-, c1, c2, -, -, -⟩ := rblk_cells hblk
  clear h hdr hfv hfR hov hoF hblk hcap
  unfold ptr
  go_enter Tryz.func34, Tryz.ntmps34
  go_wp2
  go_loopw [3, 4] (fun v i wr => ∃ k : Nat, k ≤ s.ops.length ∧ i = .int .i64 (k : Int) ∧ Rd wr encF v (aps s.dur (s.ops.take k)) ∧ (∀ z, v.ownBlock = some z → R z ∨ w.heap.size ≤ z) ∧ Below w.heap.size w wr) (fun _ i _ => s.ops.length - (intOf i).toNat)
  case atStart => exact ⟨0, Nat.zero_le _, rfl, by rw [List.take_zero, aps_nil]; exact HFV.out, fun z q => .inl (HFR.out z q), Below.refl _ _⟩
  case round =>
    obtain ⟨k, hk, rfl, hrd, hbl, hbw⟩ := hrel
    have hbk := (hbw.block g (lt_of_block HB.out)).trans HB.out
    obtain ⟨-, -, d2, -, -, -⟩ := rblk_cells hbk
    obtain ⟨ad1, cp1, hvf, -⟩ := hrd.form
    subst hvf
    have HRD := Lib.hid hrd
    have HBL := Lib.hid hbl
    have HBW := Lib.hid hbw
    clear hbk
    by_cases hlt : k < s.ops.length
    · obtain ⟨b', o', rfl, hx⟩ := HCELL.out _ hbw k hlt
      have hap := apply_any wr _ _ s.ops[k] hrd (by have := HSO.out.cnt k hk; omega) (fun n d he => by have := s.small k hlt n d he; have := HCAP.out; omega)
      have HAP := Lib.hid hap
      have HEN := Lib.hid (show aps s.dur (s.ops.take (k + 1)) = ap (aps s.dur (s.ops.take k)) s.ops[k] by rw [List.take_succ_eq_append_getElem hlt, aps_snoc])
      obtain ⟨e0, e1, e2, hee⟩ : ∃ e0 e1 e2, encO s.ops[k] = [e0, e1, e2] := by cases s.ops[k] <;> exact ⟨_, _, _, rfl⟩
      have hx0 := hx 0 e0 (by omega) (by rw [hee]; rfl)
      have hx1 := hx 1 e1 (by omega) (by rw [hee]; rfl)
      have hx2 := hx 2 e2 (by omega) (by rw [hee]; rfl)
      rw [show o' + (k * 3 + 0) = o' + k * 3 by omega] at hx0
      rw [show o' + (k * 3 + 1) = o' + k * 3 + 1 by omega] at hx1
      rw [show o' + (k * 3 + 2) = o' + k * 3 + 2 by omega] at hx2
      have hof : opV s.ops[k] = .agg #[e0, e1, e2] := by unfold opV; rw [hee]
      rw [hof] at HAP
      clear hap hx hrd hbl hbw hee hof
      go_wp2_with fail
      refine HAP.out.mono ?_
      rintro e w2 ⟨u, rfl, ho2, hb2⟩
      have HR2 := Lib.hid (show Rd w2 encF u (aps s.dur (s.ops.take (k + 1))) by rw [HEN.out]; exact ho2.rd)
      have HL2 := Lib.hid (show ∀ z, u.ownBlock = some z → R z ∨ w.heap.size ≤ z from fun z hz => .inr (Nat.le_trans HBW.out.size (ho2.lt z hz).1))
      have HB2 := Lib.hid (HBW.out.trans (hb2.mono HBW.out.size))
      clear ho2 hb2
      go_wp2
      go_roundw
      case rel => exact ⟨k + 1, by omega, by go_num, HR2.out, HL2.out, HB2.out⟩
      case measure => simp [intOf]; omega
    · obtain rfl : k = s.ops.length := by omega
      have HFI := Lib.hid (show aps s.dur (s.ops.take s.ops.length) = s.files by rw [List.take_length]; rfl)
      clear hrd hbl hbw
      go_wp2
      go_ret
      exact ⟨_, rfl, by rw [← HFI.out]; exact HRD.out, HBL.out, HBW.out⟩

end Go.Proofs.YtbfgkcgnhgfkmaaGreat.Dk

namespace Go.Proofs.YtbfgkcgnhgfkmaaGreat.Dk
open Go Go.Maps Go.RowKit Go.Proofs.YtbfgkcgnhgfkmaaGreat.Slc
set_option linter.unusedVariables false
set_option linter.unusedSimpArgs false

theorem info_op : (Tryz.prog.info? 92).map (fun i => (i.zero, i.size, i.bytes)) = some (some (.agg #[.int .i64 0, .string ⟨#[]⟩, .string ⟨#[]⟩]), 3, 40) := by kernel_rfl
theorem und_ops : Tryz.prog.underlying 46 = some (.slice 92) := by kernel_rfl
theorem rown_ne {w : World} {g : Nat} {s : St} {fv ov : Value} (hdr : DR w g s fv ov) (h : Own w 0 92 3 encO ov s.ops) : ∀ k, ov.ownBlock = some k → k ≠ g := by
  intro k hk q
  unfold DR rblk at hdr
  rcases h.2 with ⟨rfl, _⟩ | ⟨gp, cap, cur, rfl, _, hgp, _⟩
  · cases hk
  · cases hk; subst q
    rw [hgp] at hdr
    simp at hdr
theorem src_op {w : World} {x : Nat} {c : Ch} (h : w.heap[x]? = some (.cells (encO c).toArray 92 (0, 0))) : SrcV w 3 (.slice (some ⟨x, 0, none⟩) 1 1) 1 ([c].flatMap encO) := by
  refine .ro _ _ _ _ (by rw [flat_len encO_ok]; rfl) ?_ (one_mem encO_ok [c])
  intro j u hj
  rw [add_at, Nat.zero_add]
  rw [List.flatMap_cons, List.flatMap_nil, List.append_nil] at hj
  simp [World.cell?, h, hj]
theorem total_take_succ (l : Fs) (k : Nat) (h : k < l.length) : total (l.take (k + 1)) = total (l.take k) + (l[k]).2.length := by
  rw [List.take_succ_eq_append_getElem h]
  have := total_snoc (l.take k) (l[k]).1 (l[k]).2
  exact this
theorem total_take_le (l : Fs) : ∀ k, total (l.take k) ≤ total l := by
  induction l with
  | nil => intro k; simp
  | cons p l ih =>
    intro k
    cases k with
    | zero => simp [total]
    | succ k => have := ih k; rw [List.take_succ_cons]; unfold total at *; simp only [List.map_cons, List.sum_cons]; omega
/-- behind a change that is noted -/
theorem next_radd {w w1 w2 w' : World} {g : Nat} {s : St} {F R : Nat → Prop} {fv ov ov' : Value} {c : Ch} (h : RepR w g s F R) (h1 : Below w.heap.size w w1) (hdr : DR w g s fv ov) (hfv : Rd w encF fv s.dur) (hfR : ∀ k, fv.ownBlock = some k → R k) (hoF : ∀ k, ov.ownBlock = some k → F k) (hov : Own w 0 92 3 encO ov s.ops)
    (ha : Own w2 0 92 3 encO ov' (s.ops ++ [c])) (g12 : w1.grownBy w2 ov.ownBlock) (hblk : ov'.ownBlock = ov.ownBlock ∨ ∃ y, ov'.ownBlock = some y ∧ w1.heap.size ≤ y) (g2 : w2.grownBy w' (some g)) (hdr' : DR w' g (s.add c) fv ov') (hok : (s.add c).Ok) : NextR w w' g (s.add c) F R := by
  have s1 := h1.size
  have s2 := g12.size
  have s3 := g2.size
  have hne := rown_ne hdr hov
  have hgl := h.Flt g h.Fg
  have e1 : (s.add c).dur = s.dur := (St.spend_ops _).2.1
  have e2 : (s.add c).ops = s.ops ++ [c] := (St.spend_ops _).1
  have hov'F : ∀ k, ov'.ownBlock = some k → F k ∨ w.heap.size ≤ k := by
    intro k hk
    rcases hblk with q | ⟨y, q, hy⟩
    · exact .inl (hoF k (by rw [← q]; exact hk))
    · rw [q] at hk; cases hk; right; omega
  have hov'g : ∀ k, ov'.ownBlock = some k → k ≠ g := by
    intro k hk
    rcases hblk with q | ⟨y, q, hy⟩
    · exact hne k (by rw [← q]; exact hk)
    · rw [q] at hk; cases hk; omega
  have hkeep : ∀ k, k < w.heap.size → k ≠ g → ov.ownBlock ≠ some k → w'.heap[k]? = w.heap[k]? := fun k hk hn ho =>
    (g2.block k (by omega) fun q => hn (Option.some.inj q)).trans ((g12.block k (by omega) fun q => ho q.symm).trans (h1.block k hk))
  refine ⟨fun k => F k ∨ ov'.ownBlock = some k, R, ⟨hok, ⟨fv, ov', hdr', ?_, hfR, ?_, fun k q => .inr q⟩, .inl h.Fg, ?_, ?_, ?_⟩, ?_, fun k q => .inl q, ?_⟩
  · rw [e1]
    exact hfv.keep (by omega) fun k q hl => hkeep k hl (fun e => h.dis g h.Fg (e ▸ hfR k q)) fun z => h.dis k (hoF k z) (hfR k q)
  · rw [e2]
    exact ha.keep fun k q hl => g2.block k hl fun z => hov'g k q (Option.some.inj z)
  · rintro k (q | q)
    · have := h.Flt k q; omega
    · have := (ha.lt k q).2; omega
  · intro k q; have := h.Rlt k q; omega
  · rintro k (q | q) z
    · exact h.dis k q z
    · rcases hov'F k q with y | y
      · exact h.dis k y z
      · have := h.Rlt k z; omega
  · rintro k (q | q)
    · exact .inl q
    · exact hov'F k q
  · exact ((Fr.below h1).trans (Fr.grown (F := F) g12 fun k hk _ => hoF k hk) fun k q => .inl q).trans (Fr.grown (F := F) g2 fun k hk _ => by cases hk; exact h.Fg) fun k q => .inl q


end Go.Proofs.YtbfgkcgnhgfkmaaGreat.Dk
