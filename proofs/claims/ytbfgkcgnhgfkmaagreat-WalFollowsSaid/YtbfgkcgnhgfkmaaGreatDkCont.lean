/-
  The contents of all files, by name.
-/
import Derived.Test.YtbfgkcgnhgfkmaaGreatDkPair
namespace Go.Proofs.YtbfgkcgnhgfkmaaGreat.Dk
open Go Go.Maps Go.RowKit Go.Proofs.YtbfgkcgnhgfkmaaGreat.Slc
set_option linter.unusedVariables false
set_option linter.unusedSimpArgs false

/-- the name that a change may bring -/
def Ch.nm : Ch → B | .app n _ => n | .ren _ b => b | .rem n => n
theorem names_drop (l : Fs) (n x : B) (h : x ∈ names (drop l n)) : x ∈ names l := by
  unfold names drop at *
  rw [List.mem_map] at *
  obtain ⟨p, hp, rfl⟩ := h
  exact ⟨p, List.mem_of_mem_eraseIdx hp, rfl⟩
theorem names_ap (l : Fs) (c : Ch) (x : B) (h : x ∈ names (ap l c)) : x ∈ names l ∨ x = c.nm := by
  cases c with
  | app n d =>
    unfold ap at h; simp only at h
    split at h
    · unfold names at h ⊢
      rw [List.mem_map] at h
      obtain ⟨p, hp, rfl⟩ := h
      rcases List.mem_or_eq_of_mem_set hp with q | q
      · exact .inl (List.mem_map.2 ⟨p, q, rfl⟩)
      · right; rw [q]; rfl
    · unfold names at h ⊢
      rw [List.map_append, List.mem_append] at h
      rcases h with h | h
      · exact .inl h
      · right; simpa [Ch.nm] using h
  | ren a b =>
    unfold ap at h; simp only at h
    split at h
    · unfold names at h
      rw [List.map_append, List.mem_append] at h
      rcases h with h | h
      · split at h
        · exact .inl (names_drop _ _ _ (names_drop _ _ _ h))
        · exact .inl (names_drop _ _ _ h)
      · right; simpa [Ch.nm] using h
    · exact .inl h
  | rem n =>
    unfold ap at h; simp only at h
    split at h
    · exact .inl (names_drop _ _ _ h)
    · exact .inl h
theorem names_aps : ∀ (cs : List Ch) (l : Fs) (x : B), x ∈ names (aps l cs) → x ∈ names l ∨ ∃ c ∈ cs, x = c.nm
  | [], l, x, h => .inl h
  | c :: cs, l, x, h => by
    rcases names_aps cs (ap l c) x h with q | ⟨c', hc, q⟩
    · rcases names_ap l c x q with z | z
      · exact .inl z
      · exact .inr ⟨c, List.mem_cons_self, z⟩
    · exact .inr ⟨c', List.mem_cons_of_mem _ hc, q⟩
/-- the names are short -/
structure St.Nm (s : St) : Prop where
  dur : ∀ x ∈ names s.dur, x.length ≤ 100
  ops : ∀ c ∈ s.ops, c.nm.length ≤ 100
theorem St.Nm.take {s : St} (h : s.Nm) (k : Nat) : ∀ x ∈ names (aps s.dur (s.ops.take k)), x.length ≤ 100 := by
  intro x hx
  rcases names_aps _ _ _ hx with q | ⟨c, hc, rfl⟩
  · exact h.dur x q
  · exact h.ops c (List.mem_of_mem_take hc)
theorem St.Nm.files {s : St} (h : s.Nm) : ∀ x ∈ names s.files, x.length ≤ 100 := by
  have := h.take s.ops.length
  rwa [List.take_length] at this
theorem St.Nm.spend {s : St} (h : s.Nm) : s.spend.Nm := by
  obtain ⟨h1, h2, h3⟩ := St.spend_ops s
  exact ⟨by rw [h2]; exact h.dur, by rw [h1]; exact h.ops⟩
theorem St.Nm.add {s : St} (h : s.Nm) (c : Ch) (hc : c.nm.length ≤ 100) : (s.add c).Nm := by
  unfold St.add
  refine St.Nm.spend ⟨h.dur, fun x hx => ?_⟩
  rw [List.mem_append, List.mem_singleton] at hx
  rcases hx with hx | rfl
  · exact h.ops x hx
  · exact hc
theorem St.Nm.new (cap : Int) : (St.new cap).Nm := ⟨(fun x hx => by cases hx), (fun x hx => by cases hx)⟩
theorem St.Nm.append {s : St} (h : s.Nm) (n d : B) (hn : n.length ≤ 100) : (s.append n d).1.Nm := by
  unfold St.append; repeat' split
  all_goals first | exact h | exact h.add _ hn
theorem St.Nm.rename {s : St} (h : s.Nm) (a b : B) (hn : b.length ≤ 100) : (s.rename a b).1.Nm := by
  unfold St.rename; repeat' split
  all_goals first | exact h | exact h.add _ hn
theorem St.Nm.remove {s : St} (h : s.Nm) (n : B) (hn : n.length ≤ 100) : (s.remove n).1.Nm := by
  unfold St.remove; repeat' split
  all_goals first | exact h | exact h.add _ hn
theorem St.Nm.sync {s : St} (h : s.Nm) : s.sync.1.Nm := by
  unfold St.sync; split
  · exact h
  · exact St.Nm.spend ⟨h.files, fun x hx => by cases hx⟩
theorem St.Nm.fuse {s : St} (h : s.Nm) (n : Int) : (s.fuse n).Nm := by
  unfold St.fuse; split
  · exact h
  · exact ⟨h.dur, h.ops⟩
theorem St.Nm.crash {s : St} (h : s.Nm) (k b : Int) : (s.crash k b).Nm := by
  refine ⟨fun x hx => ?_, fun x hx => by cases hx⟩
  have hx' : x ∈ names (s.torn (keepN s k) b) := hx
  unfold St.torn at hx'
  split at hx'
  · rename_i n d hq
    split at hx'
    · rcases names_ap _ _ _ hx' with q | q
      · exact h.take _ x q
      · rw [q]
        exact h.ops (.app n d) (List.mem_of_getElem? hq)
    · exact h.take _ x hx'
  · exact h.take _ x hx'
theorem St.Nm.call {s : St} (h : s.Nm) (c : Cl) (hc : c.Fit) : (s.call c).1.Nm := by
  have h1 := c.nm_len c.frm hc.name
  have h2 := c.nm_len c.tgt hc.name
  unfold St.call; repeat' split
  · exact h.append _ _ h1
  · exact h.rename _ _ h2
  · exact h.remove _ h1
  · exact h.sync
  · exact h.fuse _
  · exact h.crash _ _
theorem St.Nm.run {s : St} (h : s.Nm) : ∀ (l : List Cl) (hl : ∀ c ∈ l, c.Fit), (s.run l).Nm := by
  intro l
  induction l generalizing s with
  | nil => exact fun _ => h
  | cons c l ih => exact fun hl => ih (h.call c (hl c List.mem_cons_self)) fun x hx => hl x (List.mem_cons_of_mem _ hx)
theorem mem_isort (x : B) (l : List B) (h : x ∈ Ins.isort l) : x ∈ l := by
  rw [Ins.isort_eq, List.mem_mergeSort] at h; exact h
theorem St.Nm.nms {s : St} (h : s.Nm) : ∀ x ∈ s.nms, x.length ≤ 1000 := by
  intro x hx
  unfold St.nms at hx; split at hx
  · cases hx
  · have := h.files x (mem_isort _ _ hx); omega

def St.good (s : St) (n : B) : Bool := (s.read n).2 == 0
def St.pair (s : St) (n : B) : List B := [n, (s.read n).1]
/-- the contents of all files, by name -/
def St.cont (s : St) : List B := if s.nms.all s.good then s.nms.flatMap s.pair else []
theorem cont_len (s : St) (h : s.Ok) : s.cont.length ≤ 100000 := by
  have hn : s.nms.length ≤ 16 := by
    unfold St.nms; split
    · simp
    · unfold sorted; rw [Ins.isort_length]; have := h.cnt'; simp [names]; omega
  unfold St.cont; split
  · have : ∀ l : List B, (l.flatMap s.pair).length = 2 * l.length := by
      intro l; induction l with
      | nil => rfl
      | cons a l ih => simp [St.pair, ih]; omega
    rw [this]; omega
  · simp
/-- they depend on the files alone -/
theorem cont_eq {s t : St} (hf : s.files = t.files) (ho : s.off = t.off) : s.cont = t.cont := by
  have h1 : s.nms = t.nms := by unfold St.nms; rw [hf, ho]
  have h2 : ∀ n, s.read n = t.read n := fun n => by unfold St.read; rw [hf, ho]
  have h3 : s.good = t.good := funext fun n => by unfold St.good; rw [h2]
  have h4 : s.pair = t.pair := funext fun n => by unfold St.pair; rw [h2]
  unfold St.cont; rw [h1, h3, h4]

theorem src_two {w : World} {x : Nat} {p q : B} (h : w.heap[x]? = some (.cells #[.string (bstr p), .string (bstr q)] 9 (0, 0))) : SrcV w 1 (.slice (some ⟨x, 0, none⟩) 2 2) 2 ([p, q].flatMap encS) := by
  refine .ro _ _ _ _ rfl ?_ (one_mem encS_ok [p, q])
  intro j u hj
  rw [add_at]
  unfold World.cell?
  rw [show (⟨x, 0 + j, none⟩ : Addr).block = x from rfl, h]
  match j, hj with
  | 0, hj => simpa [encS] using hj
  | 1, hj => simpa [encS] using hj

end Go.Proofs.YtbfgkcgnhgfkmaaGreat.Dk
