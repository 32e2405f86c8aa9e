/-
  A disk that the call itself made, and a slice of copies of it.
-/
import Derived.Test.YtbfgkcgnhgfkmaaDkKeep
namespace Go.Proofs.Ytbfgkcgnhgfkmaa.Dk
open Go Go.Maps Go.RowKit Go.Proofs.Ytbfgkcgnhgfkmaa.Slc
set_option linter.unusedVariables false
set_option linter.unusedSimpArgs false

def encP (c : Nat) : List Value := [ptr c]
theorem encP_ok : Enc 1 encP := ⟨fun c => rfl, fun c u hu => by
  simp only [encP, List.mem_singleton] at hu
  subst hu; rfl, by omega⟩
theorem info_dk : (Try.prog.info? 23).map (fun i => (i.zero, i.size, i.bytes)) = some (some (.pointer none), 1, 8) := by kernel_rfl
theorem und_dks : Try.prog.underlying 50 = some (.slice 23) := by kernel_rfl
theorem src_ptr {w : World} {x c : Nat} (h : w.heap[x]? = some (.cells #[ptr c] 23 (0, 0))) : SrcV w 1 (.slice (some ⟨x, 0, none⟩) 1 1) 1 ([c].flatMap encP) := by
  refine .ro _ _ _ _ rfl ?_ (one_mem encP_ok [c])
  intro j u hj
  rw [add_at]
  unfold World.cell?
  rw [show (⟨x, 0 + j, none⟩ : Addr).block = x from rfl, h]
  match j, hj with
  | 0, hj => simpa [encP] using hj

def Many (B : Nat) (w w' : World) (d : Nat) (s : St) (v : Value) (cs : List Nat) (L : List (Nat × St)) : Prop :=
  ∃ F R, RepP w' d s F R ∧ (∀ k, F k ∨ R k → B ≤ k) ∧ Below B w w' ∧ B ≤ w'.heap.size ∧ Own w' B 23 1 encP v cs ∧ (∀ k, v.ownBlock = some k → ¬ (F k ∨ R k)) ∧
    ∀ p ∈ L, ∃ F2 R2, RepP w' p.1 p.2 F2 R2 ∧ (∀ k, F k → ¬ (F2 k ∨ R2 k)) ∧ (∀ k, F2 k ∨ R2 k → B ≤ k) ∧ (∀ k, v.ownBlock = some k → ¬ (F2 k ∨ R2 k))
theorem Many.start {B : Nat} {w w' : World} {d : Nat} {s : St} (h : NewP B w w' d s) : Many B w w' d s (.slice none 0 0) [] [] := by
  obtain ⟨F, R, h1, h2, h3, h4, h5⟩ := h
  exact ⟨F, R, h1, fun k q => q.elim (h2 k) (h3 k), h4, h5, Own.nil _ _, (fun k q => by cases q), (fun p hp => by cases hp)⟩
theorem Many.left {B : Nat} {w w' : World} {d : Nat} {s : St} {v : Value} {cs : List Nat} {L : List (Nat × St)} (h : Many B w w' d s v cs L) : NewP B w w' d s := by
  obtain ⟨F, R, h1, h2, h3, h4, h5, h6, h7⟩ := h
  exact ⟨F, R, h1, fun k q => h2 k (.inl q), fun k q => h2 k (.inr q), h3, h4⟩
theorem Many.own {B : Nat} {w w' : World} {d : Nat} {s : St} {v : Value} {cs : List Nat} {L : List (Nat × St)} (h : Many B w w' d s v cs L) : Own w' B 23 1 encP v cs := by
  obtain ⟨F, R, h1, h2, h3, h4, h5, h6, h7⟩ := h
  exact h5
theorem Many.ge {B : Nat} {w w' : World} {d : Nat} {s : St} {v : Value} {cs : List Nat} {L : List (Nat × St)} (h : Many B w w' d s v cs L) : B ≤ w'.heap.size := by
  obtain ⟨F, R, h1, h2, h3, h4, h5, h6, h7⟩ := h
  exact h4
theorem Many.want {B : Nat} {w w' : World} {d : Nat} {s : St} {v : Value} {cs : List Nat} {L : List (Nat × St)} (h : Many B w w' d s v cs L) (p : Nat × St) (hp : p ∈ L) : NewP B w w' p.1 p.2 := by
  obtain ⟨F, R, h1, h2, h3, h4, h5, h6, h7⟩ := h
  obtain ⟨F2, R2, k1, k2, k3, k4⟩ := h7 p hp
  exact ⟨F2, R2, k1, fun k q => k3 k (.inl q), fun k q => k3 k (.inr q), h3, h4⟩
theorem Many.below {B : Nat} {w w' w2 : World} {d : Nat} {s : St} {v : Value} {cs : List Nat} {L : List (Nat × St)} (h : Many B w w' d s v cs L) (hb : Below w'.heap.size w' w2) : Many B w w2 d s v cs L := by
  obtain ⟨F, R, h1, h2, h3, h4, h5, h6, h7⟩ := h
  refine ⟨F, R, h1.below hb, h2, h3.trans (hb.mono h4), Nat.le_trans h4 hb.size, h5.below hb, h6, fun p hp => ?_⟩
  obtain ⟨F2, R2, k1, k2, k3, k4⟩ := h7 p hp
  exact ⟨F2, R2, k1.below hb, k2, k3, k4⟩
/-- a copy more -/
theorem Many.copy {B : Nat} {w w' : World} {d : Nat} {s : St} {v : Value} {cs : List Nat} {L : List (Nat × St)} (h : Many B w w' d s v cs L) (ho : s.ops.length ≤ 10000) :
    Calls Try.prog 37 #[.pointer (some ⟨d, 0, none⟩)] w' fun e w2 => e = .returned (ptr w'.heap.size) ∧ Many B w w2 d s v cs (L ++ [(w'.heap.size, s)]) := by
  obtain ⟨F, R, h1, h2, h3, h4, h5, h6, h7⟩ := h
  refine (copy_any w' d s F R h1 ho).mono fun e w2 ⟨he, hn⟩ => ⟨he, ?_⟩
  obtain ⟨F', R', k1, k2, k3, k4⟩ := hn
  have hb : Below w'.heap.size w' w2 := k4.toBelow (Nat.le_refl _) fun k q => q.elim
  have hf' : ∀ k, F' k → w'.heap.size ≤ k := fun k q => (k2 k q).elim (fun z => z.elim) id
  refine ⟨F, R, h1.below hb, h2, h3.trans (hb.mono h4), Nat.le_trans h4 hb.size, h5.below hb, h6, fun p hp => ?_⟩
  rw [List.mem_append, List.mem_singleton] at hp
  rcases hp with hp | rfl
  · obtain ⟨F2, R2, y1, y2, y3, y4⟩ := h7 p hp
    exact ⟨F2, R2, y1.below hb, y2, y3, y4⟩
  · refine ⟨F', R', k1, fun k q z => ?_, fun k q => ?_, fun k q z => ?_⟩
    · have hk := h1.Flt k q
      rcases z with z | z
      · have := hf' k z; omega
      · rcases k3 k z with y | y
        · exact h1.dis k q y
        · omega
    · rcases q with q | q
      · have := hf' k q; omega
      · rcases k3 k q with y | y
        · exact h2 k (.inr y)
        · omega
    · have hk := (h5.lt k q).2
      rcases z with z | z
      · have := hf' k z; omega
      · rcases k3 k z with y | y
        · exact h6 k q (.inr y)
        · omega
/-- the slice appended to -/
theorem Many.put {B : Nat} {w w' w2 : World} {d c : Nat} {s : St} {v v' : Value} {cs : List Nat} {L : List (Nat × St)} (h : Many B w w' d s v cs L) (ha : Apd w' B 23 1 v cs.length 1 (cs.flatMap encP) ([c].flatMap encP) v' w2) : Many B w w2 d s v' (cs ++ [c]) L := by
  obtain ⟨F, R, h1, h2, h3, h4, h5, h6, h7⟩ := h
  have hf : Fr (fun k => v.ownBlock = some k) w' w2 := Fr.grown ha.grown fun k q _ => q
  have hnew : ∀ k, v'.ownBlock = some k → v.ownBlock = some k ∨ w'.heap.size ≤ k := by
    intro k q
    rcases ha.blk with z | z
    · left; rw [← z]; exact q
    · right; rw [z] at q; cases q; exact Nat.le_refl _
  refine ⟨F, R, h1.frame hf fun k q z => h6 k z q, h2, h3.trans (hf.toBelow h4 fun k q => (h5.lt k q).1), Nat.le_trans h4 hf.size, Own.apd (m := [c]) h5 rfl rfl rfl rfl ha, fun k q z => ?_, fun p hp => ?_⟩
  · rcases hnew k q with y | y
    · exact h6 k y z
    · have := z.elim (h1.Flt k) (h1.Rlt k); omega
  · obtain ⟨F2, R2, y1, y2, y3, y4⟩ := h7 p hp
    refine ⟨F2, R2, y1.frame hf fun k q z => y4 k z q, y2, y3, fun k q z => ?_⟩
    rcases hnew k q with y | y
    · exact y4 k y z
    · have := z.elim (y1.Flt k) (y1.Rlt k); omega
theorem Many.frame {B : Nat} {w w' w2 : World} {d : Nat} {s s' : St} {v : Value} {cs : List Nat} {L : List (Nat × St)} {F R F' R' G : Nat → Prop} (h1 : RepP w' d s F R) (h2 : ∀ k, F k ∨ R k → B ≤ k) (h3 : Below B w w') (h4 : B ≤ w'.heap.size) (h5 : Own w' B 23 1 encP v cs) (h6 : ∀ k, v.ownBlock = some k → ¬ (F k ∨ R k))
    (h7 : ∀ p ∈ L, ∃ F2 R2, RepP w' p.1 p.2 F2 R2 ∧ (∀ k, F k → ¬ (F2 k ∨ R2 k)) ∧ (∀ k, F2 k ∨ R2 k → B ≤ k) ∧ (∀ k, v.ownBlock = some k → ¬ (F2 k ∨ R2 k)))
    (k1 : RepP w2 d s' F' R') (k2 : ∀ k, F' k → F k ∨ w'.heap.size ≤ k) (k3 : ∀ k, R' k → R k ∨ w'.heap.size ≤ k) (hG : ∀ k, G k → F k ∨ w'.heap.size ≤ k) (k4 : Fr G w' w2) : Many B w w2 d s' v cs L := by
  refine ⟨F', R', k1, fun k q => ?_, h3.trans (k4.toBelow h4 fun k q => (hG k q).elim (fun z => h2 k (.inl z)) fun z => Nat.le_trans h4 z), Nat.le_trans h4 k4.size, h5.keep fun k hk hlt => k4.block k hlt fun z => ?_, fun k q z => ?_, fun p hp => ?_⟩
  · rcases q with q | q
    · exact (k2 k q).elim (fun z => h2 k (.inl z)) fun z => Nat.le_trans h4 z
    · exact (k3 k q).elim (fun z => h2 k (.inr z)) fun z => Nat.le_trans h4 z
  · rcases hG k z with y | y
    · exact h6 k hk (.inl y)
    · omega
  · have hlt := (h5.lt k q).2
    rcases z with z | z
    · rcases k2 k z with y | y
      · exact h6 k q (.inl y)
      · omega
    · rcases k3 k z with y | y
      · exact h6 k q (.inr y)
      · omega
  · obtain ⟨F2, R2, y1, y2, y3, y4⟩ := h7 p hp
    refine ⟨F2, R2, y1.frame k4 fun k q z => ?_, fun k q z => ?_, y3, y4⟩
    · have hlt := q.elim (y1.Flt k) (y1.Rlt k)
      rcases hG k z with y | y
      · exact y2 k y q
      · omega
    · have hlt := z.elim (y1.Flt k) (y1.Rlt k)
      rcases k2 k q with y | y
      · exact y2 k y z
      · omega
theorem Many.do {B : Nat} {w w' w1 : World} {d r : Nat} {s t : St} {v : Value} {cs : List Nat} {L : List (Nat × St)} (h : Many B w w' d s v cs L) (hb : Below w'.heap.size w' w1) (hr : RepR w1 r t (fun k => k = r) (fun _ => False)) (hge : w'.heap.size ≤ r) (c : Cl) (hc : c.Fit) (hs : s.Fit) (ht : t.Fit) :
    Calls Try.prog 28 #[ptr d, ptr r, .agg c.cells.toArray] w1 fun e w2 => (∃ b, e = .returned (.bool b)) ∧ Many B w w2 d (s.call c).1 v cs L := by
  obtain ⟨F, R, h1, h2, h3, h4, h5, h6, h7⟩ := h
  have hA : Apart F R (fun k => k = r) (fun _ => False) := fun k => ⟨fun q => ⟨fun z => by have := h1.Flt k q; omega, fun z => z⟩, fun q z => by have := h1.Rlt k z; omega⟩
  refine (do_any w1 d r s t F R _ _ c (h1.below hb) hr hA hc hs ht).mono fun e w2 ⟨he, hn⟩ => ⟨⟨_, he⟩, ?_⟩
  obtain ⟨F', R', G', Q', k1, k2, k3, k4, k5, k6, k7, k8⟩ := hn
  have hsz := hb.size
  have hfr : Fr (fun k => F k ∨ k = r) w' w2 := (Fr.below hb).trans k8 fun k q => .inl q
  exact Many.frame (G := fun k => F k ∨ k = r) h1 h2 h3 h4 h5 h6 h7 k1 (fun k q => (k3 k q).imp id fun z => by omega) (fun k q => (k4 k q).imp id fun z => by omega) (fun k q => q.imp id fun z => by omega) hfr
theorem Many.crash {B : Nat} {w w' : World} {d : Nat} {s : St} {v : Value} {cs : List Nat} {L : List (Nat × St)} (h : Many B w w' d s v cs L) (k b : Int) (ho : s.ops.length ≤ 10000) (hk : i64ok k) (hb : i64ok b) :
    Calls Try.prog 24 #[.pointer (some ⟨d, 0, none⟩), .int .i64 k, .int .i64 b] w' fun e w2 => e = .returned (.tuple #[]) ∧ Many B w w2 d (s.crash k b) v cs L := by
  obtain ⟨F, R, h1, h2, h3, h4, h5, h6, h7⟩ := h
  refine (crash_any w' d s F R k b h1 ho hk.1 hk.2 hb.1 hb.2).mono fun e w2 ⟨he, hn⟩ => ⟨he, ?_⟩
  obtain ⟨F', R', k1, k2, k3, k4⟩ := hn
  exact Many.frame h1 h2 h3 h4 h5 h6 h7 k1 k2 k3 (fun k q => .inl q) k4

/-- what the copies hold -/
structure Pre (s : St) (L : List (Nat × St)) : Prop where
  left : s.left = -1
  dur : s.dur = []
  len : L.length = s.ops.length + 1
  at' : ∀ i (hi : i < L.length), (L[i]).2.left = -1 ∧ (L[i]).2.dur = [] ∧ (L[i]).2.ops = s.ops.take i
  nm : s.Nm
  nms : ∀ p ∈ L, p.2.Nm
theorem Pre.start (cap : Int) (c : Nat) : Pre (St.new cap) [(c, St.new cap)] := by
  refine ⟨rfl, rfl, rfl, fun i hi => ?_, St.Nm.new _, fun p hp => ?_⟩
  · match i, hi with
    | 0, _ => exact ⟨rfl, rfl, rfl⟩
  · rw [List.mem_singleton] at hp; subst hp; exact St.Nm.new _
theorem Pre.more {s s' : St} {L : List (Nat × St)} (h : Pre s L) (c : Nat) (x : Ch) (h1 : s'.left = -1) (h2 : s'.dur = []) (h3 : s'.ops = s.ops ++ [x]) (h4 : s'.Nm) : Pre s' (L ++ [(c, s')]) := by
  have hl := h.len
  refine ⟨h1, h2, by rw [h3]; simp; omega, fun i hi => ?_, h4, fun p hp => ?_⟩
  · simp only [List.length_append, List.length_singleton] at hi
    by_cases q : i < L.length
    · rw [List.getElem_append_left q, h3, List.take_append_of_le_length (by omega)]
      exact h.at' i q
    · obtain rfl : i = L.length := by omega
      rw [List.getElem_append_right (Nat.le_refl _)]
      simp only [Nat.sub_self, List.getElem_cons_zero]
      refine ⟨h1, h2, ?_⟩
      rw [List.take_of_length_le]
      rw [h3]; simp; omega
  · rw [List.mem_append, List.mem_singleton] at hp
    rcases hp with hp | rfl
    · exact h.nms p hp
    · exact h4
theorem add_ops {s : St} (h : s.left = -1) (c : Ch) : (s.add c).ops = s.ops ++ [c] := by
  have e : s.add c = { s with ops := s.ops ++ [c] } := by unfold St.add; exact spend_id h
  rw [e]
theorem call_ops {s : St} (h : s.left = -1) (c : Cl) (hk : c.kind % 6 < 3) : (s.call c).1 = s ∨ ∃ x, (s.call c).1.ops = s.ops ++ [x] := by
  have hk4 : c.kind % 6 = 0 ∨ c.kind % 6 = 1 ∨ c.kind % 6 = 2 := by omega
  unfold St.call
  rcases hk4 with q | q | q
  all_goals
    rw [q]
  · simp only [if_true]; unfold St.append; repeat' split
    all_goals first | exact .inl rfl | exact .inr ⟨_, add_ops h _⟩
  · simp only [if_true, show ¬ ((1 : Int) = 0) by decide, if_false]; unfold St.rename; repeat' split
    all_goals first | exact .inl rfl | exact .inr ⟨_, add_ops h _⟩
  · simp only [if_true, show ¬ ((2 : Int) = 0) by decide, show ¬ ((2 : Int) = 1) by decide, if_false]; unfold St.remove; repeat' split
    all_goals first | exact .inl rfl | exact .inr ⟨_, add_ops h _⟩
/-- the crash leaves what the copy has -/
theorem Pre.cont {s : St} {L : List (Nat × St)} (h : Pre s L) (j : Nat) (hj : j < L.length) : (s.crash j 0).cont = (L[j]).2.cont := by
  obtain ⟨a1, a2, a3⟩ := h.at' j hj
  have hl := h.len
  have hk : keepN s j = j := by unfold keepN; omega
  have ht : s.torn j 0 = aps s.dur (s.ops.take j) := by
    unfold St.torn
    split
    · rw [if_neg (by omega)]
    · rfl
  have e : s.crash j 0 = ⟨s.cap, aps s.dur (s.ops.take j), [], -1⟩ := by unfold St.crash; rw [hk, ht]
  rw [e]
  refine cont_eq ?_ (by rw [off_of a1]; rfl)
  show aps s.dur (s.ops.take j) = aps (L[j]).2.dur (L[j]).2.ops
  rw [a2, a3, h.dur]

end Go.Proofs.Ytbfgkcgnhgfkmaa.Dk
