/-
  The disk's state in plain Lean, and its calls.
-/
/-
  The disk's maps, as lists of files.
-/
/-
  A range over a disk's map: the sum of the lengths of what it has met.
-/
import Derived.Maps.Own
import Derived.Maps.OwnSet
import Derived.Maps.OwnOps
import Derived.Maps.Views
import Derived.Maps.StringElems
import Derived.Maps.RangeWalk
import Derived.StringKeys
/-
  The disk in plain Lean: lists of files, changes, what they do. No program in sight.
-/
namespace Go.Proofs.YtbfgkcgnhgfkmaaGreat.Dk

abbrev B := List UInt8
abbrev Fs := List (B × B)
/-- what a file holds -/
def get : Fs → B → Option B
  | [], _ => none
  | p :: l, n => if p.1 = n then some p.2 else get l n
/-- where a file is; the length if there is none -/
def wh : Fs → B → Nat
  | [], _ => 0
  | p :: l, n => if p.1 = n then 0 else wh l n + 1
def has (l : Fs) (n : B) : Bool := (get l n).isSome
def total (l : Fs) : Nat := (l.map fun p => p.2.length).sum
def names (l : Fs) : List B := l.map (·.1)
inductive Ch
  | app (n d : B)
  | ren (a b : B)
  | rem (n : B)
def drop (l : Fs) (n : B) : Fs := l.eraseIdx (wh l n)
/-- the files behind a change -/
def ap (l : Fs) : Ch → Fs
  | .app n d => if has l n then l.set (wh l n) (n, (get l n).getD [] ++ d) else l ++ [(n, d)]
  | .ren a b => if has l a && !decide (a = b) then (if has (drop l a) b then drop (drop l a) b else drop l a) ++ [(b, (get l a).getD [])] else l
  | .rem n => if has l n then drop l n else l
def aps (l : Fs) (cs : List Ch) : Fs := cs.foldl ap l
theorem aps_snoc (l : Fs) (cs : List Ch) (c : Ch) : aps l (cs ++ [c]) = ap (aps l cs) c := by simp [aps]
theorem aps_nil (l : Fs) : aps l [] = l := rfl

theorem wh_le : ∀ (l : Fs) (n : B), wh l n ≤ l.length
  | [], _ => Nat.le_refl _
  | p :: l, n => by rw [wh]; split <;> simp; exact wh_le l n
theorem wh_lt : ∀ (l : Fs) (n : B), has l n = true ↔ wh l n < l.length
  | [], n => by simp [has, get, wh]
  | p :: l, n => by
    have := wh_lt l n
    unfold has at *
    rw [get, wh]; split
    · simp
    · simpa using this
theorem wh_at : ∀ (l : Fs) (n : B) (h : wh l n < l.length), (l[wh l n]).1 = n ∧ get l n = some (l[wh l n]).2
  | [], n, h => by simp at h
  | p :: l, n, h => by
    by_cases q : p.1 = n
    · have e : wh (p :: l) n = 0 := by rw [wh, if_pos q]
      simp only [e, List.getElem_cons_zero]
      exact ⟨q, by rw [get, if_pos q]⟩
    · have e : wh (p :: l) n = wh l n + 1 := by rw [wh, if_neg q]
      simp only [e, List.getElem_cons_succ]
      have := wh_at l n (by rw [e] at h; simpa using h)
      exact ⟨this.1, by rw [get, if_neg q]; exact this.2⟩
theorem wh_ne : ∀ (l : Fs) (n : B) (k : Nat) (h : k < l.length), k < wh l n → (l[k]).1 ≠ n
  | [], n, k, h, _ => by simp at h
  | p :: l, n, k, h, hk => by
    rw [wh] at hk
    split at hk
    · omega
    · cases k with
      | zero => assumption
      | succ k => simpa using wh_ne l n k (by simpa using h) (by omega)
theorem get_append : ∀ (l m : Fs) (n : B), get (l ++ m) n = (get l n).or (get m n)
  | [], m, n => by simp [get]
  | p :: l, m, n => by
    rw [List.cons_append, get, get]
    split
    · rfl
    · exact get_append l m n
theorem get_mem : ∀ (l : Fs) (n : B), has l n = true ↔ n ∈ names l
  | [], n => by simp [has, get, names]
  | p :: l, n => by
    have := get_mem l n
    unfold has names at *
    rw [get, List.map_cons, List.mem_cons]
    split
    · rename_i h; simp [h]
    · rename_i h; rw [this]; constructor
      · exact .inr
      · rintro (q | q)
        · exact absurd q.symm h
        · exact q
theorem drop_cons (p : B × B) (l : Fs) (n : B) : drop (p :: l) n = if p.1 = n then l else p :: drop l n := by
  unfold drop
  rw [wh]
  split <;> simp
theorem nodup_drop : ∀ (l : Fs) (n : B), (names l).Nodup → (names (drop l n)).Nodup ∧ (has l n = true → n ∉ names (drop l n))
  | [], n, h => by simp [drop, names]
  | p :: l, n, h => by
    have h' : p.1 ∉ names l ∧ (names l).Nodup := by simpa [names] using h
    obtain ⟨i1, i2⟩ := nodup_drop l n h'.2
    rw [drop_cons]
    split
    · rename_i q
      exact ⟨h'.2, fun _ => q ▸ h'.1⟩
    · rename_i q
      have hsub : ∀ x, x ∈ names (drop l n) → x ∈ names l := by
        intro x hx
        obtain ⟨y, hy, rfl⟩ := List.mem_map.1 hx
        exact List.mem_map.2 ⟨y, List.mem_of_mem_eraseIdx hy, rfl⟩
      refine ⟨?_, fun hh => ?_⟩
      · show (p.1 :: names (drop l n)).Nodup
        exact List.nodup_cons.2 ⟨fun q => h'.1 (hsub _ q), i1⟩
      · show n ∉ p.1 :: names (drop l n)
        have hl : has l n = true := by unfold has at hh ⊢; rwa [get, if_neg q] at hh
        intro hx
        rcases List.mem_cons.1 hx with e | e
        · exact q e.symm
        · exact i2 hl e
theorem get_drop_other : ∀ (l : Fs) (n m : B), m ≠ n → get (drop l n) m = get l m
  | [], n, m, h => by simp [drop, get]
  | p :: l, n, m, h => by
    rw [drop_cons]
    split
    · rename_i q; rw [get, if_neg (by rw [q]; exact fun e => h e.symm)]
    · rw [get, get, get_drop_other l n m h]
theorem get_drop_same (l : Fs) (n : B) (hn : (names l).Nodup) : get (drop l n) n = none := by
  by_cases hh : has l n = true
  · have := (nodup_drop l n hn).2 hh
    rw [← get_mem] at this
    simpa [has] using this
  · have hw : ¬ wh l n < l.length := fun q => hh ((wh_lt l n).2 q)
    have e : drop l n = l := by unfold drop; exact List.eraseIdx_of_length_le (by omega)
    rw [e]; simpa [has] using hh
theorem length_drop (l : Fs) (n : B) (h : has l n = true) : (drop l n).length + 1 = l.length := by
  have := (wh_lt l n).1 h
  unfold drop; rw [List.length_eraseIdx]; split <;> omega
theorem total_drop : ∀ (l : Fs) (n : B), total (drop l n) + ((get l n).getD []).length = total l
  | [], n => by simp [drop, total, get]
  | p :: l, n => by
    have := total_drop l n
    rw [drop_cons, get]
    unfold total at *
    split
    · simp; omega
    · simp only [List.map_cons, List.sum_cons]; omega
/-- one file's data replaced -/
def upd (l : Fs) (n d : B) : Fs := l.set (wh l n) (n, d)
theorem upd_cons (p : B × B) (l : Fs) (n d : B) : upd (p :: l) n d = if p.1 = n then (n, d) :: l else p :: upd l n d := by
  unfold upd
  rw [wh]
  split <;> simp
theorem names_upd : ∀ (l : Fs) (n d : B), names (upd l n d) = names l
  | [], n, d => by simp [upd, names]
  | p :: l, n, d => by
    have := names_upd l n d
    rw [upd_cons]
    unfold names at *
    split
    · rename_i q; simp [q]
    · simpa using this
theorem length_upd (l : Fs) (n d : B) : (upd l n d).length = l.length := by simp [upd]
theorem get_upd : ∀ (l : Fs) (n d m : B), has l n = true → get (upd l n d) m = if m = n then some d else get l m
  | [], n, d, m, h => by simp [has, get] at h
  | p :: l, n, d, m, h => by
    rw [upd_cons]
    by_cases q : p.1 = n
    · rw [if_pos q, get, get]
      by_cases e : n = m
      · subst e; simp
      · rw [if_neg e, if_neg (fun z => e z.symm), if_neg (by rw [q]; exact e)]
    · have hl : has l n = true := by unfold has at h ⊢; rwa [get, if_neg q] at h
      rw [if_neg q, get, get, get_upd l n d m hl]
      by_cases e : p.1 = m
      · rw [if_pos e, if_pos e, if_neg (by rw [← e]; exact q)]
      · rw [if_neg e, if_neg e]
theorem total_upd : ∀ (l : Fs) (n d : B), has l n = true → total (upd l n d) + ((get l n).getD []).length = total l + d.length
  | [], n, d, h => by simp [has, get] at h
  | p :: l, n, d, h => by
    rw [upd_cons, get]
    by_cases q : p.1 = n
    · simp [q, total]; omega
    · have hl : has l n = true := by unfold has at h ⊢; rwa [get, if_neg q] at h
      have := total_upd l n d hl
      simp only [if_neg q, total, List.map_cons, List.sum_cons] at *
      omega
theorem get_len_le : ∀ (l : Fs) (n : B), ((get l n).getD []).length ≤ total l
  | [], n => by simp [get]
  | p :: l, n => by
    have := get_len_le l n
    rw [get]; unfold total at *
    split <;> simp <;> omega

/-- what a change does, file by file -/
theorem get_app (l : Fs) (n d m : B) : get (ap l (.app n d)) m = if m = n then some ((get l n).getD [] ++ d) else get l m := by
  unfold ap
  by_cases h : has l n = true
  · simp only [if_pos h]; exact get_upd l n _ m h
  · simp only [if_neg h]
    have hn : get l n = none := by simpa [has] using h
    rw [get_append]
    by_cases e : m = n
    · subst e; simp [hn, get]
    · have e' : ¬ n = m := fun z => e z.symm
      rw [if_neg e]; simp [get, e']
theorem get_ren (l : Fs) (a b m : B) (hn : (names l).Nodup) (h : has l a = true) : get (ap l (.ren a b)) m = if m = b then get l a else if m = a then none else get l m := by
  obtain ⟨d, hd⟩ : ∃ d, get l a = some d := Option.isSome_iff_exists.1 h
  unfold ap
  by_cases hab : a = b
  · subst hab
    simp only [decide_true, Bool.not_true, Bool.and_false, Bool.false_eq_true, if_false]
    by_cases e : m = a
    · rw [if_pos e, e]
    · rw [if_neg e, if_neg e]
  · have c : (has l a && !decide (a = b)) = true := by simp [h, hab]
    simp only [if_pos c]
    have n1 := nodup_drop l a hn
    rw [get_append]
    have key : get (if has (drop l a) b = true then drop (drop l a) b else drop l a) m = if m = b then none else get (drop l a) m := by
      by_cases hb : has (drop l a) b = true
      · rw [if_pos hb]
        by_cases e : m = b
        · subst e; rw [if_pos rfl]; exact get_drop_same _ _ n1.1
        · rw [if_neg e]; exact get_drop_other _ _ _ e
      · rw [if_neg hb]
        by_cases e : m = b
        · subst e; rw [if_pos rfl]; simpa [has] using hb
        · rw [if_neg e]
    rw [key]
    by_cases e : m = b
    · subst e; simp [get, hd]
    · rw [if_neg e, if_neg e]
      by_cases e2 : m = a
      · have e' : ¬ b = m := fun z => e z.symm
        subst e2; rw [if_pos rfl, get_drop_same _ _ hn]; simp [get, e']
      · have e' : ¬ b = m := fun z => e z.symm
        rw [if_neg e2, get_drop_other _ _ _ e2]; simp [get, e']
theorem get_rem (l : Fs) (n m : B) (hn : (names l).Nodup) : get (ap l (.rem n)) m = if m = n then none else get l m := by
  unfold ap
  by_cases h : has l n = true
  · simp only [if_pos h]
    by_cases e : m = n
    · subst e; rw [if_pos rfl]; exact get_drop_same _ _ hn
    · rw [if_neg e]; exact get_drop_other _ _ _ e
  · simp only [if_neg h]
    by_cases e : m = n
    · subst e; rw [if_pos rfl]; simpa [has] using h
    · rw [if_neg e]
theorem nodup_snoc (l : Fs) (n d : B) (hn : (names l).Nodup) (h : has l n = false) : (names (l ++ [(n, d)])).Nodup := by
  have : n ∉ names l := fun q => by rw [← get_mem, h] at q; cases q
  unfold names at *
  rw [List.map_append, List.map_cons, List.map_nil]
  exact List.nodup_append.2 ⟨hn, by simp, by intro x hx y hy; simp at hy; subst hy; rintro rfl; exact this hx⟩
theorem nodup_ap (l : Fs) (c : Ch) (hn : (names l).Nodup) : (names (ap l c)).Nodup := by
  cases c with
  | app n d =>
    unfold ap
    by_cases h : has l n = true
    · simp only [if_pos h]; rw [show l.set (wh l n) (n, (get l n).getD [] ++ d) = upd l n ((get l n).getD [] ++ d) from rfl, names_upd]; exact hn
    · simp only [if_neg h]; exact nodup_snoc l n d hn (by simpa using h)
  | ren a b =>
    unfold ap
    simp only
    split
    · have n1 := (nodup_drop l a hn).1
      split
      · rename_i hb
        refine nodup_snoc _ _ _ (nodup_drop _ b n1).1 ?_
        unfold has; rw [get_drop_same _ _ n1]; rfl
      · rename_i hb
        exact nodup_snoc _ _ _ n1 (by simpa using hb)
    · exact hn
  | rem n =>
    unfold ap
    simp only
    split
    · exact (nodup_drop l n hn).1
    · exact hn
theorem nodup_aps (cs : List Ch) : ∀ l : Fs, (names l).Nodup → (names (aps l cs)).Nodup := by
  induction cs with
  | nil => exact fun l h => h
  | cons c cs ih => exact fun l h => ih _ (nodup_ap l c h)
/-- how much a change can add -/
def Ch.w : Ch → Nat
  | .app _ d => d.length
  | _ => 0
theorem total_snoc (l : Fs) (n d : B) : total (l ++ [(n, d)]) = total l + d.length := by simp [total]
theorem total_ap (l : Fs) (c : Ch) : total (ap l c) ≤ total l + c.w := by
  cases c with
  | app n d =>
    unfold ap Ch.w
    by_cases h : has l n = true
    · simp only [if_pos h]
      have := total_upd l n ((get l n).getD [] ++ d) h
      unfold upd at this
      rw [List.length_append] at this; omega
    · simp only [if_neg h]; rw [total_snoc]; exact Nat.le_refl _
  | ren a b =>
    unfold ap Ch.w
    simp only
    split
    · rw [total_snoc]
      have h1 := total_drop l a
      split
      · have h2 := total_drop (drop l a) b; omega
      · omega
    · omega
  | rem n =>
    unfold ap Ch.w
    simp only
    split
    · have := total_drop l n; omega
    · omega
theorem length_ap (l : Fs) (c : Ch) : (ap l c).length ≤ l.length + 1 := by
  cases c with
  | app n d => unfold ap; simp only; split <;> simp
  | ren a b =>
    unfold ap; simp only
    split
    · rename_i h
      simp only [Bool.and_eq_true] at h
      have h1 := length_drop l a h.1
      split
      · rename_i hb; have h2 := length_drop _ b hb; simp; omega
      · simp; omega
    · omega
  | rem n =>
    unfold ap; simp only
    split
    · rename_i h; have := length_drop l n h; omega
    · omega
/-- a list's length, by its keys: adding, removing -/
theorem length_app (l : Fs) (n d : B) : (ap l (.app n d)).length = if has l n then l.length else l.length + 1 := by
  unfold ap; simp only; split <;> simp [*]
theorem length_rem (l : Fs) (n : B) : (ap l (.rem n)).length + (if has l n then 1 else 0) = l.length := by
  unfold ap; simp only
  split
  · rename_i h; simp [length_drop l n h]
  · simp

end Go.Proofs.YtbfgkcgnhgfkmaaGreat.Dk

namespace Go.Proofs.YtbfgkcgnhgfkmaaGreat.Dk

structure St where
  cap : Int
  dur : Fs
  ops : List Ch
  left : Int
def St.off (s : St) : Bool := decide (s.left = 0)
def St.files (s : St) : Fs := aps s.dur s.ops
/-- which changes come behind which files -/
def okCh (l : Fs) : Ch → Prop
  | .ren a _ => has l a = true
  | .rem n => has l n = true
  | .app _ _ => True
structure St.Ok (s : St) : Prop where
  cap0 : 0 ≤ s.cap
  cap1 : s.cap ≤ 9223372036854775807
  left0 : -1 ≤ s.left
  left1 : s.left ≤ 9223372036854775807
  nodup : (names s.dur).Nodup
  tot : ∀ k, k ≤ s.ops.length → (total (aps s.dur (s.ops.take k)) : Int) ≤ s.cap
  cnt : ∀ k, k ≤ s.ops.length → (aps s.dur (s.ops.take k)).length ≤ 16
  ok : ∀ k (h : k < s.ops.length), okCh (aps s.dur (s.ops.take k)) s.ops[k]
theorem take_all (s : St) : s.ops.take s.ops.length = s.ops := List.take_length
theorem St.Ok.tot' {s : St} (h : s.Ok) : (total s.files : Int) ≤ s.cap := by have := h.tot _ (Nat.le_refl _); rwa [take_all] at this
theorem St.Ok.cnt' {s : St} (h : s.Ok) : s.files.length ≤ 16 := by have := h.cnt _ (Nat.le_refl _); rwa [take_all] at this
theorem St.Ok.nodup' {s : St} (h : s.Ok) : (names s.files).Nodup := nodup_aps _ _ h.nodup

def okName (n : B) : Bool := decide (1 ≤ n.length) && decide (n.length ≤ 32) && n.all fun c => (decide (97 ≤ c.toNat) && decide (c.toNat ≤ 122)) || (decide (48 ≤ c.toNat) && decide (c.toNat ≤ 57)) || c.toNat == 45 || c.toNat == 46
def St.new (cap : Int) : St := ⟨max cap 0, [], [], -1⟩
def St.spend (s : St) : St := if 0 < s.left then { s with left := s.left - 1 } else s
def St.add (s : St) (c : Ch) : St := { s with ops := s.ops ++ [c] }.spend
def St.fits (s : St) (n : B) (more : Nat) : Bool := !(!has s.files n && decide (16 ≤ s.files.length)) && decide ((more : Int) ≤ s.cap - total s.files)
/-- the calls: the state behind them, and the error -/
def St.append (s : St) (n d : B) : St × Int :=
  if s.off then (s, 25) else if !okName n then (s, 14) else if !s.fits n d.length then (s, 26) else (s.add (.app n d), 0)
def St.rename (s : St) (a b : B) : St × Int :=
  if s.off then (s, 25) else if !(okName a && okName b) then (s, 14) else if !has s.files a then (s, 23) else (s.add (.ren a b), 0)
def St.remove (s : St) (n : B) : St × Int :=
  if s.off then (s, 25) else if !okName n then (s, 14) else if !has s.files n then (s, 23) else (s.add (.rem n), 0)
def St.sync (s : St) : St × Int :=
  if s.off then (s, 25) else ({ s with dur := s.files, ops := [] }.spend, 0)
def St.read (s : St) (n : B) : B × Int :=
  if s.off then ([], 25) else if !okName n then ([], 14) else match get s.files n with | some d => (d, 0) | none => ([], 23)
def St.fuse (s : St) (n : Int) : St := if s.off then s else { s with left := max n (-1) }
def keepN (s : St) (keep : Int) : Nat := (min (max keep 0) s.ops.length).toNat
/-- the files that a crash leaves -/
def St.torn (s : St) (k : Nat) (bytes : Int) : Fs :=
  match s.ops[k]? with
  | some (.app n d) => if 0 < bytes then ap (aps s.dur (s.ops.take k)) (.app n (d.take (min bytes d.length).toNat)) else aps s.dur (s.ops.take k)
  | _ => aps s.dur (s.ops.take k)
def St.crash (s : St) (keep bytes : Int) : St := ⟨s.cap, s.torn (keepN s keep) bytes, [], -1⟩

theorem keepN_le (s : St) (keep : Int) : keepN s keep ≤ s.ops.length := by unfold keepN; omega
theorem St.spend_ops (s : St) : s.spend.ops = s.ops ∧ s.spend.dur = s.dur ∧ s.spend.cap = s.cap := by unfold St.spend; split <;> exact ⟨rfl, rfl, rfl⟩
theorem St.Ok.spend {s : St} (h : s.Ok) : s.spend.Ok := by
  unfold St.spend
  split
  · exact ⟨h.cap0, h.cap1, by have := h.left0; simp only; omega, by have := h.left1; simp only; omega, h.nodup, h.tot, h.cnt, h.ok⟩
  · exact h
theorem St.Ok.new (cap : Int) (h : cap ≤ 9223372036854775807) : (St.new cap).Ok := by
  have e : ∀ k, aps ([] : Fs) (([] : List Ch).take k) = [] := fun k => by simp [aps]
  refine ⟨by simp only [St.new]; omega, by simp only [St.new]; omega, by simp [St.new], by simp [St.new], by simp [St.new, names], fun k hk => ?_, fun k hk => ?_, fun k hk => by simp [St.new] at hk⟩
  · simp only [St.new, e]; simp [total]; omega
  · simp only [St.new, e]; simp
theorem take_snoc_le {α : Type} (l : List α) (x : α) (k : Nat) (h : k ≤ l.length) : (l ++ [x]).take k = l.take k := List.take_append_of_le_length h
/-- one change more -/
theorem St.Ok.add {s : St} (h : s.Ok) (c : Ch) (h1 : (total (ap s.files c) : Int) ≤ s.cap) (h2 : (ap s.files c).length ≤ 16) (h3 : okCh s.files c) : (s.add c).Ok := by
  unfold St.add
  refine St.Ok.spend ⟨h.cap0, h.cap1, h.left0, h.left1, h.nodup, fun k hk => ?_, fun k hk => ?_, fun k hk => ?_⟩
  all_goals simp only [List.length_append, List.length_singleton] at hk ⊢
  · by_cases e : k ≤ s.ops.length
    · rw [take_snoc_le _ _ _ e]; exact h.tot k e
    · rw [List.take_of_length_le (by simp; omega), aps_snoc]; exact h1
  · by_cases e : k ≤ s.ops.length
    · rw [take_snoc_le _ _ _ e]; exact h.cnt k e
    · rw [List.take_of_length_le (by simp; omega), aps_snoc]; exact h2
  · by_cases e : k < s.ops.length
    · rw [take_snoc_le _ _ _ (by omega), List.getElem_append_left e]; exact h.ok k e
    · obtain rfl : k = s.ops.length := by omega
      rw [take_snoc_le _ _ _ (Nat.le_refl _), List.take_length, List.getElem_append_right (Nat.le_refl _)]
      rw [List.getElem_singleton]; exact h3
theorem total_ap_ren (l : Fs) (a b : B) : total (ap l (.ren a b)) ≤ total l := by have := total_ap l (.ren a b); simpa [Ch.w] using this
theorem length_ap_ren (l : Fs) (a b : B) : (ap l (.ren a b)).length ≤ l.length := by
  unfold ap; simp only
  split
  · rename_i h
    simp only [Bool.and_eq_true] at h
    have h1 := length_drop l a h.1
    split
    · rename_i hb; have h2 := length_drop _ b hb; simp; omega
    · simp; omega
  · omega
theorem length_ap_rem (l : Fs) (n : B) : (ap l (.rem n)).length ≤ l.length := by have := length_rem l n; omega
theorem total_ap_rem (l : Fs) (n : B) : total (ap l (.rem n)) ≤ total l := by have := total_ap l (.rem n); simpa [Ch.w] using this
theorem St.Ok.append {s : St} (h : s.Ok) (n d : B) : (s.append n d).1.Ok := by
  unfold St.append
  split
  · exact h
  · split
    · exact h
    · split
      · exact h
      · rename_i hf
        have hf' : s.fits n d.length = true := by simpa using hf
        unfold St.fits at hf'
        rw [Bool.and_eq_true, decide_eq_true_eq, Bool.not_eq_true', Bool.and_eq_false_iff, decide_eq_false_iff_not, Bool.not_eq_false'] at hf'
        have h1 := total_ap s.files (.app n d)
        have h2 := length_app s.files n d
        have h3 := h.cnt'
        simp only [Ch.w] at h1
        refine h.add _ (by omega) ?_ trivial
        rw [h2]
        split
        · omega
        · rename_i hh
          rcases hf'.1 with q | q
          · exact absurd q hh
          · omega
theorem St.Ok.rename {s : St} (h : s.Ok) (a b : B) : (s.rename a b).1.Ok := by
  unfold St.rename
  split
  · exact h
  · split
    · exact h
    · split
      · exact h
      · rename_i hf
        have h1 := total_ap_ren s.files a b
        have h2 := length_ap_ren s.files a b
        have h3 := h.cnt'
        have h4 := h.tot'
        exact h.add _ (by omega) (by omega) (show has s.files _ = true by simpa using hf)
theorem St.Ok.remove {s : St} (h : s.Ok) (n : B) : (s.remove n).1.Ok := by
  unfold St.remove
  split
  · exact h
  · split
    · exact h
    · split
      · exact h
      · rename_i hf
        have h1 := total_ap_rem s.files n
        have h2 := length_ap_rem s.files n
        have h3 := h.cnt'
        have h4 := h.tot'
        exact h.add _ (by omega) (by omega) (show has s.files _ = true by simpa using hf)
theorem St.Ok.fresh {s : St} (h : s.Ok) (l : Fs) (left : Int) (hl0 : -1 ≤ left) (hl1 : left ≤ 9223372036854775807) (hn : (names l).Nodup) (ht : (total l : Int) ≤ s.cap) (hc : l.length ≤ 16) : St.Ok ⟨s.cap, l, [], left⟩ := by
  refine ⟨h.cap0, h.cap1, hl0, hl1, hn, fun k hk => ?_, fun k hk => ?_, fun k hk => by simp at hk⟩
  · simp only [List.take_nil, aps_nil]; exact ht
  · simp only [List.take_nil, aps_nil]; exact hc
theorem St.Ok.sync {s : St} (h : s.Ok) : s.sync.1.Ok := by
  unfold St.sync
  split
  · exact h
  · exact St.Ok.spend (h.fresh s.files s.left h.left0 h.left1 h.nodup' h.tot' h.cnt')
theorem St.Ok.fuse {s : St} (h : s.Ok) (n : Int) (hn : n ≤ 9223372036854775807) : (s.fuse n).Ok := by
  unfold St.fuse
  split
  · exact h
  · exact ⟨h.cap0, h.cap1, by simp only; omega, by simp only; omega, h.nodup, h.tot, h.cnt, h.ok⟩
theorem length_app_take (l : Fs) (n d e : B) : (ap l (.app n e)).length = (ap l (.app n d)).length := by rw [length_app, length_app]
theorem total_app (l : Fs) (n d : B) : total (ap l (.app n d)) = total l + d.length := by
  unfold ap
  by_cases h : has l n = true
  · simp only [if_pos h]
    have := total_upd l n ((get l n).getD [] ++ d) h
    unfold upd at this
    rw [List.length_append] at this; omega
  · simp only [if_neg h]; exact total_snoc _ _ _
theorem St.Ok.torn {s : St} (h : s.Ok) (k : Nat) (bytes : Int) (hk : k ≤ s.ops.length) : (names (s.torn k bytes)).Nodup ∧ (total (s.torn k bytes) : Int) ≤ s.cap ∧ (s.torn k bytes).length ≤ 16 := by
  have base : (names (aps s.dur (s.ops.take k))).Nodup ∧ (total (aps s.dur (s.ops.take k)) : Int) ≤ s.cap ∧ (aps s.dur (s.ops.take k)).length ≤ 16 := ⟨nodup_aps _ _ h.nodup, h.tot k hk, h.cnt k hk⟩
  unfold St.torn
  cases hc : s.ops[k]? with
  | none => exact base
  | some c =>
    obtain ⟨hlt, hck⟩ := List.getElem?_eq_some_iff.1 hc
    cases c with
    | ren a b => exact base
    | rem n => exact base
    | app n d =>
      simp only
      split
      · have h1 := h.tot (k + 1) (by omega)
        have h2 := h.cnt (k + 1) (by omega)
        rw [List.take_succ_eq_append_getElem hlt, aps_snoc, hck] at h1 h2
        rw [total_app] at h1
        refine ⟨nodup_ap _ _ base.1, ?_, by rw [length_app_take _ n d]; exact h2⟩
        rw [total_app, List.length_take]; omega
      · exact base
theorem St.Ok.crash {s : St} (h : s.Ok) (keep bytes : Int) : (s.crash keep bytes).Ok := by
  obtain ⟨h1, h2, h3⟩ := h.torn (keepN s keep) bytes (keepN_le s keep)
  exact h.fresh _ (-1) (by omega) (by omega) h1 h2 h3
/-- how many changes wait -/
theorem ops_append (s : St) (n d : B) : (s.append n d).1.ops.length ≤ s.ops.length + 1 := by
  unfold St.append St.add
  split; · simp
  split; · simp
  split; · simp
  rw [(St.spend_ops _).1]; simp
theorem ops_rename (s : St) (a b : B) : (s.rename a b).1.ops.length ≤ s.ops.length + 1 := by
  unfold St.rename St.add
  split; · simp
  split; · simp
  split; · simp
  rw [(St.spend_ops _).1]; simp
theorem ops_remove (s : St) (n : B) : (s.remove n).1.ops.length ≤ s.ops.length + 1 := by
  unfold St.remove St.add
  split; · simp
  split; · simp
  split; · simp
  rw [(St.spend_ops _).1]; simp

end Go.Proofs.YtbfgkcgnhgfkmaaGreat.Dk

namespace Go.Proofs.YtbfgkcgnhgfkmaaGreat.Dk
open Go Go.Maps Go.RowKit
set_option linter.unusedVariables false

abbrev DW := DataW Unit
/-- the datum holds these files -/
structure IsM (D : DW) (l : Fs) : Prop where
  tidy : Tidy D
  at_ : ∀ (n : B) z, D.atKey (.string n) z = match get l n with | some d => .lit (.string d) | none => z
  has_ : ∀ n : B, Maps.has D (.string n) = has l n
  size : Maps.size D = l.length
theorem IsM.empty : IsM (.map []) [] := ⟨tidy_empty, fun n z => rfl, fun n => rfl, rfl⟩
theorem key_ok (n : B) : WideAt.IsKeyLit (.string n) := trivial
theorem lit_ne {n m : B} (h : m ≠ n) : Lit.string m ≠ Lit.string n := fun e => h (by injection e)
theorem IsM.app {D : DW} {l : Fs} (h : IsM D l) (n d : B) : IsM (D.put (.string n) (.lit (.string ((get l n).getD [] ++ d)))) (ap l (.app n d)) := by
  refine ⟨h.tidy.put (key_ok n) _, fun m z => ?_, fun m => ?_, ?_⟩
  · rw [get_app]
    by_cases e : m = n
    · subst e; rw [if_pos rfl, atKey_put_same h.tidy.isMap (key_ok _)]
    · rw [if_neg e, atKey_put_other (lit_ne e)]; exact h.at_ m z
  · unfold has; rw [get_app]
    by_cases e : m = n
    · subst e; rw [if_pos rfl, has_put_same h.tidy.isMap (key_ok _)]; rfl
    · rw [if_neg e, has_put_other (lit_ne e)]; exact h.has_ m
  · rw [size_put h.tidy, h.has_, length_app, h.size]
theorem IsM.rem {D : DW} {l : Fs} (h : IsM D l) (n : B) (hn : (names l).Nodup) : IsM (D.del (.string n)) (ap l (.rem n)) := by
  refine ⟨h.tidy.del _, fun m z => ?_, fun m => ?_, ?_⟩
  · rw [get_rem l n m hn]
    by_cases e : m = n
    · subst e; rw [if_pos rfl, atKey_del_same]
    · rw [if_neg e, atKey_del_other (lit_ne e)]; exact h.at_ m z
  · unfold has; rw [get_rem l n m hn]
    by_cases e : m = n
    · subst e; rw [if_pos rfl, has_del_same]; rfl
    · rw [if_neg e, has_del_other (lit_ne e)]; exact h.has_ m
  · have h1 := size_del (k := .string n) h.tidy
    have h2 := length_rem l n
    rw [h.has_, h.size] at h1
    omega
theorem length_ren (l : Fs) (a b : B) (hn : (names l).Nodup) (h : has l a = true) : (ap l (.ren a b)).length = if has (ap l (.rem a)) b then (ap l (.rem a)).length else (ap l (.rem a)).length + 1 := by
  have h1 := length_drop l a h
  have er : ap l (.rem a) = drop l a := by unfold ap; simp only [if_pos h]
  rw [er]
  by_cases hab : a = b
  · subst hab
    have e2 : has (drop l a) a = false := by unfold has; rw [get_drop_same l a hn]; rfl
    unfold ap
    simp [e2, h1]
  · have c : (has l a && !decide (a = b)) = true := by simp [h, hab]
    unfold ap
    simp only [if_pos c]
    by_cases hb : has (drop l a) b = true
    · rw [if_pos hb, if_pos hb]
      have := length_drop _ b hb; simp; omega
    · rw [if_neg hb, if_neg hb]; simp
theorem IsM.ren {D : DW} {l : Fs} (h : IsM D l) (a b : B) (hn : (names l).Nodup) (ha : has l a = true) : IsM ((D.del (.string a)).put (.string b) (.lit (.string ((get l a).getD [])))) (ap l (.ren a b)) := by
  have h1 := h.rem a hn
  obtain ⟨d, hd⟩ : ∃ d, get l a = some d := Option.isSome_iff_exists.1 ha
  refine ⟨h1.tidy.put (key_ok b) _, fun m z => ?_, fun m => ?_, ?_⟩
  · rw [get_ren l a b m hn ha]
    by_cases e : m = b
    · subst e; rw [if_pos rfl, atKey_put_same h1.tidy.isMap (key_ok _), hd]; rfl
    · rw [if_neg e, atKey_put_other (lit_ne e), h1.at_ m z, get_rem l a m hn]
  · unfold has; rw [get_ren l a b m hn ha]
    by_cases e : m = b
    · subst e; rw [if_pos rfl, has_put_same h1.tidy.isMap (key_ok _), hd]; rfl
    · rw [if_neg e, has_put_other (lit_ne e), h1.has_ m]; unfold has; rw [get_rem l a m hn]
  · rw [size_put h1.tidy, h1.has_, h1.size, length_ren l a b hn ha]

/-- a block that is a map with these files -/
def OwnM (w : World) (P : Program) (k : TypeId) (b : Nat) (l : Fs) : Prop := ∃ D : DW, w.ownsMap P k (plainElem P k) b l.length D ∧ IsM D l
section
variable {P : Program} {k t : TypeId} {w : World} {b : Nat} {l : Fs}
theorem tight {n : Nat} {D : DW} (h : w.ownsMap P k (plainElem P k) b n D) (hs : Maps.size D = l.length) : w.ownsMap P k (plainElem P k) b l.length D := by
  obtain ⟨es, clock, hb, F, _, rfl⟩ := h
  exact ⟨es, clock, hb, F, by rw [← hs]; simp [Maps.size, length_sorted], rfl⟩
theorem OwnM.lt (h : OwnM w P k b l) : b < w.heap.size := by obtain ⟨D, h, _⟩ := h; exact h.lt
theorem OwnM.kept {w' : World} {row : Option Nat} (h : OwnM w P k b l) (hg : w.grownBy w' row) (hne : some b ≠ row) : OwnM w' P k b l := by
  obtain ⟨D, h, hm⟩ := h; exact ⟨D, h.kept hg hne, hm⟩
theorem OwnM.below {w' : World} (h : OwnM w P k b l) (hb : Below w.heap.size w w') : OwnM w' P k b l := by
  have hlt := h.lt
  obtain ⟨D, ⟨es, clock, hh, r⟩, hm⟩ := h
  exact ⟨D, ⟨es, clock, by rw [hb.block b hlt]; exact hh, r⟩, hm⟩
theorem OwnM.made (w : World) (P : Program) (k : TypeId) : OwnM (w.alloc (.map #[] 0)) P k w.heap.size [] := ⟨_, World.ownsMap_made w P k _, IsM.empty⟩
theorem keyOf_str (hk : P.underlying k = some .string) (s : ByteArray) (hs : s.size ≤ maxLen) : keyOf P k (.string s) = some (.string s.data.toList) := by
  exact WideMaps.keyOf_string_mk hk hs
theorem OwnM.look (h : OwnM w P k b l) (hk : P.underlying k = some .string) (ht : P.underlying t = some (.map k k)) (hz : (zeroValue k).run P w = .ok (.string ⟨#[]⟩) w) (s : ByteArray) (hs : s.size ≤ maxLen) :
    (Instr.lookup t (.map (some b)) (.string s) false).run P w = .ok (.string ⟨((get l s.data.toList).getD []).toArray⟩) w ∧
    (Instr.lookup t (.map (some b)) (.string s) true).run P w = .ok (.tuple #[.string ⟨((get l s.data.toList).getD []).toArray⟩, .bool (has l s.data.toList)]) w := by
  obtain ⟨D, h, hm⟩ := h
  have hz0 : plainElem (H := Unit) P k (.string ⟨#[]⟩) = some (.lit (.string []), []) := plainElem_string hk (by show 0 ≤ maxLen; omega)
  have hat : D.atKey (.string s.data.toList) (.lit (.string [])) = .lit (.string ((get l s.data.toList).getD [])) := by
    rw [hm.at_]; cases get l s.data.toList <;> rfl
  have fin : ∀ v ps, plainElem P k v = some (D.atKey (.string s.data.toList) (.lit (.string [])), ps) → v = .string ⟨((get l s.data.toList).getD []).toArray⟩ := by
    intro v ps hv
    obtain ⟨c, rfl, hc, _⟩ := plainElem_string_inv hk hv
    rw [hat] at hc
    simp only [Prod.mk.injEq, DataW.lit.injEq, Lit.string.injEq] at hc
    rw [hc.1]
  obtain ⟨v, ps, h1, h2⟩ := h.lookup (string_keyed hk) ht hz hz0 (keyOf_str hk s hs)
  obtain ⟨v', ps', h1', h2'⟩ := h.look_ok (string_keyed hk) ht hz hz0 (keyOf_str hk s hs)
  rw [hm.has_] at h1'
  exact ⟨by rw [h1, fin v ps h2], by rw [h1', fin v' ps' h2']⟩
theorem OwnM.len (h : OwnM w P k b l) (ht : P.underlying t = some (.map k k)) (ty : TypeId) : (Builtin.len_ #[t] ty #[.map (some b)]).run P w = .ok (.int .i64 l.length) w := by
  obtain ⟨D, h, hm⟩ := h
  rw [h.len ht ty, hm.size]
/-- the three changes -/
theorem OwnM.app (h : OwnM w P k b l) (hk : P.underlying k = some .string) (ht : P.underlying t = some (.map k k)) (n d : B) (hl : l.length < maxLen) (hn : n.length ≤ maxLen) (hd : ((get l n).getD [] ++ d).length ≤ maxLen) :
    ∃ w', (Instr.mapUpdate t (.map (some b)) (.string ⟨n.toArray⟩) (.string ⟨((get l n).getD [] ++ d).toArray⟩)).run P w = .ok () w' ∧ OwnM w' P k b (ap l (.app n d)) ∧ w.mapTurned w' b := by
  obtain ⟨D, h, hm⟩ := h
  have hm' := hm.app n d
  obtain ⟨w', h1, h2, h3⟩ := h.store (string_keyed hk) ht hl (keyOf_str hk ⟨n.toArray⟩ (by show n.toArray.size ≤ _; simpa using hn)) (plainElem_string (s := ⟨((get l n).getD [] ++ d).toArray⟩) hk (by show Array.size _ ≤ _; simpa using hd))
  exact ⟨w', h1, ⟨_, tight h2 hm'.size, hm'⟩, h3⟩
theorem OwnM.rem (h : OwnM w P k b l) (hk : P.underlying k = some .string) (ht : P.underlying t = some (.map k k)) (n : B) (hn : n.length ≤ maxLen) (hnd : (names l).Nodup) (ty : TypeId) :
    ∃ w', (Builtin.delete_ #[t, k] ty #[.map (some b), .string ⟨n.toArray⟩]).run P w = .ok (.tuple #[]) w' ∧ OwnM w' P k b (ap l (.rem n)) ∧ w.mapTurned w' b := by
  obtain ⟨D, h, hm⟩ := h
  have hm' := hm.rem n hnd
  obtain ⟨w', h1, h2, h3⟩ := h.drop (string_keyed hk) ht (keyOf_str hk ⟨n.toArray⟩ (by show n.toArray.size ≤ _; simpa using hn)) ty
  exact ⟨w', h1, ⟨_, tight h2 hm'.size, hm'⟩, h3⟩
theorem OwnM.ren (h : OwnM w P k b l) (hk : P.underlying k = some .string) (ht : P.underlying t = some (.map k k)) (n m : B) (hl : l.length < maxLen) (hn : n.length ≤ maxLen) (hm0 : m.length ≤ maxLen) (hd : ((get l n).getD []).length ≤ maxLen) (hnd : (names l).Nodup) (ha : has l n = true) (ty : TypeId) :
    ∃ w1 w2, (Builtin.delete_ #[t, k] ty #[.map (some b), .string ⟨n.toArray⟩]).run P w = .ok (.tuple #[]) w1 ∧ w.mapTurned w1 b ∧
      (Instr.mapUpdate t (.map (some b)) (.string ⟨m.toArray⟩) (.string ⟨((get l n).getD []).toArray⟩)).run P w1 = .ok () w2 ∧ OwnM w2 P k b (ap l (.ren n m)) ∧ w.mapTurned w2 b := by
  obtain ⟨D, h, hm⟩ := h
  have hm' := hm.ren n m hnd ha
  obtain ⟨w1, h1, h2, h3⟩ := h.drop (string_keyed hk) ht (keyOf_str hk ⟨n.toArray⟩ (by show n.toArray.size ≤ _; simpa using hn)) ty
  obtain ⟨w2, g1, g2, g3⟩ := h2.store (string_keyed hk) ht hl (keyOf_str hk ⟨m.toArray⟩ (by show m.toArray.size ≤ _; simpa using hm0)) (plainElem_string (s := ⟨((get l n).getD []).toArray⟩) hk (by show Array.size _ ≤ _; simpa using hd))
  exact ⟨w1, w2, h1, h3, g1, ⟨_, tight g2 hm'.size, hm'⟩, h3.trans g3⟩
end

end Go.Proofs.YtbfgkcgnhgfkmaaGreat.Dk

namespace Go.Proofs.YtbfgkcgnhgfkmaaGreat.Dk
open Go Go.Maps Go.RowKit Go.ChangeMaps Go.WideMaps
set_option linter.unusedVariables false

/-- the bytes of those files that are no longer to come -/
def outSum (l : Fs) (left : B → Bool) : Nat := (l.map fun p => if left p.1 then 0 else p.2.length).sum
theorem outSum_congr (l : Fs) (f g : B → Bool) (h : ∀ n, n ∈ names l → f n = g n) : outSum l f = outSum l g := by
  unfold outSum
  congr 1
  refine List.map_congr_left fun p hp => ?_
  rw [h p.1 (List.mem_map.2 ⟨p, hp, rfl⟩)]
theorem outSum_start (l : Fs) : outSum l (has l) = 0 := by
  rw [outSum_congr l (has l) (fun _ => true) fun n hn => (get_mem l n).2 hn]
  unfold outSum
  induction l with
  | nil => rfl
  | cons p l ih => simpa using ih
theorem outSum_end (l : Fs) (f : B → Bool) (h : ∀ n, f n = false) : outSum l f = total l := by
  unfold outSum total
  congr 1
  refine List.map_congr_left fun p hp => ?_
  rw [h p.1]; rfl
theorem outSum_le (l : Fs) (f : B → Bool) : outSum l f ≤ total l := by
  unfold outSum total
  induction l with
  | nil => simp
  | cons p l ih => simp only [List.map_cons, List.sum_cons]; split <;> omega
theorem outSum_step : ∀ (l : Fs) (f : B → Bool) (x d : B), (names l).Nodup → f x = true → get l x = some d → outSum l (fun n => f n && !decide (n = x)) = outSum l f + d.length
  | [], f, x, d, hn, hf, hg => by simp [get] at hg
  | p :: l, f, x, d, hn, hf, hg => by
    have hn' : p.1 ∉ names l ∧ (names l).Nodup := by simpa [names] using hn
    rw [get] at hg
    have e1 : ∀ g : B → Bool, outSum (p :: l) g = (if g p.1 then 0 else p.2.length) + outSum l g := fun g => by simp [outSum]
    rw [e1, e1]
    by_cases q : p.1 = x
    · rw [if_pos q] at hg
      have hd : p.2 = d := by injection hg
      have hc : outSum l (fun n => f n && !decide (n = x)) = outSum l f := outSum_congr l _ _ fun n hm => by
        have : n ≠ x := fun e => hn'.1 (by rw [q, ← e]; exact hm)
        simp [this]
      rw [hc, q, hf, ← hd]
      simp; omega
    · rw [if_neg q] at hg
      have ih := outSum_step l f x d hn'.2 hf hg
      rw [ih]
      simp [q]; omega

section
variable {P : Program} {k : TypeId} {w : World} {b r n : Nat} {D : DW} {l : Fs} {left : Lit → Bool} {cnt : Nat}
theorem keyOf_str_inv (hk : P.underlying k = some .string) {key : Value} {kl : Lit} (h : keyOf P k key = some kl) : ∃ s : ByteArray, key = .string s ∧ kl = .string s.data.toList := by
  simp only [keyOf, hk] at h
  unfold mapKey at h
  rw [hk] at h
  cases key <;> simp at h
  exact ⟨_, rfl, h.2.symm⟩
/-- the range's step -/
theorem next_fs (hk : P.underlying k = some .string) (hm : IsM D l) {ops : Array Oper} {rest : List Oper} {o : Oper} {a : Act} {Q : Exit → Act → World → Prop}
    (hg : o.guard = none) (it : Operand) (hop : o.op = Op.next it false) (hit : a.eval it = .pointer (some ⟨r, 0, none⟩)) (h : w.ranges P k (plainElem P k) b r n D left cnt)
    (hDone : cnt = 0 → (∀ m : B, left (.string m) = false) → wpList P ops Q rest (a.put o.dst (.tuple #[.bool false])) w)
    (hMore : ∀ (x c : ByteArray) (w' : World) (cnt' : Nat), left (.string x.data.toList) = true → get l x.data.toList = some c.data.toList → w'.ranges P k (plainElem P k) b r n D (fun z => left z && !z.sameKey (.string x.data.toList)) cnt' → cnt' < cnt →
      w.grownBy w' (some r) → w'.heap.size = w.heap.size → (Instr.entry (.pointer (some ⟨r, 0, none⟩))).run P w' = .ok (.tuple #[.string x, .string c]) w' → wpList P ops Q rest (a.put o.dst (.tuple #[.bool true, .string x, .string c])) w') :
    wpList P ops Q (o :: rest) a w :=
  wpList_next_ranges w hg it hop k (string_keyed hk) (plainElem P k) Value.string Value.string (fun key kl hkey => by obtain ⟨s, rfl, _⟩ := keyOf_str_inv hk hkey; exact ⟨s, rfl⟩) (fun v y hv => by obtain ⟨c, rfl, _⟩ := plainElem_string_inv hk hv; exact ⟨c, rfl⟩)
    b r n D left cnt hit h (fun h0 hl => hDone h0 fun m => hl _) (fun x c kl y w' cnt' hkey hlk hv hat hrg hlt hgr hsz hen => by
      obtain ⟨x', ex, rfl⟩ := keyOf_str_inv hk hkey
      cases ex
      obtain ⟨c', ec, rfl, hwc⟩ := plainElem_string_inv hk hv
      cases ec
      refine hMore x c w' cnt' hlk ?_ hrg hlt hgr hsz hen
      have h1 := hat .nil
      rw [hm.at_] at h1
      cases hgx : get l x.data.toList with
      | none => rw [hgx] at h1; simp at h1
      | some d => rw [hgx] at h1; simp only [DataW.lit.injEq, Lit.string.injEq] at h1; rw [h1])
theorem same_str (z x : B) : (Lit.string z).sameKey (.string x) = decide (z = x) := by
  by_cases e : z = x
  · subst e; rw [decide_eq_true rfl]; exact WideAt.sameKey_self trivial
  · rw [decide_eq_false e]
    cases q : (Lit.string z).sameKey (.string x)
    · rfl
    · have := WideAt.sameKey_eq q; injection this with this; exact absurd this e
end

end Go.Proofs.YtbfgkcgnhgfkmaaGreat.Dk
