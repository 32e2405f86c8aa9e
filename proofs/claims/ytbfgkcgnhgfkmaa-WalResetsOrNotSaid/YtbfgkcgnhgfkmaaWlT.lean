/-
  Reset, a fuse and a crash, in plain Lean.
-/
import Derived.Test.YtbfgkcgnhgfkmaaWlR
namespace Go.Proofs.Ytbfgkcgnhgfkmaa.Wl
open Go Go.RowKit Go.Proofs.Ytbfgkcgnhgfkmaa.Slc Go.Proofs.Ytbfgkcgnhgfkmaa.Hs
open Go.Proofs.Ytbfgkcgnhgfkmaa.Dk (Fr ptr bstr bstr_size bstr_list NextP RepP St Fs Ch okName has ap aps total names)
set_option linter.unusedVariables false
set_option linter.unusedSimpArgs false

theorem read_le (s : St) (n : B) (h : s.Ok) : ((s.read n).1.length : Int) ≤ s.cap := by
  have h1 := h.tot'
  have h2 := Dk.get_len_le s.files n
  have h3 := h.cap0
  unfold Dk.St.read
  split
  · simpa using h3
  · split
    · simpa using h3
    · split
      · rename_i dd hx; rw [hx] at h2; simp at h2 ⊢; omega
      · simpa using h3
theorem off_zero (cap : Int) (dur : Fs) (ops : List Ch) : St.off ⟨cap, dur, ops, 0⟩ = true := rfl
theorem off_pos (cap : Int) (dur : Fs) (ops : List Ch) (m : Int) (h : 0 < m) : St.off ⟨cap, dur, ops, m⟩ = false := by
  unfold Dk.St.off; rw [decide_eq_false]; simp only; omega
theorem spend_pos (cap : Int) (dur : Fs) (ops : List Ch) (m : Int) (h : 0 < m) : St.spend ⟨cap, dur, ops, m⟩ = ⟨cap, dur, ops, m - 1⟩ := by
  unfold Dk.St.spend; rw [if_pos h]
theorem rs_append (c f : B) (m : Int) (hm : 0 < m) (h : c.length + f.length ≤ 20000) : St.append ⟨20000, logF c, [], m⟩ lgn f = (⟨20000, logF c, [.app lgn f], m - 1⟩, 0) := by
  have hl := len_logF c
  have ht := total_logF c
  have hfit : St.fits ⟨20000, logF c, [], m⟩ lgn f.length = true := by
    unfold Dk.St.fits
    rw [show St.files ⟨20000, logF c, [], m⟩ = logF c from rfl, ht, decide_eq_false (by omega : ¬ 16 ≤ (logF c).length), Bool.and_false, Bool.not_false, Bool.true_and, decide_eq_true_eq]
    show (f.length : Int) ≤ 20000 - _
    omega
  unfold Dk.St.append
  rw [off_pos _ _ _ _ hm, lgn_ok', hfit]
  simp only [Bool.not_true, Bool.false_eq_true, if_false]
  unfold Dk.St.add
  rw [List.nil_append, spend_pos _ _ _ _ hm]
theorem rs_sync1 (c f : B) (m : Int) (hm : 0 < m) : St.sync ⟨20000, logF c, [.app lgn f], m⟩ = (⟨20000, logN c f, [], m - 1⟩, 0) := by
  unfold Dk.St.sync
  rw [off_pos _ _ _ _ hm]
  simp only [Bool.false_eq_true, if_false]
  rw [show St.files ⟨20000, logF c, [.app lgn f], m⟩ = ap (logF c) (.app lgn f) from rfl, ap_new, spend_pos _ _ _ _ hm]
theorem rs_rename (c f : B) (m : Int) (hm : 0 < m) : St.rename ⟨20000, logN c f, [], m⟩ lgn lg = (⟨20000, logN c f, [.ren lgn lg], m - 1⟩, 0) := by
  unfold Dk.St.rename
  rw [off_pos _ _ _ _ hm, lgn_ok', lg_ok, show St.files ⟨20000, logN c f, [], m⟩ = logN c f from rfl, has_N]
  simp only [Bool.not_true, Bool.and_self, Bool.false_eq_true, if_false]
  unfold Dk.St.add
  rw [List.nil_append, spend_pos _ _ _ _ hm]
theorem rs_sync2 (c f : B) (m : Int) (hm : 0 < m) : St.sync ⟨20000, logN c f, [.ren lgn lg], m⟩ = (⟨20000, [(lg, f)], [], m - 1⟩, 0) := by
  unfold Dk.St.sync
  rw [off_pos _ _ _ _ hm]
  simp only [Bool.false_eq_true, if_false]
  rw [show St.files ⟨20000, logN c f, [.ren lgn lg], m⟩ = ap (logN c f) (.ren lgn lg) from rfl, ap_renN, spend_pos _ _ _ _ hm]
theorem rs_off (dur : Fs) (ops : List Ch) : (∀ n d, St.append ⟨20000, dur, ops, 0⟩ n d = (⟨20000, dur, ops, 0⟩, 25)) ∧ St.sync ⟨20000, dur, ops, 0⟩ = (⟨20000, dur, ops, 0⟩, 25) ∧ (∀ a b, St.rename ⟨20000, dur, ops, 0⟩ a b = (⟨20000, dur, ops, 0⟩, 25)) := by
  refine ⟨fun n d => ?_, ?_, fun a b => ?_⟩
  · unfold Dk.St.append; rw [off_zero]; rfl
  · unfold Dk.St.sync; rw [off_zero]; rfl
  · unfold Dk.St.rename; rw [off_zero]; rfl
theorem one_fuse (c : B) (n : Nat) : (one 20000 c []).fuse n = ⟨20000, logF c, [], n⟩ := by
  unfold Dk.St.fuse
  rw [one_off]
  have : max (n : Int) (-1) = n := by omega
  simp only [Bool.false_eq_true, if_false]
  rw [this]; rfl
/-- what a replacement leaves when the fuse burns -/
theorem rs_replace (c f : B) (n : Nat) (hn : n < 6) (h : c.length + f.length ≤ 20000) :
    (n = 0 ∧ replace ⟨20000, logF c, [], n⟩ lg f = (⟨20000, logF c, [], 0⟩, 25)) ∨ (n = 1 ∧ replace ⟨20000, logF c, [], n⟩ lg f = (⟨20000, logF c, [.app lgn f], 0⟩, 25)) ∨
    (n = 2 ∧ replace ⟨20000, logF c, [], n⟩ lg f = (⟨20000, logN c f, [], 0⟩, 25)) ∨ (n = 3 ∧ replace ⟨20000, logF c, [], n⟩ lg f = (⟨20000, logN c f, [.ren lgn lg], 0⟩, 25)) ∨
    (n = 4 ∧ replace ⟨20000, logF c, [], n⟩ lg f = (⟨20000, [(lg, f)], [], 0⟩, 0)) ∨ (n = 5 ∧ replace ⟨20000, logF c, [], n⟩ lg f = (⟨20000, [(lg, f)], [], 1⟩, 0)) := by
  rcases (show n = 0 ∨ n = 1 ∨ n = 2 ∨ n = 3 ∨ n = 4 ∨ n = 5 by omega) with rfl | rfl | rfl | rfl | rfl | rfl
  · refine .inl ⟨rfl, ?_⟩
    show replace ⟨20000, logF c, [], (0 : Int)⟩ lg f = _
    have ho := (rs_off (logF c) []).1 lgn f
    unfold replace
    simp only [lgn_def, ho, ne_eq, not_true_eq_false, if_false, show ¬ ((25 : Int) = 0) from by decide, not_false_eq_true, if_true]
  · refine .inr (.inl ⟨rfl, ?_⟩)
    show replace ⟨20000, logF c, [], (1 : Int)⟩ lg f = _
    have h0 := rs_append c f 1 (by omega) h
    rw [show (1 : Int) - 1 = 0 from rfl] at h0
    have ho := (rs_off (logF c) [.app lgn f]).2.1
    unfold replace
    simp only [lgn_def, h0, ho, ne_eq, not_true_eq_false, if_false, show ¬ ((25 : Int) = 0) from by decide, not_false_eq_true, if_true]
  · refine .inr (.inr (.inl ⟨rfl, ?_⟩))
    show replace ⟨20000, logF c, [], (2 : Int)⟩ lg f = _
    have h0 := rs_append c f 2 (by omega) h
    rw [show (2 : Int) - 1 = 1 from rfl] at h0
    have h1 := rs_sync1 c f 1 (by omega)
    rw [show (1 : Int) - 1 = 0 from rfl] at h1
    have ho := (rs_off (logN c f) []).2.2 lgn lg
    unfold replace
    simp only [lgn_def, h0, h1, ho, ne_eq, not_true_eq_false, if_false, show ¬ ((25 : Int) = 0) from by decide, not_false_eq_true, if_true]
  · refine .inr (.inr (.inr (.inl ⟨rfl, ?_⟩)))
    show replace ⟨20000, logF c, [], (3 : Int)⟩ lg f = _
    have h0 := rs_append c f 3 (by omega) h
    rw [show (3 : Int) - 1 = 2 from rfl] at h0
    have h1 := rs_sync1 c f 2 (by omega)
    rw [show (2 : Int) - 1 = 1 from rfl] at h1
    have h2 := rs_rename c f 1 (by omega)
    rw [show (1 : Int) - 1 = 0 from rfl] at h2
    have ho := (rs_off (logN c f) [.ren lgn lg]).2.1
    unfold replace
    simp only [lgn_def, h0, h1, h2, ho, ne_eq, not_true_eq_false, if_false, show ¬ ((25 : Int) = 0) from by decide, not_false_eq_true, if_true]
  · refine .inr (.inr (.inr (.inr (.inl ⟨rfl, ?_⟩))))
    show replace ⟨20000, logF c, [], (4 : Int)⟩ lg f = _
    have h0 := rs_append c f 4 (by omega) h
    rw [show (4 : Int) - 1 = 3 from rfl] at h0
    have h1 := rs_sync1 c f 3 (by omega)
    rw [show (3 : Int) - 1 = 2 from rfl] at h1
    have h2 := rs_rename c f 2 (by omega)
    rw [show (2 : Int) - 1 = 1 from rfl] at h2
    have h3 := rs_sync2 c f 1 (by omega)
    rw [show (1 : Int) - 1 = 0 from rfl] at h3
    unfold replace
    simp only [lgn_def, h0, h1, h2, h3, ne_eq, not_true_eq_false, if_false, show ¬ ((25 : Int) = 0) from by decide, not_false_eq_true, if_true]
  · refine .inr (.inr (.inr (.inr (.inr ⟨rfl, ?_⟩))))
    show replace ⟨20000, logF c, [], (5 : Int)⟩ lg f = _
    have h0 := rs_append c f 5 (by omega) h
    rw [show (5 : Int) - 1 = 4 from rfl] at h0
    have h1 := rs_sync1 c f 4 (by omega)
    rw [show (4 : Int) - 1 = 3 from rfl] at h1
    have h2 := rs_rename c f 3 (by omega)
    rw [show (3 : Int) - 1 = 2 from rfl] at h2
    have h3 := rs_sync2 c f 2 (by omega)
    rw [show (2 : Int) - 1 = 1 from rfl] at h3
    unfold replace
    simp only [lgn_def, h0, h1, h2, h3, ne_eq, not_true_eq_false, if_false, show ¬ ((25 : Int) = 0) from by decide, not_false_eq_true, if_true]

/-- crashes -/
theorem crash_nil (dur : Fs) (m K Bt : Int) : St.crash ⟨20000, dur, [], m⟩ K Bt = ⟨20000, dur, [], -1⟩ := by
  unfold Dk.St.crash Dk.St.torn
  simp [aps]
theorem crash_one' (dur : Fs) (ch : Ch) (m K Bt : Int) : St.crash ⟨20000, dur, [ch], m⟩ K Bt = ⟨20000, dur, [], -1⟩ ∨ St.crash ⟨20000, dur, [ch], m⟩ K Bt = ⟨20000, ap dur ch, [], -1⟩ ∨
    ∃ n d b, ch = .app n d ∧ 0 < b ∧ St.crash ⟨20000, dur, [ch], m⟩ K Bt = ⟨20000, ap dur (.app n (d.take b)), [], -1⟩ ∨ ∃ n d, ch = .app n d ∧ d = [] := by
  have hk := Dk.keepN_le ⟨20000, dur, [ch], m⟩ K
  unfold Dk.St.crash
  generalize Dk.keepN ⟨20000, dur, [ch], m⟩ K = j at *
  simp only [List.length_cons, List.length_nil] at hk
  rcases (show j = 0 ∨ j = 1 by omega) with rfl | rfl
  · unfold Dk.St.torn
    simp only [List.getElem?_cons_zero, List.take_zero]
    cases ch with
    | app n d =>
      simp only
      by_cases hb : 0 < Bt
      · rw [if_pos hb]
        by_cases hd : d = []
        · right; right; exact ⟨n, d, 1, .inr ⟨n, d, rfl, hd⟩⟩
        · right; right
          refine ⟨n, d, (min Bt (d.length : Int)).toNat, .inl ⟨rfl, ?_, rfl⟩⟩
          have : 0 < d.length := List.length_pos_iff.mpr hd
          omega
      · rw [if_neg hb]; exact .inl rfl
    | ren a b => exact .inl rfl
    | rem a => exact .inl rfl
  · right; left
    unfold Dk.St.torn
    simp [aps]
theorem frame_ne (k : Nat) (x : B) : frameB k x ≠ [] := by
  intro q
  have := frameB_len k x
  rw [q] at this; simp at this
theorem logF_ne (f : B) (h : f ≠ []) : [(lg, f)] = logF f := by unfold logF; rw [if_neg h]
/-- opening beside a temporary file -/
theorem open_N (l : List B) (y : B) (hl : Sm l) (hll : l.length ≤ 4096) : ∃ s', openP ⟨20000, logN (joinB 0 l) y, [], -1⟩ lg = (s', 0, some (l, (joinB 0 l).length)) := by
  have hr : St.read ⟨20000, logN (joinB 0 l) y, [], -1⟩ lg = (joinB 0 l, if joinB 0 l = [] then 23 else 0) := by
    unfold Dk.St.read
    rw [show St.off ⟨20000, logN (joinB 0 l) y, [], -1⟩ = false from rfl, lg_ok, show St.files ⟨20000, logN (joinB 0 l) y, [], -1⟩ = logN (joinB 0 l) y from rfl, get_N]
    simp only [Bool.not_true, Bool.false_eq_true, if_false]
    by_cases h : joinB 0 l = []
    · rw [if_pos h, if_pos h, h]
    · rw [if_neg h, if_neg h]
  have hrm : (St.remove ⟨20000, logN (joinB 0 l) y, [], -1⟩ lgn) = (⟨20000, logN (joinB 0 l) y, [.rem lgn], -1⟩, 0) := by
    unfold Dk.St.remove
    rw [show St.off ⟨20000, logN (joinB 0 l) y, [], -1⟩ = false from rfl, lgn_ok', show St.files ⟨20000, logN (joinB 0 l) y, [], -1⟩ = logN (joinB 0 l) y from rfl, has_N]
    rfl
  unfold openP
  rw [hr, if_neg (by split <;> simp), if_neg (by decide)]
  unfold openS
  rw [scan_whole l hl hll]
  show ∃ s', openR _ _ _ _ _ = _
  unfold openR
  rw [show lg ++ sfx = lgn from rfl, show St.files ⟨20000, logN (joinB 0 l) y, [], -1⟩ = logN (joinB 0 l) y from rfl, has_N, if_pos rfl, hrm]
  simp only [if_true]
  unfold openT
  rw [if_neg (Nat.lt_irrefl _), Dk.sync_of rfl]
  exact ⟨_, rfl⟩
theorem open_one (l : List B) (hl : Sm l) (hll : l.length ≤ 4096) : ∃ s', openP ⟨20000, logF (joinB 0 l), [], -1⟩ lg = (s', 0, some (l, (joinB 0 l).length)) := ⟨_, one_open 20000 l hl hll⟩
theorem join_one (x : B) : joinB 0 [x] = frameB 0 x := by rw [joinB_cons, joinB_nil, List.append_nil]
/-- what the law asks of -/
structure RsOut (l : List B) (data : B) (n : Nat) (X Y : St × Lg × Int) (Z : St) : Prop where
  opn : ∃ s' r sz, openP Z lg = (s', 0, some (r, sz)) ∧ ((n ≤ 3 ∧ (r = l ∨ r = [data])) ∨ (3 < n ∧ (r = [data] ∨ r = [data, [122]])))
  res : (n ≤ 3 ∧ X.2.2 = 25 ∧ Y.2.2 = 28) ∨ (3 < n ∧ X.2.2 = 0)
  x1 : X.1.ops.length ≤ 10
  y1 : Y.1.ops.length ≤ 10
  z1 : Z.ops = []
  z2 : Z.cap = 20000
  g1 : X.2.1.name = lg
  g2 : X.2.1.n ≤ 100
  g3 : X.2.1.size ≤ 10000
theorem resets_plain (l : List B) (data : B) (a sz n : Nat) (K Bt : Int) (hn : n < 6) (hll : l.length ≤ 20) (hx : ∀ x ∈ l, x.length ≤ 200) (hd : data.length ≤ 200) (ha : a ≤ 100) (hsz : sz ≤ 10000) (X Y : St × Lg × Int)
    (hX : X = (⟨lg, a, sz, false⟩ : Lg).reset ((one 20000 (joinB 0 l) []).fuse n) data) (hY : Y = X.2.1.append X.1 [122]) : RsOut l data n X Y (Y.1.crash K Bt) := by
  have hS : Sm l := fun x q => by have := hx x q; omega
  have hSd : Sm [data] := fun x q => by simp at q; subst q; omega
  have hSz : Sm [data, [122]] := fun x q => by simp at q; rcases q with rfl | rfl; omega; simp
  have hjl := joinB_len 200 l 0 hx
  have hfl := frameB_len 0 data
  have hzl := frameB_len 1 [122]
  have hfd : frameB 0 data ≠ [] := frame_ne _ _
  have hrp := rs_replace (joinB 0 l) (frameB 0 data) n hn (by omega)
  rw [one_fuse] at hX
  unfold Lg.reset at hX
  simp only [Bool.false_eq_true, if_false] at hX
  rw [if_neg (by omega)] at hX
  have hod := open_one [data] hSd (by simp)
  rw [join_one] at hod
  rcases hrp with ⟨h0, hr⟩ | ⟨h0, hr⟩ | ⟨h0, hr⟩ | ⟨h0, hr⟩ | ⟨h0, hr⟩ | ⟨h0, hr⟩
  all_goals rw [hr] at hX
  · rw [if_neg (show ¬ (25 : Int) = 0 by decide)] at hX
    have hY' : Y = (⟨20000, logF (joinB 0 l), [], 0⟩, X.2.1, 28) := by rw [hY, hX]; rfl
    refine ⟨?_, .inl ⟨by omega, by rw [hX], by rw [hY']⟩, by rw [hX]; simp, by rw [hY']; simp, rfl, ?_, by rw [hX], by rw [hX]; exact ha, by rw [hX]; exact hsz⟩
    · rw [hY', crash_nil]
      obtain ⟨s', ho⟩ := open_one l hS (by omega)
      exact ⟨s', l, _, ho, .inl ⟨by omega, .inl rfl⟩⟩
    · rw [hY', crash_nil]
  · rw [if_neg (show ¬ (25 : Int) = 0 by decide)] at hX
    have hY' : Y = (⟨20000, logF (joinB 0 l), [.app lgn (frameB 0 data)], 0⟩, X.2.1, 28) := by rw [hY, hX]; rfl
    have hcr := crash_one' (logF (joinB 0 l)) (.app lgn (frameB 0 data)) 0 K Bt
    refine ⟨?_, .inl ⟨by omega, by rw [hX], by rw [hY']⟩, by rw [hX]; simp, by rw [hY']; simp, rfl, by rw [hY']; rfl, by rw [hX], by rw [hX]; exact ha, by rw [hX]; exact hsz⟩
    rw [hY']
    rcases hcr with hc | hc | ⟨n', d', b', ⟨he, hb, hc⟩ | ⟨n'', d'', he, hdn⟩⟩
    · rw [hc]
      obtain ⟨s', ho⟩ := open_one l hS (by omega)
      exact ⟨s', l, _, ho, .inl ⟨by omega, .inl rfl⟩⟩
    · rw [hc, ap_new]
      obtain ⟨s', ho⟩ := open_N l (frameB 0 data) hS (by omega)
      exact ⟨s', l, _, ho, .inl ⟨by omega, .inl rfl⟩⟩
    · injection he with e1 e2
      rw [hc, ← e1, ap_new]
      obtain ⟨s', ho⟩ := open_N l (d'.take b') hS (by omega)
      exact ⟨s', l, _, ho, .inl ⟨by omega, .inl rfl⟩⟩
    · injection he with e1 e2
      exact absurd (e2.trans hdn) hfd
  · rw [if_neg (show ¬ (25 : Int) = 0 by decide)] at hX
    have hY' : Y = (⟨20000, logN (joinB 0 l) (frameB 0 data), [], 0⟩, X.2.1, 28) := by rw [hY, hX]; rfl
    refine ⟨?_, .inl ⟨by omega, by rw [hX], by rw [hY']⟩, by rw [hX]; simp, by rw [hY']; simp, rfl, by rw [hY']; rfl, by rw [hX], by rw [hX]; exact ha, by rw [hX]; exact hsz⟩
    rw [hY', crash_nil]
    obtain ⟨s', ho⟩ := open_N l (frameB 0 data) hS (by omega)
    exact ⟨s', l, _, ho, .inl ⟨by omega, .inl rfl⟩⟩
  · rw [if_neg (show ¬ (25 : Int) = 0 by decide)] at hX
    have hY' : Y = (⟨20000, logN (joinB 0 l) (frameB 0 data), [.ren lgn lg], 0⟩, X.2.1, 28) := by rw [hY, hX]; rfl
    have hcr := crash_one' (logN (joinB 0 l) (frameB 0 data)) (.ren lgn lg) 0 K Bt
    refine ⟨?_, .inl ⟨by omega, by rw [hX], by rw [hY']⟩, by rw [hX]; simp, by rw [hY']; simp, rfl, by rw [hY']; rfl, by rw [hX], by rw [hX]; exact ha, by rw [hX]; exact hsz⟩
    rw [hY']
    rcases hcr with hc | hc | ⟨n', d', b', ⟨he, hb, hc⟩ | ⟨n'', d'', he, hdn⟩⟩
    · rw [hc]
      obtain ⟨s', ho⟩ := open_N l (frameB 0 data) hS (by omega)
      exact ⟨s', l, _, ho, .inl ⟨by omega, .inl rfl⟩⟩
    · rw [hc, ap_renN, logF_ne _ hfd]
      obtain ⟨s', ho⟩ := hod
      exact ⟨s', [data], _, ho, .inl ⟨by omega, .inr rfl⟩⟩
    · cases he
    · cases he
  · rw [if_pos rfl] at hX
    have hY' : Y.1 = ⟨20000, [(lg, frameB 0 data)], [], 0⟩ := by
      rw [hY, hX]
      unfold Lg.append
      simp only [Bool.false_eq_true, if_false]
      rw [if_neg (by simp), (rs_off _ _).1, if_neg (show ¬ (25 : Int) = 0 by decide)]
    refine ⟨?_, .inr ⟨by omega, by rw [hX]⟩, by rw [hX]; simp, by rw [hY']; simp, rfl, by rw [hY']; rfl, by rw [hX], by rw [hX]; simp, by rw [hX]; simp only; omega⟩
    rw [hY', crash_nil, logF_ne _ hfd]
    obtain ⟨s', ho⟩ := hod
    exact ⟨s', [data], _, ho, .inr ⟨by omega, .inl rfl⟩⟩
  · rw [if_pos rfl] at hX
    have hap : St.append ⟨20000, [(lg, frameB 0 data)], [], 1⟩ lg (frameB 1 [122]) = (⟨20000, [(lg, frameB 0 data)], [.app lg (frameB 1 [122])], 0⟩, 0) := by
      have hfit : St.fits ⟨20000, [(lg, frameB 0 data)], [], 1⟩ lg (frameB 1 [122]).length = true := by
        unfold Dk.St.fits
        rw [show St.files ⟨20000, [(lg, frameB 0 data)], [], 1⟩ = [(lg, frameB 0 data)] from rfl]
        rw [decide_eq_false (by simp : ¬ 16 ≤ [(lg, frameB 0 data)].length), Bool.and_false, Bool.not_false, Bool.true_and, decide_eq_true_eq]
        show (((frameB 1 [122]).length : Nat) : Int) ≤ 20000 - (total [(lg, frameB 0 data)] : Int)
        have : total [(lg, frameB 0 data)] = (frameB 0 data).length := by simp [total]
        simp only [List.length_cons, List.length_nil] at hzl
        omega
      unfold Dk.St.append
      rw [off_pos _ _ _ 1 (by omega), lg_ok, hfit]
      simp only [Bool.not_true, Bool.false_eq_true, if_false]
      unfold Dk.St.add
      rw [List.nil_append]
      exact congrArg (fun s => (s, (0 : Int))) (spend_pos _ _ _ 1 (by omega))
    have hY' : Y.1 = ⟨20000, logF (frameB 0 data), [.app lg (frameB 1 [122])], 0⟩ := by
      rw [hY, hX]
      unfold Lg.append
      simp only [Bool.false_eq_true, if_false]
      rw [if_neg (by simp), hap, if_pos rfl, logF_ne _ hfd]
    have hcr := crash_one' (logF (frameB 0 data)) (.app lg (frameB 1 [122])) 0 K Bt
    refine ⟨?_, .inr ⟨by omega, by rw [hX]⟩, by rw [hX]; simp, by rw [hY']; simp, rfl, by rw [hY']; rfl, by rw [hX], by rw [hX]; simp, by rw [hX]; simp only; omega⟩
    rw [hY']
    have hj2 : joinB 0 [data, [122]] = frameB 0 data ++ frameB 1 [122] := by rw [joinB_cons, joinB_cons, joinB_nil, List.append_nil]
    have hoz : ∃ s', openP ⟨20000, logF (frameB 0 data ++ frameB 1 [122]), [], -1⟩ lg = (s', 0, some ([data, [122]], (joinB 0 [data, [122]]).length)) := by
      rw [← hj2]; exact open_one [data, [122]] hSz (by simp)
    rcases hcr with hc | hc | ⟨n', d', b', ⟨he, hb, hc⟩ | ⟨n'', d'', he, hdn⟩⟩
    · rw [hc]
      obtain ⟨s', ho⟩ := hod
      exact ⟨s', [data], _, ho, .inr ⟨by omega, .inl rfl⟩⟩
    · rw [hc, ap_logF _ _ (frame_ne _ _)]
      obtain ⟨s', ho⟩ := hoz
      exact ⟨s', _, _, ho, .inr ⟨by omega, .inr rfl⟩⟩
    · injection he with e1 e2
      subst e1 e2
      rw [hc, ap_logF _ _ (frame_take_ne _ _ _ hb)]
      rcases Nat.lt_or_ge b' (frameB 1 [122]).length with q | q
      · have := open_cut 20000 [data] [122] 1 b' hSd (by simp) q (by simp) (by rw [join_one]; simp only [List.length_cons, List.length_nil] at hzl; omega)
        rw [join_one] at this
        obtain ⟨s', ho⟩ := this
        exact ⟨s', [data], _, ho, .inr ⟨by omega, .inl rfl⟩⟩
      · rw [List.take_of_length_le q]
        obtain ⟨s', ho⟩ := hoz
        exact ⟨s', _, _, ho, .inr ⟨by omega, .inr rfl⟩⟩
    · injection he with e1 e2
      exact absurd (e2.trans hdn) (frame_ne _ _)
end Go.Proofs.Ytbfgkcgnhgfkmaa.Wl
