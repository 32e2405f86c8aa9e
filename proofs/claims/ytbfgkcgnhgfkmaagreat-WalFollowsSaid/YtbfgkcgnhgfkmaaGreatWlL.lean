/-
  Records one after the other, and what Scan finds there. Plain Lean.
-/
/-
  Opening a log, in plain Lean; a disk with one log.
-/
/-
  wal.Open.
-/
import Derived.Test.YtbfgkcgnhgfkmaaGreatWlB
import Derived.Test.YtbfgkcgnhgfkmaaGreatWlG
import Derived.Test.YtbfgkcgnhgfkmaaGreatDkKeep
namespace Go.Proofs.YtbfgkcgnhgfkmaaGreat.Wl
open Go Go.RowKit Go.Proofs.YtbfgkcgnhgfkmaaGreat.Slc Go.Proofs.YtbfgkcgnhgfkmaaGreat.Hs
open Go.Proofs.YtbfgkcgnhgfkmaaGreat.Dk (Fr ptr bstr bstr_size bstr_list)
set_option linter.unusedVariables false
set_option linter.unusedSimpArgs false

/-- records one after the other, numbered from k on -/
def joinB : Nat → List B → B
  | _, [] => []
  | k, x :: l => frameB k x ++ joinB (k + 1) l
theorem joinB_nil (k : Nat) : joinB k [] = [] := rfl
theorem joinB_cons (k : Nat) (x : B) (l : List B) : joinB k (x :: l) = frameB k x ++ joinB (k + 1) l := rfl
theorem joinB_append : ∀ (l m : List B) (k : Nat), joinB k (l ++ m) = joinB k l ++ joinB (k + l.length) m
  | [], m, k => by simp [joinB]
  | x :: l, m, k => by
    rw [List.cons_append, joinB_cons, joinB_cons, joinB_append l m (k + 1), List.append_assoc, List.length_cons]
    congr 3; omega
theorem joinB_snoc (l : List B) (x : B) (k : Nat) : joinB k (l ++ [x]) = joinB k l ++ frameB (k + l.length) x := by
  rw [joinB_append, joinB_cons, joinB_nil, List.append_nil]
/-- all records are small -/
def Sm (l : List B) : Prop := ∀ x ∈ l, x.length ≤ 65536

theorem bt_app (a b : B) (i : Nat) : bt (a ++ b) (a.length + i) = bt b i := by
  unfold bt
  rw [List.getD_eq_getElem?_getD, List.getD_eq_getElem?_getD, List.getElem?_append_right (by omega), Nat.add_sub_cancel_left]
theorem numK_app (a b : B) : ∀ i, numK (a ++ b) a.length i = numK b 0 i
  | 0 => rfl
  | i + 1 => by
    show 256 * numK (a ++ b) a.length i + bt (a ++ b) (a.length + i) = 256 * numK b 0 i + bt b (0 + i)
    rw [numK_app a b i, bt_app, Nat.zero_add]
theorem num4_app (a b : B) : num4 (a ++ b) a.length = num4 b 0 := numK_app a b 4
theorem num4_be (n : Nat) (r : B) (h : n < 4294967296) : num4 (be n 4 ++ r) 0 = n := by
  have e : be n 4 = [byA n 3, byA n 2, byA n 1, byA n 0] := rfl
  have e0 : numK (be n 4 ++ r) 0 0 = 0 := rfl
  have e1 : numK (be n 4 ++ r) 0 1 = 256 * numK (be n 4 ++ r) 0 0 + (byA n 3).toNat := by rw [e]; rfl
  have e2 : numK (be n 4 ++ r) 0 2 = 256 * numK (be n 4 ++ r) 0 1 + (byA n 2).toNat := by rw [e]; rfl
  have e3 : numK (be n 4 ++ r) 0 3 = 256 * numK (be n 4 ++ r) 0 2 + (byA n 1).toNat := by rw [e]; rfl
  have e4 : numK (be n 4 ++ r) 0 4 = 256 * numK (be n 4 ++ r) 0 3 + (byA n 0).toNat := by rw [e]; rfl
  rw [byA_toNat] at e1 e2 e3 e4
  unfold num4
  rw [show (256 : Nat) ^ 3 = 16777216 from rfl] at e1
  rw [show (256 : Nat) ^ 2 = 65536 from rfl] at e2
  rw [show (256 : Nat) ^ 1 = 256 from rfl] at e3
  rw [show (256 : Nat) ^ 0 = 1 from rfl] at e4
  omega
/-- a record's parts -/
theorem frameB_parts (k : Nat) (x : B) : ∃ s : B, s.length = 4 ∧ frameB k x = be x.length 4 ++ (s ++ x) := by
  refine ⟨(sha (be k 8 ++ x)).take 4, by rw [List.length_take, sha_len]; rfl, ?_⟩
  unfold frameB
  rw [List.append_assoc]
theorem scan_step (pre rest x : B) (out : List B) (hx : x.length ≤ 65536) (ho : out.length < 4096) :
    scanA (pre ++ (frameB out.length x ++ rest)) out pre.length = scanA (pre ++ (frameB out.length x ++ rest)) (out ++ [x]) (pre.length + (frameB out.length x).length) := by
  obtain ⟨s, hs, hf⟩ := frameB_parts out.length x
  have hfl := frameB_len out.length x
  have hbl : (pre ++ (frameB out.length x ++ rest)).length = pre.length + (x.length + 8) + rest.length := by
    rw [List.length_append, List.length_append, hfl]; omega
  have hn : num4 (pre ++ (frameB out.length x ++ rest)) pre.length = x.length := by
    rw [num4_app, hf, List.append_assoc]
    exact num4_be _ _ (by omega)
  have hd : dat (pre ++ (frameB out.length x ++ rest)) pre.length = x := by
    unfold dat
    rw [hn, hf]
    have e : pre ++ (be x.length 4 ++ (s ++ x) ++ rest) = (pre ++ (be x.length 4 ++ s)) ++ (x ++ rest) := by simp [List.append_assoc]
    rw [e, show pre.length + 8 = (pre ++ (be x.length 4 ++ s)).length by rw [List.length_append, List.length_append, be_len, hs], List.drop_left, List.take_left]
  have hr : rec_ (pre ++ (frameB out.length x ++ rest)) pre.length = frameB out.length x := by
    unfold rec_
    rw [hn, List.drop_left, show 8 + x.length = (frameB out.length x).length by omega, List.take_left]
  rw [scan_next _ out pre.length (by omega) (by omega) (by omega) (by rw [hr, hd]) (by omega), hd, hn, hfl, show 8 + x.length = x.length + 8 by omega]
theorem scan_join (rest : B) : ∀ (l : List B) (pre : B) (out : List B), Sm l → out.length + l.length ≤ 4096 →
    scanA (pre ++ (joinB out.length l ++ rest)) out pre.length = scanA (pre ++ (joinB out.length l ++ rest)) (out ++ l) (pre.length + (joinB out.length l).length)
  | [], pre, out, _, _ => by simp [joinB]
  | x :: l, pre, out, hl, ho => by
    rw [List.length_cons] at ho
    have h1 := scan_step pre (joinB (out.length + 1) l ++ rest) x out (hl x (List.mem_cons_self)) (by omega)
    have h2 := scan_join rest l (pre ++ frameB out.length x) (out ++ [x]) (fun y hy => hl y (List.mem_cons_of_mem _ hy)) (by rw [List.length_append]; simp only [List.length_cons, List.length_nil]; omega)
    rw [List.length_append, List.length_append, show out.length + [x].length = out.length + 1 from rfl] at h2
    rw [joinB_cons]
    rw [← List.append_assoc] at h1
    have e : pre ++ (frameB out.length x ++ joinB (out.length + 1) l ++ rest) = pre ++ frameB out.length x ++ (joinB (out.length + 1) l ++ rest) := by simp [List.append_assoc]
    rw [List.append_assoc out] at h2
    rw [e, h1, h2, List.length_append, Nat.add_assoc]
    rfl
theorem scan_stop (pre c x : B) (k m : Nat) (out : List B) (hc : c = (frameB k x).take m) (hm : m < (frameB k x).length) (hx : x.length ≤ 65536) : scanA (pre ++ c) out pre.length = some (out, pre.length) := by
  obtain ⟨s, hs, hf⟩ := frameB_parts k x
  have hfl := frameB_len k x
  have hcl : c.length = m := by rw [hc, List.length_take]; omega
  have hbl : (pre ++ c).length = pre.length + m := by rw [List.length_append, hcl]
  by_cases h4 : m < 4
  · exact scan_end _ _ _ (by omega)
  · have hn : num4 (pre ++ c) pre.length = x.length := by
      rw [num4_app, hc, hf, List.take_append, List.take_of_length_le (by rw [be_len]; omega)]
      exact num4_be _ _ (by omega)
    exact scan_part _ _ _ (by omega) (by rw [hn]; omega) (by rw [hn, hbl]; omega)
/-- a log that is cut off -/
theorem scan_cut (l : List B) (x : B) (k m : Nat) (hl : Sm l) (hll : l.length ≤ 4096) (hm : m < (frameB k x).length) (hx : x.length ≤ 65536) :
    scanB (joinB 0 l ++ (frameB k x).take m) = some (l, (joinB 0 l).length) := by
  have h1 := scan_join ((frameB k x).take m) l [] [] hl (by simpa using hll)
  simp only [List.nil_append, List.length_nil, Nat.zero_add] at h1
  unfold scanB
  rw [h1]
  exact scan_stop _ _ x k m l rfl hm hx
theorem scan_whole (l : List B) (hl : Sm l) (hll : l.length ≤ 4096) : scanB (joinB 0 l) = some (l, (joinB 0 l).length) := by
  have := scan_cut l [] 0 0 hl hll (by rw [frameB_len]; simp) (by simp)
  simpa using this
theorem joinB_len (c : Nat) : ∀ (l : List B) (k : Nat), (∀ x ∈ l, x.length ≤ c) → (joinB k l).length ≤ (c + 8) * l.length
  | [], k, _ => by simp [joinB]
  | x :: l, k, h => by
    have h1 := joinB_len c l (k + 1) fun y hy => h y (List.mem_cons_of_mem _ hy)
    have h2 := h x List.mem_cons_self
    rw [joinB_cons, List.length_append, frameB_len, List.length_cons, Nat.mul_succ]
    omega
end Go.Proofs.YtbfgkcgnhgfkmaaGreat.Wl

namespace Go.Proofs.YtbfgkcgnhgfkmaaGreat.Wl
open Go Go.RowKit Go.Proofs.YtbfgkcgnhgfkmaaGreat.Slc Go.Proofs.YtbfgkcgnhgfkmaaGreat.Hs
open Go.Proofs.YtbfgkcgnhgfkmaaGreat.Dk (Fr ptr bstr bstr_size bstr_list NextP RepP St Fs Ch okName has ap aps total names)
set_option linter.unusedVariables false
set_option linter.unusedSimpArgs false

/-- the state and the result of opening -/
def openT (s : St) (n b : B) (size : Nat) (recs : List B) : St × Int × Option (List B × Nat) :=
  let y := if size < b.length then replace s n (b.take size) else s.sync
  if y.2 = 0 then (y.1, 0, some (recs, size)) else (y.1, y.2, none)
def openR (s : St) (n b : B) (size : Nat) (recs : List B) : St × Int × Option (List B × Nat) :=
  if has s.files (n ++ sfx) then (if (s.remove (n ++ sfx)).2 = 0 then openT (s.remove (n ++ sfx)).1 n b size recs else ((s.remove (n ++ sfx)).1, (s.remove (n ++ sfx)).2, none))
  else openT s n b size recs
def openS (s : St) (n b : B) : St × Int × Option (List B × Nat) :=
  match scanB b with
  | none => (s, 27, none)
  | some (recs, size) => openR s n b size recs
def openP (s : St) (n : B) : St × Int × Option (List B × Nat) :=
  if (s.read n).2 ≠ 0 ∧ (s.read n).2 ≠ 23 then (s, (s.read n).2, none)
  else if 28 < n.length then (s, 14, none)
  else openS s n (s.read n).1

/-- the file's name -/
def lg : B := [108, 111, 103]
theorem lg_ok : okName lg = true := by decide
theorem lgn_ok : okName (lg ++ sfx) = true := by decide
theorem lgn_ne : lg ++ sfx ≠ lg := by decide
/-- the files with this log alone -/
def logF (c : B) : Fs := if c = [] then [] else [(lg, c)]
theorem get_logF (c : B) : (Dk.get (logF c) lg).getD [] = c := by unfold logF; split <;> simp [Dk.get, *]
theorem total_logF (c : B) : total (logF c) = c.length := by unfold logF; split <;> simp [total, *]
theorem len_logF (c : B) : (logF c).length ≤ 1 := by unfold logF; split <;> simp
theorem has_new (c : B) : has (logF c) (lg ++ sfx) = false := by
  unfold logF; split
  · rfl
  · simp [has, Dk.get, lg, sfx]
theorem ap_logF (c d : B) (hd : d ≠ []) : ap (logF c) (.app lg d) = logF (c ++ d) := by
  unfold logF
  have h2 : c ++ d ≠ [] := by simp [hd]
  rw [if_neg h2]
  split
  · rename_i h; subst h; simp [ap, has, Dk.get]
  · simp [ap, has, Dk.get, Dk.wh]
theorem aps_logF : ∀ (ds : List B) (c : B), (∀ d ∈ ds, d ≠ []) → aps (logF c) (ds.map fun d => Ch.app lg d) = logF (c ++ ds.flatten)
  | [], c, _ => by simp [aps]
  | d :: ds, c, h => by
    have h1 := aps_logF ds (c ++ d) fun x hx => h x (List.mem_cons_of_mem _ hx)
    rw [List.map_cons]
    show aps (ap (logF c) (.app lg d)) _ = _
    rw [ap_logF _ _ (h d List.mem_cons_self), h1, List.flatten_cons, List.append_assoc]
/-- a disk with this log alone, on for good: what is durable, what waits -/
def one (cap : Int) (c : B) (ds : List B) : St := ⟨cap, logF c, ds.map fun d => Ch.app lg d, -1⟩
theorem one_off (cap : Int) (c : B) (ds : List B) : (one cap c ds).off = false := rfl
theorem one_files (cap : Int) (c : B) (ds : List B) (h : ∀ d ∈ ds, d ≠ []) : (one cap c ds).files = logF (c ++ ds.flatten) := aps_logF ds c h
theorem one_append (cap : Int) (c : B) (ds : List B) (d : B) (h : ∀ d ∈ ds, d ≠ []) (hd : ((c ++ ds.flatten).length + d.length : Nat) ≤ cap) :
    (one cap c ds).append lg d = (one cap c (ds ++ [d]), 0) := by
  have hl := len_logF (c ++ ds.flatten)
  have ht := total_logF (c ++ ds.flatten)
  have hf : (one cap c ds).fits lg d.length = true := by
    unfold Dk.St.fits
    rw [one_files _ _ _ h, ht]
    rw [decide_eq_false (by omega : ¬ 16 ≤ (logF (c ++ ds.flatten)).length), Bool.and_false, Bool.not_false, Bool.true_and, decide_eq_true_eq]
    show (d.length : Int) ≤ cap - _
    omega
  unfold Dk.St.append
  rw [one_off, lg_ok, hf]
  simp [Dk.St.add, Dk.St.spend, one]
theorem one_sync (cap : Int) (c : B) (ds : List B) (h : ∀ d ∈ ds, d ≠ []) : (one cap c ds).sync = (one cap (c ++ ds.flatten) [], 0) := by
  rw [Dk.sync_of rfl, one_files _ _ _ h]; rfl
theorem one_read (cap : Int) (c : B) : (one cap c []).read lg = (c, if c = [] then 23 else 0) := by
  unfold Dk.St.read
  rw [one_off, lg_ok, one_files _ _ _ (fun d hd => by simp at hd)]
  simp only [List.flatten_nil, List.append_nil, Bool.not_true, Bool.false_eq_true, if_false]
  by_cases h : c = []
  · subst h; rfl
  · have e : Dk.get (logF c) lg = some c := by unfold logF; rw [if_neg h]; simp [Dk.get]
    rw [e, if_neg h]
/-- opening a log that is whole -/
theorem one_open (cap : Int) (l : List B) (hl : Sm l) (hll : l.length ≤ 4096) : openP (one cap (joinB 0 l) []) lg = (one cap (joinB 0 l) [], 0, some (l, (joinB 0 l).length)) := by
  have hr := one_read cap (joinB 0 l)
  have hs := one_sync cap (joinB 0 l) [] (fun d hd => by simp at hd)
  simp only [List.flatten_nil, List.append_nil] at hs
  unfold openP
  rw [hr, if_neg (by split <;> simp), if_neg (by decide)]
  unfold openS
  rw [scan_whole l hl hll]
  show openR _ _ _ _ _ = _
  unfold openR
  rw [one_files _ _ _ (fun d hd => by simp at hd), has_new, if_neg (by simp)]
  unfold openT
  rw [if_neg (Nat.lt_irrefl _), hs]
  rfl
theorem new_one (cap : Int) (h : 0 ≤ cap) : St.new cap = one cap [] [] := by
  have e : max cap 0 = cap := Int.max_eq_left h
  unfold Dk.St.new one logF
  rw [e]; rfl
end Go.Proofs.YtbfgkcgnhgfkmaaGreat.Wl

namespace Go.Proofs.YtbfgkcgnhgfkmaaGreat.Wl
open Go Go.RowKit Go.Proofs.YtbfgkcgnhgfkmaaGreat.Slc Go.Proofs.YtbfgkcgnhgfkmaaGreat.Hs
open Go.Proofs.YtbfgkcgnhgfkmaaGreat.Dk (Fr ptr bstr bstr_size bstr_list NextP RepP St append_any sync_any rename_any remove_any read_any names_any rdV)
set_option linter.unusedVariables false
set_option linter.unusedSimpArgs false

theorem NextP.on2 {w w1 : World} {d : Nat} {s1 s2 : St} {F R : Nat → Prop} {f : FuncId} {args : Array Value} {Post : Ending → Prop} (h : NextP w w1 d s1 F R)
    (hc : ∀ F' R', RepP w1 d s1 F' R' → (∀ k, F' k → F k ∨ w.heap.size ≤ k) → Calls Tryz.prog f args w1 fun e w2 => Post e ∧ NextP w1 w2 d s2 F' R') : Calls Tryz.prog f args w1 fun e w2 => Post e ∧ NextP w w2 d s2 F R := by
  obtain ⟨F1, R1, h1, h2, h3, h4⟩ := h
  exact (hc F1 R1 h1 h2).mono fun e w2 ⟨he, hn⟩ => ⟨he, nextTrans h2 h3 h4 hn⟩
/-- what Open leaves -/
def OpPost (w : World) (d : Nat) (n : B) (r : St × Int × Option (List B × Nat)) (F R : Nat → Prop) (e : Ending) (w' : World) : Prop :=
  match r.2.2 with
  | none => e = .returned (.tuple #[.pointer none, .slice none 0 0, .int .i64 r.2.1]) ∧ NextP w w' d r.1 F R
  | some q => ∃ v F' R', e = .returned (.tuple #[ptr w.heap.size, v, .int .i64 r.2.1]) ∧ Own w' (w.heap.size + 1) 9 1 Dk.encS v q.1 ∧ w'.heap[w.heap.size]? = some (lblk ⟨n, q.1.length, q.2, false⟩ d) ∧ RepP w' d r.1 F' R' ∧ (∀ k, F' k → F k ∨ w.heap.size < k) ∧ (∀ k, R' k → R k ∨ w.heap.size < k) ∧ Fr F w w' ∧ (∀ k, v.ownBlock = some k → ¬ F' k ∧ ¬ R' k)
theorem OpPost.none {w w' : World} {d : Nat} {n : B} {r : St × Int × Option (List B × Nat)} {F R : Nat → Prop} {s' : St} {x : Int} (hr : r = (s', x, .none)) (h : NextP w w' d s' F R) : OpPost w d n r F R (.returned (.tuple #[.pointer .none, .slice .none 0 0, .int .i64 x])) w' := by
  subst hr; exact ⟨rfl, h⟩
theorem OpPost.fin {w w1 w2 w3 w4 : World} {d : Nat} {n : B} {r : St × Int × Option (List B × Nat)} {F R : Nat → Prop} {s s' : St} {recs : List B} {size : Nat} {v : Value} (hr : r = (s', 0, some (recs, size))) (h0 : RepP w d s F R) (hw1 : w1 = w.alloc (lblk ⟨n, 0, 0, false⟩ d))
    (h12 : Below w1.heap.size w1 w2) (hv : Own w2 w1.heap.size 9 1 Dk.encS v recs) (h23 : Fr (fun k => k = w.heap.size) w2 w3) (hg : w3.heap[w.heap.size]? = some (lblk ⟨n, recs.length, size, false⟩ d)) (h : NextP w3 w4 d s' F R) :
    OpPost w d n r F R (.returned (.tuple #[ptr w.heap.size, v, .int .i64 0])) w4 := by
  subst hr
  have hz1 : w1.heap.size = w.heap.size + 1 := by rw [hw1]; simp
  have hz2 := h12.size
  have hz3 := h23.size
  have hl : ¬ F w.heap.size := fun q => by have := h0.Flt _ q; omega
  have hg4 := keepL hg hl h
  obtain ⟨F', R', k1, k2, k3, k4⟩ := h
  have hb1 : Below w.heap.size w w1 := by rw [hw1]; exact (Below.refl _ _).alloc (Nat.le_refl _) _
  have hvb := fun k hk => World.ownsRow.lt hv k hk
  refine ⟨v, F', R', rfl, ?_, hg4, k1, fun k q => (k2 k q).imp id fun z => by omega, fun k q => (k3 k q).imp id fun z => by omega, ?_, fun k hk => ⟨fun q => ?_, fun q => ?_⟩⟩
  · have h3 : Own w3 w1.heap.size 9 1 Dk.encS v recs := hv.keep fun k hk hlt => h23.block k hlt fun e => by have := (hvb k hk).1; omega
    have h4 : Own w4 w1.heap.size 9 1 Dk.encS v recs := h3.keep fun k hk hlt => k4.block k hlt fun e => by have := (hvb k hk).1; have := h0.Flt _ e; omega
    rw [← hz1]; exact h4
  · exact ⟨k4.os.trans (h23.os.trans (h12.os.trans hb1.os)), k4.tape.trans (h23.tape.trans (h12.tape.trans hb1.tape)), k4.output.trans (h23.output.trans (h12.output.trans hb1.output)), by have := k4.size; omega, fun k hk hn => (k4.block k (by omega) hn).trans ((h23.block k (by omega) (by omega)).trans ((h12.block k (by omega)).trans (hb1.block k hk)))⟩
  · rcases k2 k q with y | y
    · have := (hvb k hk).1; have := h0.Flt _ y; omega
    · have := (hvb k hk).2; omega
  · rcases k3 k q with y | y
    · have := (hvb k hk).1; have := h0.Rlt _ y; omega
    · have := (hvb k hk).2; omega

theorem box_lblk (n : B) (d : Nat) : Obj.cells #[.string (bstr n), .int .i64 0, .int .i64 0, .pointer (some ⟨d, 0, none⟩), .bool false] 68 (0, 0) = lblk ⟨n, 0, 0, false⟩ d := rfl

set_option maxRecDepth 10000 in
set_option maxHeartbeats 4000000 in
theorem open_any (w : World) (d : Nat) (s : St) (F R : Nat → Prop) (n : B) (h : RepP w d s F R) (hn : n.length ≤ 900) (ho : s.ops.length ≤ 900) (hbl : (s.read n).1.length ≤ 1000000) :
    Calls Tryz.prog 19 #[ptr d, .string (bstr n)] w (OpPost w d n (openP s n) F R) := by
  obtain ⟨RS, hRS⟩ : ∃ r, r = openP s n := ⟨_, rfl⟩
  rw [← hRS]
  have hRS' := hRS
  unfold openP at hRS'
  have hl : ¬ F w.heap.size := fun q => by have := h.Flt _ q; omega
  have hrl : ¬ R w.heap.size := fun q => by have := h.Rlt _ q; omega
  have H0 := Lib.hid h
  have HL := Lib.hid hl
  have HRL := Lib.hid hrl
  obtain ⟨W1, hW1⟩ : ∃ W, W = w.alloc (lblk ⟨n, 0, 0, false⟩ d) := ⟨_, rfl⟩
  have HW1 := Bx.mk hW1
  have hb1 : Below w.heap.size w W1 := by rw [hW1]; exact (Below.refl _ _).alloc (Nat.le_refl _) _
  have hz1 : W1.heap.size = w.heap.size + 1 := by rw [hW1]; simp
  have hg1 : W1.heap[w.heap.size]? = some (lblk ⟨n, 0, 0, false⟩ d) := by rw [hW1]; exact heap_alloc_new _ _
  have HB1 := Lib.hid hb1
  have HG1 := Lib.hid hg1
  have hrd := read_any W1 d s F R n (h.below hb1) (by omega)
  have h23 : (s.read n).2 = 23 → (s.read n).1 = [] := fun q => by
    unfold Dk.St.read at q ⊢
    split
    · rfl
    · split
      · rfl
      · split
        · rename_i q1 q2 _ dd hx; rw [if_neg q1, if_neg q2, hx] at q; cases q
        · rfl
  have h25 : s.off = true → (s.read n).2 = 25 := fun q => by unfold Dk.St.read; rw [q]; rfl
  generalize s.read n = P at *
  obtain ⟨b, E⟩ := P
  simp only at hRS' hbl h23 h25
  unfold rdV at hrd
  have HRD := Lib.hid hrd
  have hln : (bstr n).size = n.length := bstr_size n
  have hlb : (bstr b).size = b.length := bstr_size b
  have HRS := Bx.mk hRS'
  have HZ1 := Lib.hid hz1
  have hA1 := cat_sfx n (by omega)
  clear hRS hRS' h hl hrl hrd hb1 hg1 hW1 hz1
  unfold ptr
  generalize hNN : bstr n = N at *
  have HN := Bx.mk hNN
  clear hNN
  go_enter Tryz.func19, Tryz.ntmps19
  have hW2 : w.alloc (.cells #[.string N, .int .i64 0, .int .i64 0, .pointer (some ⟨d, 0, none⟩), .bool false] 68) = W1 := by rw [HW1.out, ← HN.out]; rfl
  go_wp2_with fail
  clear hW2
  generalize hll : w.heap.size = l at *
  have HLL := Lib.hid hll
  clear hll
  refine HRD.out.mono ?_
  rintro e w' ⟨rfl, rfl⟩
  go_upto_block 0 with fail
  go_cut [8] (fun v8 wc => v8 = .string (bstr b) ∧ wc = W1 ∧ RS = (if 28 < n.length then (s, 14, none) else openS s n b) ∧ s.off = false)
  case first =>
    by_cases q0 : E = 0
    · have t1 : (E == 23) = false := by rw [beq_eq_false_iff_ne]; omega
      have t2 : (E != 0) = false := by rw [q0]; rfl
      have hr : RS = (if 28 < n.length then (s, 14, none) else openS s n b) := by rw [HRS.out, if_neg (by omega)]
      have HR := Bx.mk hr
      have HO := Bx.mk (show s.off = false by cases q : s.off with | false => rfl | true => have := h25 q; omega)
      clear q0 hr h25 h23
      go_wp2_with fail
      go_meet
      exact ⟨rfl, rfl, HR.out, HO.out⟩
    · by_cases q1 : E = 23
      · have t1 : (E == 23) = true := by rw [q1]; rfl
        have hbn := h23 q1
        have hr : RS = (if 28 < n.length then (s, 14, none) else openS s n b) := by rw [HRS.out, if_neg (by omega)]
        have HR := Bx.mk hr
        have HBN := Bx.mk hbn
        have HO := Bx.mk (show s.off = false by cases q : s.off with | false => rfl | true => have := h25 q; omega)
        clear q0 q1 hr hbn h23 h25
        go_wp2_with fail
        go_meet
        exact ⟨by rw [HBN.out]; rfl, rfl, HR.out, HO.out⟩
      · have t1 : (E == 23) = false := by rw [beq_eq_false_iff_ne]; omega
        have t2 : (E != 0) = true := by rw [bne_iff_ne]; exact q0
        have hr : RS = (s, E, none) := by rw [HRS.out, if_pos ⟨q0, q1⟩]
        have HR := Bx.mk hr
        clear q0 q1 hr
        go_wp2_with fail
        go_ret3
        exact OpPost.none HR.out (Dk.NextP.same H0.out (by rw [HLL.out]; exact HB1.out))
  case rest =>
    obtain ⟨rfl, hw, hr, hoff⟩ := hcut
    subst hw
    have HR := Bx.mk hr
    have HOFF := Bx.mk hoff
    clear hr h23 h25 hoff
    by_cases q28 : 28 < n.length
    · have t1 : decide ((n.length : Int) > 28) = true := by rw [decide_eq_true_eq]; omega
      have HR2 := Bx.mk (show RS = (s, 14, none) by rw [HR.out, if_pos q28])
      clear q28
      go_wp2_with fail
      go_ret3
      exact OpPost.none HR2.out (Dk.NextP.same H0.out (by rw [HLL.out]; exact HB1.out))
    · have t1 : decide ((n.length : Int) > 28) = false := by rw [decide_eq_false_iff_not]; omega
      have hr2 : RS = openS s n b := by rw [HR.out, if_neg q28]
      have hsc := scan_any b wc (by omega)
      unfold openS at hr2
      have HTK := Lib.hid (fun k hk => take_b b k hk)
      generalize hBS : bstr b = BS at *
      have HBS := Bx.mk hBS
      clear hBS
      cases hsb : scanB b with
      | none =>
        rw [hsb] at hr2 hsc
        have HR2 := Bx.mk (show RS = (s, 27, none) from hr2)
        have HSC := Lib.hid hsc
        clear hr2 hsc hsb q28
        go_wp2_with fail
        go_at_call 39
        refine HSC.out.mono ?_
        rintro e w2 ⟨rfl, hb2⟩
        have HB2 := Lib.hid (HB1.out.trans (hb2.mono (by have := HZ1.out; omega)))
        clear hb2
        go_wp2_with fail
        go_ret3
        exact OpPost.none HR2.out (Dk.NextP.same H0.out (by rw [HLL.out]; exact HB2.out))
      | some q =>
        obtain ⟨recs, size⟩ := q
        rw [hsb] at hr2 hsc
        have HR2 := Bx.mk (show RS = openR s n b size recs from hr2)
        have HSC := Lib.hid hsc
        clear hr2 hsc hsb q28
        go_wp2_with fail
        go_at_call 39
        refine HSC.out.mono ?_
        rintro e w2 ⟨v, rfl, hown, hb2⟩
        obtain ⟨av, cv, hfv, -⟩ := hown.rd.form
        subst hfv
        have hg2 := (hb2.block l (by have := HZ1.out; omega)).trans HG1.out
        obtain ⟨-, c1, c2, -, -, cf⟩ := lblk_cells hg2
        have f1 := cf 1
        have f2 := cf 2
        have hlt2 := lt_of_block hg2
        obtain ⟨w3, hw3⟩ : ∃ W, (w2.setCell ⟨l, 1, none⟩ (.int .i64 (recs.length : Int))).setCell ⟨l, 2, none⟩ (.int .i64 (size : Int)) = W := ⟨_, rfl⟩
        have hg3 : w3.heap[l]? = some (lblk ⟨n, recs.length, size, false⟩ d) := by rw [← hw3]; exact lblk_grown hg2 _ _
        have hfr3 : Fr (fun k => k = l) w2 w3 := by rw [← hw3]; exact fr_two _ _ _ _ _ _
        have hr3 : RepP w3 d s F R := ((H0.out.below (by rw [HLL.out]; exact HB1.out)).below hb2).frame hfr3 fun k q e => by
          subst e
          exact q.elim HL.out HRL.out
        have hF3 : Fr F w w3 := by
          have z0 := HLL.out
          have z1 := HZ1.out
          have z2 := hb2.size
          refine ⟨hfr3.os.trans (hb2.os.trans HB1.out.os), hfr3.tape.trans (hb2.tape.trans HB1.out.tape), hfr3.output.trans (hb2.output.trans HB1.out.output), by have := hfr3.size; omega, fun k hk hn => (hfr3.block k (by omega) (by omega)).trans ((hb2.block k (by omega)).trans (HB1.out.block k (by omega)))⟩
        have HF3 := Lib.hid hF3
        have HG3 := Lib.hid hg3
        have HR3 := Lib.hid hr3
        have HFR3 := Lib.hid hfr3
        have HB2 := Lib.hid hb2
        have HOWN := Lib.hid hown
        have HNM := Lib.hid (names_any w3 d s F R hr3)
        clear hb2 hg2 cf hg3 hfr3 hr3 hF3 hown
        go_wp2_with fail
        go_at_call 14
        refine HNM.out.mono ?_
        rintro e w4 ⟨vn, rfl, hon, hb4⟩
        have hct := contains_any w4 vn s.nms (n ++ sfx) hon.rd (by have := Dk.nms_len s HR3.out.ok; omega)
        obtain ⟨an, cn, hfn, -⟩ := hon.rd.form
        subst hfn
        have HB4 := Lib.hid hb4
        have HNS := Lib.hid (show (n ++ sfx).length ≤ 1000 by simp [sfx]; omega)
        generalize hnsf : bstr (n ++ sfx) = NS at *
        have HNSF := Bx.mk hnsf
        obtain ⟨qb, hqb⟩ : ∃ q, q = decide (n ++ sfx ∈ s.nms) := ⟨_, rfl⟩
        rw [← hqb] at hct
        have HQB := Bx.mk hqb
        have HCT := Lib.hid hct
        clear hqb hon hb4 hct hnsf c1 c2 f1 f2 hlt2
        go_wp2_with fail
        go_at_call 40
        refine HCT.out.mono ?_
        rintro e w' ⟨rfl, rfl⟩
        go_upto_if 58 with fail
        go_cut [12] (fun _ wd => ∃ st, NextP w3 wd d st F R ∧ RS = openT st n b size recs ∧ st.ops.length ≤ 901)
        case first =>
          cases qb with
          | true =>
            have hhas := (mem_nms s _ HOFF.out).1 (of_decide_eq_true HQB.out.symm)
            have hrm := remove_any w4 d s F R (n ++ sfx) (HR3.out.below HB4.out) (by have := HNS.out; omega) (by omega)
            have hops := Dk.ops_remove s (n ++ sfx)
            have hr3 : RS = if (s.remove (n ++ sfx)).2 = 0 then openT (s.remove (n ++ sfx)).1 n b size recs else ((s.remove (n ++ sfx)).1, (s.remove (n ++ sfx)).2, none) := by
              rw [HR2.out]; unfold openR; rw [if_pos hhas]
            rw [HNSF.out] at hrm
            generalize s.remove (n ++ sfx) = X at *
            have HRM := Lib.hid hrm
            have HR4 := Bx.mk hr3
            have HOP := Lib.hid hops
            clear hrm hr3 hhas hops
            by_cases hx : X.2 = 0
            · have t4 : (X.2 != 0) = false := by rw [hx]; rfl
              have HR5 := Bx.mk (show RS = openT X.1 n b size recs by rw [HR4.out, if_pos hx])
              clear hx
              go_wp2_with fail
              go_at_call 41
              refine HRM.out.mono ?_
              rintro e w5 ⟨rfl, hn5⟩
              have HN5 := Lib.hid (Dk.NextP.of_below HB4.out hn5)
              clear hn5
              go_wp2_with fail
              go_meet
              exact ⟨X.1, HN5.out, HR5.out, by have := HOP.out; omega⟩
            · have t4 : (X.2 != 0) = true := by rw [bne_iff_ne]; exact hx
              have HR5 := Bx.mk (show RS = (X.1, X.2, none) by rw [HR4.out, if_neg hx])
              clear hx
              go_wp2_with fail
              go_at_call 41
              refine HRM.out.mono ?_
              rintro e w5 ⟨rfl, hn5⟩
              have HN5 := Lib.hid (Dk.NextP.of_below HB4.out hn5)
              clear hn5
              go_wp2_with fail
              go_ret3
              exact OpPost.none HR5.out (nextTrans (fun k q => .inl q) (fun k q => .inl q) HF3.out HN5.out)
          | false =>
            have hhas : ¬ Dk.has s.files (n ++ sfx) = true := fun q => of_decide_eq_false HQB.out.symm ((mem_nms s _ HOFF.out).2 q)
            have HR5 := Bx.mk (show RS = openT s n b size recs by rw [HR2.out]; unfold openR; rw [if_neg hhas])
            clear hhas
            go_wp2_with fail
            go_meet
            exact ⟨s, Dk.NextP.same HR3.out HB4.out, HR5.out, by omega⟩
        case rest =>
          obtain ⟨st, hnx, hrs, hops⟩ := hcut
          obtain ⟨Y, hY⟩ : ∃ y, y = if size < b.length then replace st n (b.take size) else st.sync := ⟨_, rfl⟩
          have hfin : RS = if Y.2 = 0 then (Y.1, 0, some (recs, size)) else (Y.1, Y.2, none) := by rw [hrs, hY]; rfl
          have HNX := Lib.hid hnx
          have HFI := Bx.mk hfin
          have HYY := Bx.mk hY
          have HOP := Lib.hid hops
          have HGD := Lib.hid (keepL HG3.out HL.out hnx)
          have HLT3 := Lib.hid (lt_of_block HG3.out)
          clear hnx hrs hops hY hfin
          go_upto_if 69 with fail
          go_cut [9] (fun v9 we => v9 = .int .i64 Y.2 ∧ NextP w3 we d Y.1 F R)
          case first =>
            by_cases hsz : size < b.length
            · have t3 : decide ((size : Int) < (b.length : Int)) = true := by rw [decide_eq_true_eq]; omega
              have s1 := HTK.out size (by omega)
              have hy := HYY.out
              rw [if_pos hsz] at hy
              have hrp := NextP.on2 HNX.out (s2 := Y.1) (Post := fun e => e = .returned (.int .i64 Y.2)) (f := 42) (args := #[ptr l, .string (bstr (b.take size))]) fun F' R' hr hsub => by
                have := replace_any wc l d ⟨n, recs.length, size, false⟩ st F' R' (b.take size) HGD.out hr (fun q => (hsub l q).elim HL.out fun z => by have := HLT3.out; omega) hn (by rw [List.length_take]; omega) (by have := HOP.out; omega)
                rw [hy]; exact this
              generalize bstr (b.take size) = TS at *
              unfold ptr at hrp
              have HRP := Lib.hid hrp
              clear hrp hy
              go_wp2_with fail
              go_at_call 42
              refine HRP.out.mono ?_
              rintro e w5 ⟨rfl, hn5⟩
              have HN5 := Lib.hid hn5
              clear hn5
              go_wp2_with fail
              go_meet
              exact ⟨rfl, HN5.out⟩
            · have t3 : decide ((size : Int) < (b.length : Int)) = false := by rw [decide_eq_false_iff_not]; omega
              have hy := HYY.out
              rw [if_neg hsz] at hy
              have hsy := NextP.on HNX.out (s2 := Y.1) (Post := fun e => e = .returned (.int .i64 Y.2)) (f := 43) (args := #[ptr d]) fun F' R' hr => by
                have := sync_any wc d st F' R' hr
                rw [hy]; exact this
              unfold ptr at hsy
              have HSY := Lib.hid hsy
              clear hsy hy
              go_wp2_with fail
              go_at_call 43
              refine HSY.out.mono ?_
              rintro e w5 ⟨rfl, hn5⟩
              have HN5 := Lib.hid hn5
              clear hn5
              go_wp2_with fail
              go_meet
              exact ⟨rfl, HN5.out⟩
          case rest =>
            obtain ⟨rfl, hn5⟩ := hcut
            have HN5 := Lib.hid hn5
            clear hn5
            by_cases hq : Y.2 = 0
            · have t3 : (Y.2 != 0) = false := by rw [hq]; rfl
              have HR5 := Bx.mk (show RS = (Y.1, 0, some (recs, size)) by rw [HFI.out, if_pos hq])
              clear hq
              go_wp2_with fail
              go_ret3
              have e := HLL.out
              subst e
              exact OpPost.fin HR5.out H0.out HW1.out HB2.out HOWN.out HFR3.out HG3.out HN5.out
            · have t3 : (Y.2 != 0) = true := by rw [bne_iff_ne]; exact hq
              have HR5 := Bx.mk (show RS = (Y.1, Y.2, none) by rw [HFI.out, if_neg hq])
              clear hq
              go_wp2_with fail
              go_ret3
              exact OpPost.none HR5.out (nextTrans (fun k q => .inl q) (fun k q => .inl q) HF3.out HN5.out)
end Go.Proofs.YtbfgkcgnhgfkmaaGreat.Wl
