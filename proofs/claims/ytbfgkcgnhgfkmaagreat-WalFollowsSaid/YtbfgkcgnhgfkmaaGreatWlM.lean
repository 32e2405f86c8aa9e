/-
  A log and its disk that the call itself made.
-/
/-
  The example: awake.
-/
import Derived.Test.YtbfgkcgnhgfkmaaGreatWlL
import Derived.Test.YtbfgkcgnhgfkmaaGreatDkAwake
namespace Go.Proofs.YtbfgkcgnhgfkmaaGreat.Wl
open Go Go.RowKit Go.Proofs.YtbfgkcgnhgfkmaaGreat.Slc Go.Proofs.YtbfgkcgnhgfkmaaGreat.Hs
open Go.Proofs.YtbfgkcgnhgfkmaaGreat.Dk (Fr ptr bstr bstr_size bstr_list NextP RepP St NewP i64ok rdV)
set_option linter.unusedVariables false
set_option linter.unusedSimpArgs false

def NewL (B : Nat) (w w' : World) (d l : Nat) (s : St) (g : Lg) : Prop :=
  ∃ F R, RepP w' d s F R ∧ (∀ k, F k → B ≤ k) ∧ (∀ k, R k → B ≤ k) ∧ Below B w w' ∧ B ≤ w'.heap.size ∧ w'.heap[l]? = some (lblk g d) ∧ B ≤ l ∧ ¬ F l ∧ ¬ R l
theorem NewL.bel {B : Nat} {w w' : World} {d l : Nat} {s : St} {g : Lg} (h : NewL B w w' d l s g) : Below B w w' := by obtain ⟨F, R, h1, h2, h3, h4, _⟩ := h; exact h4
theorem NewL.size {B : Nat} {w w' : World} {d l : Nat} {s : St} {g : Lg} (h : NewL B w w' d l s g) : B ≤ w'.heap.size := by obtain ⟨F, R, h1, h2, h3, h4, h5, _⟩ := h; exact h5
theorem NewL.blk {B : Nat} {w w' : World} {d l : Nat} {s : St} {g : Lg} (h : NewL B w w' d l s g) : w'.heap[l]? = some (lblk g d) := by obtain ⟨F, R, h1, h2, h3, h4, h5, h6, _⟩ := h; exact h6
theorem NewL.toP {B : Nat} {w w' : World} {d l : Nat} {s : St} {g : Lg} (h : NewL B w w' d l s g) : NewP B w w' d s := by obtain ⟨F, R, h1, h2, h3, h4, h5, _⟩ := h; exact ⟨F, R, h1, h2, h3, h4, h5⟩
theorem NewL.below {B : Nat} {w w' w2 : World} {d l : Nat} {s : St} {g : Lg} (h : NewL B w w' d l s g) (hb : Below w'.heap.size w' w2) : NewL B w w2 d l s g := by
  obtain ⟨F, R, h1, h2, h3, h4, h5, h6, h7, h8, h9⟩ := h
  exact ⟨F, R, h1.below hb, h2, h3, h4.trans (hb.mono h5), Nat.le_trans h5 hb.size, (hb.block l (lt_of_block h6)).trans h6, h7, h8, h9⟩
/-- a call on the log -/
theorem NewL.next {B : Nat} {w w' w2 : World} {d l : Nat} {s s' : St} {g g' : Lg} {F R : Nat → Prop} (h1 : RepP w' d s F R) (h2 : ∀ k, F k → B ≤ k) (h3 : ∀ k, R k → B ≤ k) (h4 : Below B w w') (h5 : B ≤ w'.heap.size) (h6 : w'.heap[l]? = some (lblk g d)) (h7 : B ≤ l) (h8 : ¬ F l) (h9 : ¬ R l)
    (h : LNext w' w2 d l s' g' F R) : NewL B w w2 d l s' g' := by
  obtain ⟨F', R', k1, k2, k3, k4, k5⟩ := h
  have hlt := lt_of_block h6
  exact ⟨F', R', k1, fun k q => (k2 k q).elim (h2 k) fun z => Nat.le_trans h5 z, fun k q => (k3 k q).elim (h3 k) fun z => Nat.le_trans h5 z,
    h4.trans (k4.toBelow h5 fun k q => q.elim (h2 k) fun z => by omega), Nat.le_trans h5 k4.size, k5, h7, fun q => (k2 l q).elim h8 fun z => by omega, fun q => (k3 l q).elim h9 fun z => by omega⟩
/-- a call on the disk -/
theorem NewL.onP {B : Nat} {w w' : World} {d l : Nat} {s s' : St} {g : Lg} {f : FuncId} {args : Array Value} {Post : Ending → Prop} (h : NewL B w w' d l s g)
    (hc : ∀ F R, RepP w' d s F R → Calls Tryz.prog f args w' fun e w2 => Post e ∧ NextP w' w2 d s' F R) : Calls Tryz.prog f args w' fun e w2 => Post e ∧ NewL B w w2 d l s' g := by
  obtain ⟨F, R, h1, h2, h3, h4, h5, h6, h7, h8, h9⟩ := h
  refine (hc F R h1).mono fun e w2 ⟨he, hn⟩ => ⟨he, ?_⟩
  have hb := keepL h6 h8 hn
  obtain ⟨F', R', k1, k2, k3, k4⟩ := hn
  have hlt := lt_of_block h6
  exact ⟨F', R', k1, fun k q => (k2 k q).elim (h2 k) fun z => Nat.le_trans h5 z, fun k q => (k3 k q).elim (h3 k) fun z => Nat.le_trans h5 z,
    h4.trans (k4.toBelow h5 h2), Nat.le_trans h5 k4.size, hb, h7, fun q => (k2 l q).elim h8 fun z => by omega, fun q => (k3 l q).elim h9 fun z => by omega⟩
theorem NewL.append {B : Nat} {w w' : World} {d l : Nat} {s : St} {g : Lg} (h : NewL B w w' d l s g) (x : Hs.B) (hn : g.name.length ≤ 900) (h1 : g.n ≤ 10000) (h2 : g.size ≤ 1000000000) (ho : s.ops.length ≤ 1000) (hx : x.length ≤ 9223372036854775807) :
    Calls Tryz.prog 20 #[.pointer (some ⟨l, 0, none⟩), .string (bstr x)] w' fun e w2 => e = .returned (.int .i64 (g.append s x).2.2) ∧ NewL B w w2 d l (g.append s x).1 (g.append s x).2.1 := by
  obtain ⟨F, R, k1, k2, k3, k4, k5, k6, k7, k8, k9⟩ := h
  exact (lappend_any w' l d g s F R x k6 k1 k8 k9 hn h1 h2 ho hx).mono fun e w2 ⟨he, hn⟩ => ⟨he, .next k1 k2 k3 k4 k5 k6 k7 k8 k9 hn⟩
theorem NewL.sync {B : Nat} {w w' : World} {d l : Nat} {s : St} {g : Lg} (h : NewL B w w' d l s g) :
    Calls Tryz.prog 21 #[.pointer (some ⟨l, 0, none⟩)] w' fun e w2 => e = .returned (.int .i64 (g.sync s).2.2) ∧ NewL B w w2 d l (g.sync s).1 (g.sync s).2.1 := by
  obtain ⟨F, R, k1, k2, k3, k4, k5, k6, k7, k8, k9⟩ := h
  exact (lsync_any w' l d g s F R k6 k1 k8 k9).mono fun e w2 ⟨he, hn⟩ => ⟨he, .next k1 k2 k3 k4 k5 k6 k7 k8 k9 hn⟩
theorem NewL.reset {B : Nat} {w w' : World} {d l : Nat} {s : St} {g : Lg} (h : NewL B w w' d l s g) (x : Hs.B) (hn : g.name.length ≤ 900) (ho : s.ops.length ≤ 1000) (hx : x.length ≤ 9223372036854775807) :
    Calls Tryz.prog 25 #[.pointer (some ⟨l, 0, none⟩), .string (bstr x)] w' fun e w2 => e = .returned (.int .i64 (g.reset s x).2.2) ∧ NewL B w w2 d l (g.reset s x).1 (g.reset s x).2.1 := by
  obtain ⟨F, R, k1, k2, k3, k4, k5, k6, k7, k8, k9⟩ := h
  exact (lreset_any w' l d g s F R x k6 k1 k8 k9 hn ho hx).mono fun e w2 ⟨he, hn⟩ => ⟨he, .next k1 k2 k3 k4 k5 k6 k7 k8 k9 hn⟩
theorem NewL.len {B : Nat} {w w' : World} {d l : Nat} {s : St} {g : Lg} (h : NewL B w w' d l s g) :
    Calls Tryz.prog 11 #[.pointer (some ⟨l, 0, none⟩)] w' fun e w2 => e = .returned (.int .i64 (g.n : Int)) ∧ w' = w2 := len_any w' l d g h.blk
theorem NewL.sizeC {B : Nat} {w w' : World} {d l : Nat} {s : St} {g : Lg} (h : NewL B w w' d l s g) :
    Calls Tryz.prog 12 #[.pointer (some ⟨l, 0, none⟩)] w' fun e w2 => e = .returned (.int .i64 (g.size : Int)) ∧ w' = w2 := size_any w' l d g h.blk
/-- opening that succeeds; the blocks of the call that are no blocks of the disk stay -/
theorem NewP.open_ok {B : Nat} {w w' : World} {d : Nat} {s s' : St} (h : NewP B w w' d s) (n : Hs.B) (recs : List Hs.B) (size : Nat) (hn : n.length ≤ 900) (ho : s.ops.length ≤ 900) (hb : (s.read n).1.length ≤ 1000000) (hr : openP s n = (s', 0, some (recs, size))) :
    Calls Tryz.prog 19 #[.pointer (some ⟨d, 0, none⟩), .string (bstr n)] w' fun e w2 => ∃ v l, e = .returned (.tuple #[.pointer (some ⟨l, 0, none⟩), v, .int .i64 0]) ∧ Own w2 w'.heap.size 9 1 Dk.encS v recs ∧ NewL B w w2 d l s' ⟨n, recs.length, size, false⟩ := by
  obtain ⟨F, R, k1, k2, k3, k4, k5⟩ := h
  refine (open_any w' d s F R n k1 hn ho hb).mono fun e w2 hp => ?_
  rw [hr] at hp
  obtain ⟨v, F', R', he, hv, hg, hr1, hF, hR, hfr, -⟩ := hp
  refine ⟨v, w'.heap.size, he, hv.mono (by omega), F', R', hr1, fun k q => (hF k q).elim (k2 k) fun z => by omega, fun k q => (hR k q).elim (k3 k) fun z => by omega, k4.trans (hfr.toBelow k5 k2), Nat.le_trans k5 hfr.size, hg, k5, fun q => ?_, fun q => ?_⟩
  · rcases hF _ q with z | z
    · have := k1.Flt _ z; omega
    · omega
  · rcases hR _ q with z | z
    · have := k1.Rlt _ z; omega
    · omega
theorem NewL.open_ok {B : Nat} {w w' : World} {d l : Nat} {g : Lg} {s s' : St} (h : NewL B w w' d l s g) (n : Hs.B) (recs : List Hs.B) (size : Nat) (hn : n.length ≤ 900) (ho : s.ops.length ≤ 900) (hb : (s.read n).1.length ≤ 1000000) (hr : openP s n = (s', 0, some (recs, size))) :
    Calls Tryz.prog 19 #[.pointer (some ⟨d, 0, none⟩), .string (bstr n)] w' fun e w2 => ∃ v l2, e = .returned (.tuple #[.pointer (some ⟨l2, 0, none⟩), v, .int .i64 0]) ∧ Own w2 w'.heap.size 9 1 Dk.encS v recs ∧ NewL B w w2 d l s' g := by
  obtain ⟨F, R, k1, k2, k3, k4, k5, k6, k7, k8, k9⟩ := h
  refine (open_any w' d s F R n k1 hn ho hb).mono fun e w2 hp => ?_
  rw [hr] at hp
  obtain ⟨v, F', R', he, hv, hg, hr1, hF, hR, hfr, -⟩ := hp
  have hlt := lt_of_block k6
  refine ⟨v, w'.heap.size, he, hv.mono (by omega), F', R', hr1, fun k q => (hF k q).elim (k2 k) fun z => by omega, fun k q => (hR k q).elim (k3 k) fun z => by omega, k4.trans (hfr.toBelow k5 k2), Nat.le_trans k5 hfr.size, (hfr.block l hlt k8).trans k6, k7, fun q => ?_, fun q => ?_⟩
  · rcases hF _ q with z | z
    · exact k8 z
    · omega
  · rcases hR _ q with z | z
    · exact k9 z
    · omega

/-- the frames of records, numbered from k on -/
def frames : Nat → List Hs.B → List Hs.B
  | _, [] => []
  | k, x :: l => frameB k x :: frames (k + 1) l
theorem frames_flat : ∀ (l : List Hs.B) (k : Nat), (frames k l).flatten = joinB k l
  | [], _ => rfl
  | x :: l, k => by rw [frames, List.flatten_cons, frames_flat l, joinB_cons]
theorem frames_snoc : ∀ (l : List Hs.B) (x : Hs.B) (k : Nat), frames k (l ++ [x]) = frames k l ++ [frameB (k + l.length) x]
  | [], x, k => by simp [frames]
  | y :: l, x, k => by
    rw [List.cons_append, frames, frames_snoc l x, frames, List.cons_append, List.length_cons]
    congr 4; omega
theorem frames_ne : ∀ (l : List Hs.B) (k : Nat), ∀ d ∈ frames k l, d ≠ []
  | [], k, d, h => by simp [frames] at h
  | x :: l, k, d, h => by
    rw [frames] at h
    rcases List.mem_cons.1 h with rfl | h
    · intro q
      have := frameB_len k x
      rw [q] at this; simp at this
    · exact frames_ne l (k + 1) d h
theorem frames_len : ∀ (l : List Hs.B) (k : Nat), (frames k l).length = l.length
  | [], _ => rfl
  | x :: l, k => by rw [frames, List.length_cons, frames_len l, List.length_cons]
/-- an append that succeeds -/
theorem one_lappend (cap : Int) (c : Hs.B) (l : List Hs.B) (k sz : Nat) (x : Hs.B) (hx : x.length ≤ 65536) (hk : k + l.length < 4096) (hc : ((c ++ joinB k l).length + (x.length + 8) : Nat) ≤ cap) :
    (⟨lg, k + l.length, sz, false⟩ : Lg).append (one cap c (frames k l)) x = (one cap c (frames k (l ++ [x])), ⟨lg, k + l.length + 1, sz + (x.length + 8), false⟩, 0) := by
  have h1 := one_append cap c (frames k l) (frameB (k + l.length) x) (frames_ne l k) (by rw [frames_flat, frameB_len]; exact hc)
  unfold Lg.append
  simp only [Bool.false_eq_true, if_false]
  rw [if_neg (by omega), h1, if_pos rfl, frameB_len, frames_snoc]
/-- a sync that succeeds -/
theorem one_lsync (cap : Int) (c : Hs.B) (l : List Hs.B) (k n sz : Nat) : (⟨lg, n, sz, false⟩ : Lg).sync (one cap c (frames k l)) = (one cap (c ++ joinB k l) [], ⟨lg, n, sz, false⟩, 0) := by
  unfold Lg.sync
  simp only [Bool.false_eq_true, if_false]
  rw [one_sync cap c (frames k l) (frames_ne l k), frames_flat]; rfl
end Go.Proofs.YtbfgkcgnhgfkmaaGreat.Wl

namespace Go.Proofs.YtbfgkcgnhgfkmaaGreat.Wl
open Go Go.RowKit Go.Proofs.YtbfgkcgnhgfkmaaGreat.Slc Go.Proofs.YtbfgkcgnhgfkmaaGreat.Hs
open Go.Proofs.YtbfgkcgnhgfkmaaGreat.Dk (Fr ptr bstr bstr_size bstr_list NextP RepP St NewP i64ok rdV new_rep new_any)
set_option linter.unusedVariables false
set_option linter.unusedSimpArgs false

def wa0 : St := one 1000 [] []
def wa1 : St := one 1000 [] (frames 0 [[97]])
def wa2 : St := one 1000 [] (frames 0 [[97], [98, 99]])
def wa3 : St := one 1000 (joinB 0 [[97], [98, 99]]) []
def wg0 : Lg := ⟨lg, 0, 0, false⟩
def wg1 : Lg := ⟨lg, 1, 9, false⟩
def wg2 : Lg := ⟨lg, 2, 19, false⟩
theorem wa_len : (joinB 0 [[97], [98, 99]]).length = 19 := by rw [joinB_cons, joinB_cons, joinB_nil, List.append_nil, List.length_append, frameB_len, frameB_len]; rfl
theorem wa_open0 : openP wa0 lg = (wa0, 0, some ([], 0)) := one_open 1000 [] (fun x h => by simp at h) (by simp)
theorem wa_read0 : (wa0.read lg).1.length ≤ 1000000 := by
  have := one_read 1000 []
  unfold wa0; rw [this]; simp
theorem wa_app0 : wg0.append wa0 [97] = (wa1, wg1, 0) := one_lappend 1000 [] [] 0 0 [97] (by simp) (by simp) (by simp [joinB])
theorem wa_app1 : wg1.append wa1 [98, 99] = (wa2, wg2, 0) := one_lappend 1000 [] [[97]] 0 9 [98, 99] (by simp) (by simp) (by simp [joinB, frameB_len])
theorem wa_sync : wg2.sync wa2 = (wa3, wg2, 0) := one_lsync 1000 [] [[97], [98, 99]] 0 2 19
theorem wa_open1 : openP wa3 lg = (wa3, 0, some ([[97], [98, 99]], 19)) := by
  have := one_open 1000 [[97], [98, 99]] (fun x h => by simp at h; rcases h with rfl | rfl <;> simp) (by simp)
  rw [wa_len] at this; exact this
theorem wa_read1 : (wa3.read lg).1.length ≤ 1000000 := by
  have := one_read 1000 (joinB 0 [[97], [98, 99]])
  unfold wa3; rw [this, wa_len]; omega

set_option maxHeartbeats 2000000 in
set_option maxRecDepth 10000 in
theorem wawake_any (w : World) : Calls Tryz.prog 5 #[] w fun e w' => e = .returned (.bool true) ∧ Below w.heap.size w w' := by
  have HN := Lib.hid (new_rep w 1000 (by omega))
  rw [new_one 1000 (by omega)] at HN
  have h10 := new_any 1000 w
  go_enter Tryz.func5, Tryz.ntmps5
  go_wp2_with fail
  go_at_call 7
  refine h10.mono ?_
  rintro e w0 ⟨rfl, hw0⟩
  rw [← hw0] at HN
  clear h10 hw0
  have HN : Hid (NewP w.heap.size w w0 w.heap.size wa0) := HN
  generalize hd : w.heap.size = d at *
  have HD := Lib.hid hd
  clear hd
  go_wp2_with fail
  go_at_call 19
  refine (NewP.open_ok HN.out lg [] 0 (by decide) (by decide) wa_read0 wa_open0).mono ?_
  rintro e w1 ⟨v, l, rfl, hv, h1⟩
  obtain ⟨va, vc, hvf, -⟩ := hv.rd.form
  subst hvf
  have HN1 : Hid (NewL d w w1 d l wa0 wg0) := Lib.hid h1
  clear hv h1
  go_wp2_with fail
  go_at_call 20
  refine (HN1.out.append [97] (by decide) (by decide) (by decide) (by decide) (by simp)).mono ?_
  rw [wa_app0]
  rintro e w2 ⟨rfl, h2⟩
  have HN2 : Hid (NewL d w w2 d l wa1 wg1) := Lib.hid h2
  clear h2
  go_wp2_with fail
  go_at_call 20
  refine (HN2.out.append [98, 99] (by decide) (by decide) (by decide) (by decide) (by simp)).mono ?_
  rw [wa_app1]
  rintro e w3 ⟨rfl, h3⟩
  have HN3 : Hid (NewL d w w3 d l wa2 wg2) := Lib.hid h3
  clear h3
  go_wp2_with fail
  go_at_call 21
  refine HN3.out.sync.mono ?_
  rw [wa_sync]
  rintro e w4 ⟨rfl, h4⟩
  have HN4 : Hid (NewL d w w4 d l wa3 wg2) := Lib.hid h4
  clear h4
  go_wp2_with fail
  go_at_call 19
  refine (NewL.open_ok HN4.out lg [[97], [98, 99]] 19 (by decide) (by decide) wa_read1 wa_open1).mono ?_
  rintro e w5 ⟨v, l2, rfl, hv, h5⟩
  obtain ⟨vb, vo, vc2, hvf, -, -, hcell⟩ := hv.rd.cells Dk.encS_ok (by simp)
  have hcl := hcell w5 (fun _ _ => rfl) 1 (by simp) 0 _ (by omega) rfl
  subst hvf
  have HN5 : Hid (NewL d w w5 d l wa3 wg2) := Lib.hid h5
  have r1 : (bstr [98, 99]).toList = [98, 99] := by rw [ByteArray.toList_eq, bstr_list]
  simp only [List.getElem_cons_succ, List.getElem_cons_zero, Nat.mul_one, Nat.add_zero] at hcl
  clear hv h5 hcell
  generalize bstr [98, 99] = X at *
  go_wp2_with fail
  go_at_call 11
  refine HN5.out.len.mono ?_
  rintro e w' ⟨rfl, rfl⟩
  go_wp2_with fail
  go_at_call 12
  refine HN5.out.sizeC.mono ?_
  rintro e w' ⟨rfl, rfl⟩
  have HBB := Lib.hid HN5.out.bel
  go_wp2
  go_ret
  exact ⟨rfl, by rw [HD.out]; exact HBB.out⟩
end Go.Proofs.YtbfgkcgnhgfkmaaGreat.Wl
