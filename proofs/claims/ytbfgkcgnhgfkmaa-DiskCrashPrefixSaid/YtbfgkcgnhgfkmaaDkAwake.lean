/-
  Disks that the call itself made; awake, short.
-/
import Derived.Test.YtbfgkcgnhgfkmaaDkAgree2
import Derived.Test.YtbfgkcgnhgfkmaaDkCopy
import Derived.Test.YtbfgkcgnhgfkmaaDkRCopy
namespace Go.Proofs.Ytbfgkcgnhgfkmaa.Dk
open Go Go.Maps Go.RowKit Go.Proofs.Ytbfgkcgnhgfkmaa.Slc
set_option linter.unusedVariables false
set_option linter.unusedSimpArgs false

/-- a disk that the call itself made -/
def NewP (B : Nat) (w w' : World) (d : Nat) (s : St) : Prop := ∃ F R, RepP w' d s F R ∧ (∀ k, F k → B ≤ k) ∧ (∀ k, R k → B ≤ k) ∧ Below B w w' ∧ B ≤ w'.heap.size
theorem NewP.ok {B : Nat} {w w' : World} {d : Nat} {s : St} (h : NewP B w w' d s) : s.Ok := by obtain ⟨F, R, h1, _⟩ := h; exact h1.ok
theorem NewP.bel {B : Nat} {w w' : World} {d : Nat} {s : St} (h : NewP B w w' d s) : Below B w w' := by obtain ⟨F, R, h1, _, _, h4, _⟩ := h; exact h4
theorem NewP.below {B : Nat} {w w' w2 : World} {d : Nat} {s : St} (h : NewP B w w' d s) (hb : Below w'.heap.size w' w2) : NewP B w w2 d s := by
  obtain ⟨F, R, h1, h2, h3, h4, h5⟩ := h
  exact ⟨F, R, h1.below hb, h2, h3, h4.trans (hb.mono h5), Nat.le_trans h5 hb.size⟩
theorem NewP.next {B : Nat} {w w' w2 : World} {d : Nat} {s' : St} {F R : Nat → Prop} (h2 : ∀ k, F k → B ≤ k) (h3 : ∀ k, R k → B ≤ k) (h4 : Below B w w') (h5 : B ≤ w'.heap.size) (h : NextP w' w2 d s' F R) : NewP B w w2 d s' := by
  obtain ⟨F', R', k1, k2, k3, k4⟩ := h
  exact ⟨F', R', k1, fun k q => (k2 k q).elim (h2 k) fun z => Nat.le_trans h5 z, fun k q => (k3 k q).elim (h3 k) fun z => Nat.le_trans h5 z, h4.trans (k4.toBelow h5 h2), Nat.le_trans h5 k4.size⟩
theorem new_rep (w : World) (cap : Int) (hc : cap ≤ 9223372036854775807) : NewP w.heap.size w (w.alloc (blk (max cap 0) (.map none) (.map none) (.slice none 0 0) false false 0)) w.heap.size (St.new cap) := by
  refine ⟨fun k => k = w.heap.size, fun _ => False, ⟨St.Ok.new cap hc, ⟨_, _, _, [], ⟨0, heap_alloc_new _ _, fun q => by simp [St.new] at q⟩, .inl ⟨rfl, rfl⟩, .inl ⟨rfl, rfl⟩, Own.nil _ _, trivial, (fun k q => by cases q)⟩, rfl, (fun k q => by subst q; simp), (fun k q => q.elim), (fun k _ q => q)⟩, (fun k q => by omega), (fun k q => q.elim), (Below.refl _ _).alloc (Nat.le_refl _) _, by simp⟩
theorem NewP.append {B : Nat} {w w' : World} {d : Nat} {s : St} (h : NewP B w w' d s) (n x : List UInt8) (hn : n.length ≤ 1000) (hx : x.length ≤ 1000000) (ho : s.ops.length ≤ 10000) :
    Calls Try.prog 21 #[.pointer (some ⟨d, 0, none⟩), .string (bstr n), .string (bstr x)] w' fun e w2 => e = .returned (.int .i64 (s.append n x).2) ∧ NewP B w w2 d (s.append n x).1 := by
  obtain ⟨F, R, h1, h2, h3, h4, h5⟩ := h
  exact (append_any w' d s F R n x h1 (by omega) (by omega) ho).mono fun e w2 ⟨he, hn⟩ => ⟨he, .next h2 h3 h4 h5 hn⟩
theorem NewP.rename {B : Nat} {w w' : World} {d : Nat} {s : St} (h : NewP B w w' d s) (n x : List UInt8) (hn : n.length ≤ 1000) (hx : x.length ≤ 1000) (ho : s.ops.length ≤ 10000) :
    Calls Try.prog 35 #[.pointer (some ⟨d, 0, none⟩), .string (bstr n), .string (bstr x)] w' fun e w2 => e = .returned (.int .i64 (s.rename n x).2) ∧ NewP B w w2 d (s.rename n x).1 := by
  obtain ⟨F, R, h1, h2, h3, h4, h5⟩ := h
  exact (rename_any w' d s F R n x h1 (by omega) hx ho).mono fun e w2 ⟨he, hn⟩ => ⟨he, .next h2 h3 h4 h5 hn⟩
theorem NewP.remove {B : Nat} {w w' : World} {d : Nat} {s : St} (h : NewP B w w' d s) (n : List UInt8) (hn : n.length ≤ 1000) (ho : s.ops.length ≤ 10000) :
    Calls Try.prog 36 #[.pointer (some ⟨d, 0, none⟩), .string (bstr n)] w' fun e w2 => e = .returned (.int .i64 (s.remove n).2) ∧ NewP B w w2 d (s.remove n).1 := by
  obtain ⟨F, R, h1, h2, h3, h4, h5⟩ := h
  exact (remove_any w' d s F R n h1 (by omega) ho).mono fun e w2 ⟨he, hn⟩ => ⟨he, .next h2 h3 h4 h5 hn⟩
theorem NewP.sync {B : Nat} {w w' : World} {d : Nat} {s : St} (h : NewP B w w' d s) :
    Calls Try.prog 22 #[.pointer (some ⟨d, 0, none⟩)] w' fun e w2 => e = .returned (.int .i64 s.sync.2) ∧ NewP B w w2 d s.sync.1 := by
  obtain ⟨F, R, h1, h2, h3, h4, h5⟩ := h
  exact (sync_any w' d s F R h1).mono fun e w2 ⟨he, hn⟩ => ⟨he, .next h2 h3 h4 h5 hn⟩
theorem NewP.crash {B : Nat} {w w' : World} {d : Nat} {s : St} (h : NewP B w w' d s) (k b : Int) (ho : s.ops.length ≤ 10000) (hk : i64ok k) (hb : i64ok b) :
    Calls Try.prog 24 #[.pointer (some ⟨d, 0, none⟩), .int .i64 k, .int .i64 b] w' fun e w2 => e = .returned (.tuple #[]) ∧ NewP B w w2 d (s.crash k b) := by
  obtain ⟨F, R, h1, h2, h3, h4, h5⟩ := h
  exact (crash_any w' d s F R k b h1 ho hk.1 hk.2 hb.1 hb.2).mono fun e w2 ⟨he, hn⟩ => ⟨he, .next h2 h3 h4 h5 hn⟩
theorem NewP.fuse {B : Nat} {w w' : World} {d : Nat} {s : St} (h : NewP B w w' d s) (n : Int) (hn : i64ok n) :
    Calls Try.prog 30 #[.pointer (some ⟨d, 0, none⟩), .int .i64 n] w' fun e w2 => e = .returned (.tuple #[]) ∧ NewP B w w2 d (s.fuse n) := by
  obtain ⟨F, R, h1, h2, h3, h4, h5⟩ := h
  exact (fuse_any w' d s F R n h1 hn.1 hn.2).mono fun e w2 ⟨he, hn⟩ => ⟨he, .next h2 h3 h4 h5 hn⟩
theorem NewP.read {B : Nat} {w w' : World} {d : Nat} {s : St} (h : NewP B w w' d s) (n : List UInt8) (hn : n.length ≤ 1000) :
    Calls Try.prog 25 #[.pointer (some ⟨d, 0, none⟩), .string (bstr n)] w' fun e w2 => e = .returned (rdV (s.read n)) ∧ w' = w2 := by
  obtain ⟨F, R, h1, h2, h3, h4, h5⟩ := h
  exact read_any w' d s F R n h1 hn
theorem NewP.names {B : Nat} {w w' : World} {d : Nat} {s : St} (h : NewP B w w' d s) :
    Calls Try.prog 39 #[.pointer (some ⟨d, 0, none⟩)] w' fun e w2 => ∃ v, e = .returned v ∧ Own w2 w'.heap.size 9 1 encS v s.nms ∧ Below w'.heap.size w' w2 := by
  obtain ⟨F, R, h1, h2, h3, h4, h5⟩ := h
  exact names_any w' d s F R h1
theorem NewP.pend {B : Nat} {w w' : World} {d : Nat} {s : St} (h : NewP B w w' d s) :
    Calls Try.prog 33 #[.pointer (some ⟨d, 0, none⟩)] w' fun e w2 => e = .returned (.int .i64 (s.ops.length : Int)) ∧ w' = w2 := by
  obtain ⟨F, R, h1, h2, h3, h4, h5⟩ := h
  obtain ⟨dv, fv, pv, cs, ⟨fuse, hblk, -⟩, -, -, hpv, hcs, -⟩ := h1.body
  obtain ⟨pa, pc, hpf, -⟩ := hpv.rd.form
  subst hpf
  have := pending_any d w' _ _ _ _ _ _ _ _ _ hblk
  rwa [Cvs.length hcs] at this

/-- the example's states -/
def aw0 : St := St.new 10
def aw1 : St := (aw0.append [97] [120, 121]).1
def aw2 : St := aw1.sync.1
def aw3 : St := (aw2.append [97] [122]).1
def aw4 : St := (aw3.append [98] [49, 50, 51, 52, 53]).1
def aw5 : St := aw4.crash 1 3
theorem aw_a : (aw0.append [97] [120, 121]).2 = 0 := by decide
theorem aw_s : aw1.sync.2 = 0 := by decide
theorem aw_n : aw4.ops.length = 2 := by decide
theorem aw_x : aw5.read [97] = ([120, 121, 122], 0) := by decide
theorem aw_y : aw5.read [98] = ([49, 50, 51], 0) := by decide
theorem aw_l : aw5.nms.length = 2 := by decide
theorem aw_o : aw0.ops.length ≤ 10000 ∧ aw2.ops.length ≤ 10000 ∧ aw3.ops.length ≤ 10000 ∧ aw4.ops.length ≤ 10000 := by decide
set_option maxHeartbeats 2000000 in
set_option maxRecDepth 10000 in
theorem awake_any (w : World) : Calls Try.prog 19 #[] w fun e w' => e = .returned (.bool true) ∧ Below w.heap.size w w' := by
  have HN := Lib.hid (new_rep w 10 (by omega))
  have HO := Lib.hid aw_o
  have h10 := new_any 10 w
  go_enter Try.func19, Try.ntmps19
  go_wp2_with fail
  go_at_call 20
  refine h10.mono ?_
  rintro e w0 ⟨rfl, hw0⟩
  rw [← hw0] at HN
  clear h10 hw0
  have HN : Hid (NewP w.heap.size w w0 w.heap.size aw0) := HN
  generalize hd : w.heap.size = d at *
  have HD := Lib.hid hd
  clear hd
  go_wp2_with fail
  go_at_call 21
  refine (HN.out.append [97] [120, 121] (by simp) (by simp) HO.out.1).mono ?_
  rw [aw_a]
  rintro e w1 ⟨rfl, h1⟩
  have HN1 : Hid (NewP d w w1 d aw1) := Lib.hid h1
  clear h1
  go_wp2_with fail
  go_at_call 22
  refine HN1.out.sync.mono ?_
  rw [aw_s]
  rintro e w2 ⟨rfl, h2⟩
  have HN2 : Hid (NewP d w w2 d aw2) := Lib.hid h2
  clear h2
  go_wp2_with fail
  go_at_call 21
  refine (HN2.out.append [97] [122] (by simp) (by simp) HO.out.2.1).mono ?_
  rintro e w3 ⟨rfl, h3⟩
  have HN3 : Hid (NewP d w w3 d aw3) := Lib.hid h3
  clear h3
  generalize (aw2.append [97] [122]).2 = e3 at *
  go_wp2_with fail
  go_at_call 21
  refine (HN3.out.append [98] [49, 50, 51, 52, 53] (by simp) (by simp) HO.out.2.2.1).mono ?_
  rintro e w4 ⟨rfl, h4⟩
  have HN4 : Hid (NewP d w w4 d aw4) := Lib.hid h4
  clear h4
  generalize (aw3.append [98] [49, 50, 51, 52, 53]).2 = e4 at *
  go_wp2_with fail
  go_at_call 33
  refine HN4.out.pend.mono ?_
  rw [aw_n]
  rintro e w' ⟨rfl, rfl⟩
  go_wp2_with fail
  go_at_call 24
  refine (HN4.out.crash 1 3 HO.out.2.2.2 ⟨by omega, by omega⟩ ⟨by omega, by omega⟩).mono ?_
  rintro e w5 ⟨rfl, h5⟩
  have HN5 : Hid (NewP d w w5 d aw5) := Lib.hid h5
  clear h5
  go_wp2_with fail
  go_at_call 25
  refine (HN5.out.read [97] (by simp)).mono ?_
  rw [aw_x]
  rintro e w' ⟨rfl, rfl⟩
  simp only [rdV]
  go_wp2_with fail
  go_at_call 25
  refine (HN5.out.read [98] (by simp)).mono ?_
  rw [aw_y]
  rintro e w' ⟨rfl, rfl⟩
  simp only [rdV]
  have r1 : (bstr [120, 121, 122]).toList = [120, 121, 122] := by rw [ByteArray.toList_eq, bstr_list]
  have r2 : (bstr [49, 50, 51]).toList = [49, 50, 51] := by rw [ByteArray.toList_eq, bstr_list]
  generalize bstr [120, 121, 122] = X at *
  generalize bstr [49, 50, 51] = Y at *
  go_wp2_with fail
  go_at_call 39
  refine HN5.out.names.mono ?_
  rintro e w6 ⟨v, rfl, hv, hb⟩
  obtain ⟨va, vc, hvf, -⟩ := hv.rd.form
  rw [aw_l] at hvf
  subst hvf
  have HBB := Lib.hid (HN5.out.below hb).bel
  clear hv hb
  go_wp2
  go_ret
  exact ⟨rfl, by rw [HD.out]; exact HBB.out⟩

end Go.Proofs.Ytbfgkcgnhgfkmaa.Dk
