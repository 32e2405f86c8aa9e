/-
  The reference's OpenLog.
-/
import Derived.Test.YtbfgkcgnhgfkmaaGreatWlR
import Derived.Test.YtbfgkcgnhgfkmaaGreatDkROpsB
namespace Go.Proofs.YtbfgkcgnhgfkmaaGreat.Wl
open Go Go.RowKit Go.Proofs.YtbfgkcgnhgfkmaaGreat.Slc Go.Proofs.YtbfgkcgnhgfkmaaGreat.Hs
open Go.Proofs.YtbfgkcgnhgfkmaaGreat.Dk (Fr ptr bstr bstr_size bstr_list RepR NextR St rappend_any rsync_any rrename_any rremove_any rread_any rdV okName)
set_option linter.unusedVariables false
set_option linter.unusedSimpArgs false

theorem nextRTrans {w w1 w2 : World} {d : Nat} {s2 : St} {F R F1 R1 : Nat → Prop} (h2 : ∀ k, F1 k → F k ∨ w.heap.size ≤ k) (h3 : ∀ k, R1 k → R k ∨ w.heap.size ≤ k) (h4 : Fr F w w1) (hn : NextR w1 w2 d s2 F1 R1) : NextR w w2 d s2 F R := by
  obtain ⟨F2, R2, k1, k2, k3, k4⟩ := hn
  refine ⟨F2, R2, k1, fun k q => ?_, fun k q => ?_, h4.trans k4 fun k q => h2 k q⟩
  · rcases k2 k q with y | y
    · exact h2 k y
    · exact .inr (Nat.le_trans h4.size y)
  · rcases k3 k q with y | y
    · exact h3 k y
    · exact .inr (Nat.le_trans h4.size y)
theorem NextR.on {w w1 : World} {d : Nat} {s1 s2 : St} {F R : Nat → Prop} {f : FuncId} {args : Array Value} {Post : Ending → Prop} (h : NextR w w1 d s1 F R)
    (hc : ∀ F' R', RepR w1 d s1 F' R' → Calls Tryz.prog f args w1 fun e w2 => Post e ∧ NextR w1 w2 d s2 F' R') : Calls Tryz.prog f args w1 fun e w2 => Post e ∧ NextR w w2 d s2 F R := by
  obtain ⟨F1, R1, h1, h2, h3, h4⟩ := h
  exact (hc F1 R1 h1).mono fun e w2 ⟨he, hn⟩ => ⟨he, nextRTrans h2 h3 h4 hn⟩
theorem NextR.below {w w1 w' : World} {d : Nat} {s' : St} {F R : Nat → Prop} (h : NextR w w1 d s' F R) (hb : Below w1.heap.size w1 w') : NextR w w' d s' F R := by
  obtain ⟨F1, R1, h1, h2, h3, h4⟩ := h
  exact ⟨F1, R1, h1.below hb, h2, h3, h4.trans (Fr.below (F := fun _ => False) hb) fun k q => q.elim⟩
theorem append_wt2 (s : St) (n x : B) : (s.append n x).1.wt ≤ s.wt + x.length ∧ (s.append n x).1.ops.length ≤ s.ops.length + 1 := by
  refine ⟨?_, Dk.ops_append s n x⟩
  unfold Dk.St.append
  split; · simp only; omega
  split; · simp only; omega
  split; · simp only; omega
  simp only [Dk.add_wt, Dk.Ch.w]; omega
theorem rename_wt (s : St) (n x : B) : (s.rename n x).1.wt ≤ s.wt ∧ (s.rename n x).1.ops.length ≤ s.ops.length + 1 := by
  refine ⟨?_, Dk.ops_rename s n x⟩
  unfold Dk.St.rename
  split; · simp only; omega
  split; · simp only; omega
  split; · simp only; omega
  simp only [Dk.add_wt, Dk.Ch.w]; omega
theorem remove_wt (s : St) (n : B) : (s.remove n).1.wt ≤ s.wt ∧ (s.remove n).1.ops.length ≤ s.ops.length + 1 := by
  refine ⟨?_, Dk.ops_remove s n⟩
  unfold Dk.St.remove
  split; · simp only; omega
  split; · simp only; omega
  split; · simp only; omega
  simp only [Dk.add_wt, Dk.Ch.w]; omega
theorem read_wt (s : St) (n : B) : (s.read n).1.length ≤ s.wt := by
  have h1 := Dk.files_wt s
  have h2 := Dk.get_len_le s.files n
  unfold Dk.St.read
  split
  · simp
  · split
    · simp
    · split
      · rename_i dd hx; rw [hx] at h2; simp at h2 ⊢; omega
      · simp
theorem okName_sfx (n : B) (h : okName n = true) (hl : n.length ≤ 28) : okName (n ++ sfx) = true := by
  rw [Dk.okName_eq, Bool.and_eq_true, Bool.and_eq_true, decide_eq_true_eq, decide_eq_true_eq] at h
  rw [Dk.okName_eq, List.all_append, h.2, Bool.true_and, decide_eq_true (by rw [List.length_append]; omega), decide_eq_true (by rw [List.length_append]; simp [sfx]; omega)]
  rfl
theorem scan_le : ∀ (m : Nat) (b : B) (out : List B) (at_ : Nat), b.length - at_ ≤ m → at_ ≤ b.length → ∀ r, scanA b out at_ = some r → r.1.length ≤ out.length + (b.length - at_) ∧ r.2 ≤ b.length := by
  intro m
  induction m with
  | zero =>
    intro b out at_ h ha r hr
    rw [scan_end b out at_ (by omega)] at hr
    cases hr; simp only; omega
  | succ m ih =>
    intro b out at_ h ha r hr
    by_cases h1 : b.length < at_ + 4
    · rw [scan_end b out at_ h1] at hr; cases hr; simp only; omega
    · by_cases h2 : 65536 < num4 b at_
      · rw [scan_big b out at_ h1 h2] at hr; cases hr
      · by_cases h3 : b.length < at_ + (8 + num4 b at_)
        · rw [scan_part b out at_ h1 h2 h3] at hr; cases hr; simp only; omega
        · by_cases h4 : rec_ b at_ = frameB out.length (dat b at_) ∧ out.length ≠ 4096
          · rw [scan_next b out at_ h1 h2 h3 h4.1 h4.2] at hr
            have := ih b _ _ (by omega) (by omega) r hr
            rw [List.length_append] at this
            simp only [List.length_cons, List.length_nil] at this
            omega
          · rw [scan_bad b out at_ h1 h2 h3 (by by_cases q : rec_ b at_ = frameB out.length (dat b at_); exact .inr (by by_cases q2 : out.length = 4096; exact q2; exact absurd ⟨q, q2⟩ h4); exact .inl q)] at hr
            cases hr
theorem scanB_le (b : B) (r : List B × Nat) (h : scanB b = some r) : r.1.length ≤ b.length ∧ r.2 ≤ b.length := by
  have := scan_le b.length b [] 0 (by omega) (by omega) r h
  simp at this; omega
def finS (st : St) (recs : List B) (size : Nat) : St × Int × Option (List B × Nat) := if st.sync.2 = 0 then (st.sync.1, 0, some (recs, size)) else (st.sync.1, st.sync.2, none)
def onOk (E : Int) (st : St) (x : St × Int × Option (List B × Nat)) : St × Int × Option (List B × Nat) := if E = 0 then x else (st, E, none)
/-- the reference's log -/
def rlblk (g : Lg) (r : Nat) : Obj := .cells #[ptr r, .string (bstr g.name), .int .i64 (g.n : Int), .int .i64 (g.size : Int), .bool g.dead] 41 (0, 0)
/-- what OpenLog leaves -/
def ROpPost (w : World) (d : Nat) (n : B) (r : St × Int × Option (List B × Nat)) (F R : Nat → Prop) (e : Ending) (w' : World) : Prop :=
  match r.2.2 with
  | none => e = .returned (.tuple #[.pointer none, .slice none 0 0, .int .i64 r.2.1]) ∧ NextR w w' d r.1 F R
  | some q => ∃ v l F' R', e = .returned (.tuple #[ptr l, v, .int .i64 r.2.1]) ∧ Own w' w.heap.size 9 1 Dk.encS v q.1 ∧ w.heap.size ≤ l ∧ w'.heap[l]? = some (rlblk ⟨n, q.1.length, q.2, false⟩ d) ∧ RepR w' d r.1 F' R' ∧ (∀ k, F' k → F k ∨ w.heap.size ≤ k) ∧ (∀ k, R' k → R k ∨ w.heap.size ≤ k) ∧ Fr F w w' ∧ ¬ F' l ∧ ¬ R' l
theorem ROpPost.none {w w' : World} {d : Nat} {n : B} {r : St × Int × Option (List B × Nat)} {F R : Nat → Prop} {s' : St} {x : Int} (hr : r = (s', x, .none)) (h : NextR w w' d s' F R) : ROpPost w d n r F R (.returned (.tuple #[.pointer .none, .slice .none 0 0, .int .i64 x])) w' := by
  subst hr; exact ⟨rfl, h⟩
theorem ROpPost.fin {w w2 w4 : World} {d : Nat} {n : B} {r : St × Int × Option (List B × Nat)} {F R : Nat → Prop} {s s' : St} {recs : List B} {size : Nat} {v : Value} (hr : r = (s', 0, some (recs, size))) (h0 : RepR w d s F R)
    (h12 : Below w.heap.size w w2) (hv : Own w2 w.heap.size 9 1 Dk.encS v recs) (h : NextR w2 w4 d s' F R) :
    ROpPost w d n r F R (.returned (.tuple #[ptr w4.heap.size, v, .int .i64 0])) (w4.alloc (rlblk ⟨n, recs.length, size, false⟩ d)) := by
  subst hr
  have hz2 := h12.size
  obtain ⟨F', R', k1, k2, k3, k4⟩ := h
  have hz4 := k4.size
  have hvb := fun k hk => World.ownsRow.lt hv k hk
  have hb5 : Below w4.heap.size w4 (w4.alloc (rlblk ⟨n, recs.length, size, false⟩ d)) := (Below.refl _ _).alloc (Nat.le_refl _) _
  refine ⟨v, w4.heap.size, F', R', rfl, ?_, by omega, heap_alloc_new _ _, k1.below hb5, fun k q => (k2 k q).imp id fun z => by omega, fun k q => (k3 k q).imp id fun z => by omega, ?_, fun q => ?_, fun q => ?_⟩
  · have h4 : Own w4 w.heap.size 9 1 Dk.encS v recs := hv.keep fun k hk hlt => k4.block k hlt fun e => by have := (hvb k hk).1; have := h0.Flt _ e; omega
    exact h4.below hb5
  · exact ((Fr.below (F := F) h12).trans k4 fun k q => .inl q).trans (Fr.below (F := fun _ => False) hb5) fun k q => q.elim
  · have := k1.Flt _ q; omega
  · have := k1.Rlt _ q; omega

set_option maxRecDepth 10000 in
set_option maxHeartbeats 4000000 in
theorem ropen_any (w : World) (d : Nat) (s : St) (F R : Nat → Prop) (n : B) (h : RepR w d s F R) (hn : n.length ≤ 900) (ho : s.ops.length ≤ 900) (hwt : s.wt ≤ 1000000) :
    Calls Tryz.prog 22 #[ptr d, .string (bstr n)] w (ROpPost w d n (openP s n) F R) := by
  obtain ⟨RS, hRS⟩ : ∃ r, r = openP s n := ⟨_, rfl⟩
  rw [← hRS]
  have hRS' := hRS
  unfold openP at hRS'
  obtain ⟨fv, ov, hdr, -⟩ := h.body
  obtain ⟨-, -, -, -, c4, -⟩ := Dk.rblk_cells hdr
  have H0 := Lib.hid h
  have hvd := Dk.rvalid_any n w (by omega)
  have hrd := rread_any w d s F R n h (by omega) (by omega) (by omega)
  have hbl := read_wt s n
  have hro : s.off = true → s.read n = ([], 25) := fun q => by unfold Dk.St.read; rw [q]; rfl
  have hrn : s.off = false → okName n = false → s.read n = ([], 14) := fun q q2 => by unfold Dk.St.read; rw [q, q2]; rfl
  have hrg : s.off = false → okName n = true → (s.read n).2 = 0 ∨ (s.read n).2 = 23 := fun q q2 => by
    unfold Dk.St.read; rw [q, q2]
    simp only [Bool.false_eq_true, if_false, Bool.not_true]
    split
    · exact .inl rfl
    · exact .inr rfl
  have hln : (bstr n).size = n.length := bstr_size n
  have hA1 := cat_sfx n (by omega)
  have HRS := Bx.mk hRS'
  have HVD := Lib.hid hvd
  have HSX := Lib.hid (fun q => okName_sfx n q)
  clear hRS hRS' h hdr hvd
  generalize hNN : bstr n = N at *
  have HN := Bx.mk hNN
  clear hNN
  unfold ptr
  cases hoff : s.off with
  | true =>
    have HR := Bx.mk (show RS = (s, 25, none) by rw [HRS.out, hro hoff]; rfl)
    rw [hoff] at c4
    clear hro hrn hrg hrd hbl hoff
    go_enter Tryz.func22, Tryz.ntmps22
    go_wp2_with fail
    go_ret3
    exact ROpPost.none HR.out (Dk.NextR.same H0.out (Below.refl _ _))
  | false =>
    rw [hoff] at c4
    have HOFF := Bx.mk hoff
    cases hok : okName n with
    | false =>
      have HR := Bx.mk (show RS = (s, 14, none) by rw [HRS.out, hrn hoff hok]; rfl)
      rw [hok] at HVD
      clear hro hrn hrg hrd hbl hoff hok
      go_enter Tryz.func22, Tryz.ntmps22
      go_wp2_with fail
      go_at_call 37
      refine HVD.out.mono ?_
      rintro e w' ⟨rfl, rfl⟩
      go_wp2_with fail
      go_ret3
      exact ROpPost.none HR.out (Dk.NextR.same H0.out (Below.refl _ _))
    | true =>
      rw [hok] at HVD
      have hg := hrg hoff hok
      by_cases q28 : 28 < n.length
      · have t1 : decide ((n.length : Int) > 28) = true := by rw [decide_eq_true_eq]; omega
        have HR := Bx.mk (show RS = (s, 14, none) by rw [HRS.out, if_neg (by omega), if_pos q28])
        clear hro hrn hrg hrd hbl hoff hok q28 hg
        go_enter Tryz.func22, Tryz.ntmps22
        go_wp2_with fail
        go_at_call 37
        refine HVD.out.mono ?_
        rintro e w' ⟨rfl, rfl⟩
        go_wp2_with fail
        go_ret3
        exact ROpPost.none HR.out (Dk.NextR.same H0.out (Below.refl _ _))
      · have t1 : decide ((n.length : Int) > 28) = false := by rw [decide_eq_false_iff_not]; omega
        have hr2 : RS = openS s n (s.read n).1 := by rw [HRS.out, if_neg (by omega), if_neg q28]
        have HOKS := Bx.mk (HSX.out hok (by omega))
        clear hro hrn hrg hoff hok q28 hg HSX
        generalize s.read n = P at *
        obtain ⟨b, E⟩ := P
        simp only at hr2 hbl
        unfold rdV at hrd
        have hlb : (bstr b).size = b.length := bstr_size b
        have HTK := Lib.hid (fun k hk => take_b b k hk)
        have HRD := Lib.hid hrd
        have HSC := Lib.hid (fun W => rscan_any b W (by omega))
        have hscl := fun r q => scanB_le b r q
        simp only at HRD
        unfold openS at hr2
        clear hrd
        generalize hBS : bstr b = BS at *
        have HBS := Bx.mk hBS
        clear hBS
        cases hsb : scanB b with
        | none =>
          rw [hsb] at hr2 HSC
          have HR := Bx.mk (show RS = (s, 27, none) from hr2)
          clear hr2 hsb hscl
          go_enter Tryz.func22, Tryz.ntmps22
          go_wp2_with fail
          go_at_call 37
          refine HVD.out.mono ?_
          rintro e w' ⟨rfl, rfl⟩
          go_wp2_with fail
          go_at_call 18
          refine HRD.out.mono ?_
          rintro e w1 ⟨rfl, hb1⟩
          have HB1 := Lib.hid hb1
          clear hb1
          go_wp2_with fail
          go_at_call 48
          refine (HSC.out _).mono ?_
          rintro e w2 ⟨rfl, hb2⟩
          have HB2 := Lib.hid (HB1.out.trans (hb2.mono HB1.out.size))
          clear hb2
          go_wp2_with fail
          go_ret3
          exact ROpPost.none HR.out (Dk.NextR.same H0.out HB2.out)
        | some q =>
          obtain ⟨recs, size⟩ := q
          have hsz := (hscl _ hsb)
          simp only at hsz
          rw [hsb] at hr2 HSC
          have HR := Bx.mk (show RS = openR s n b size recs from hr2)
          clear hr2 hsb hscl
          go_enter Tryz.func22, Tryz.ntmps22
          go_wp2_with fail
          go_at_call 37
          refine HVD.out.mono ?_
          rintro e w' ⟨rfl, rfl⟩
          go_wp2_with fail
          go_at_call 18
          refine HRD.out.mono ?_
          rintro e w1 ⟨rfl, hb1⟩
          have HB1 := Lib.hid hb1
          clear hb1 c4
          go_wp2_with fail
          go_at_call 48
          refine (HSC.out _).mono ?_
          rintro e w2 ⟨v, rfl, hown, hb2⟩
          obtain ⟨av, cv, hfv, -⟩ := hown.rd.form
          subst hfv
          have HB2 := Lib.hid (HB1.out.trans (hb2.mono HB1.out.size))
          have HOWN := Lib.hid (hown.mono HB1.out.size)
          have hrd2 := rread_any w2 d s F R (n ++ sfx) (H0.out.below HB2.out) (by simp [sfx]; omega) (by omega) (by omega)
          have hr20 : Dk.has s.files (n ++ sfx) = true → (s.read (n ++ sfx)).2 = 0 := fun q => by
            unfold Dk.St.read
            rw [HOFF.out, HOKS.out]
            simp only [Bool.false_eq_true, if_false, Bool.not_true]
            obtain ⟨dd, hdd⟩ := Option.isSome_iff_exists.1 q
            rw [hdd]
          have hr21 : ¬ Dk.has s.files (n ++ sfx) = true → (s.read (n ++ sfx)).2 = 23 := fun q => by
            unfold Dk.St.read
            rw [HOFF.out, HOKS.out]
            simp only [Bool.false_eq_true, if_false, Bool.not_true]
            cases hdd : Dk.get s.files (n ++ sfx) with
            | none => rfl
            | some dd => exact absurd (by unfold Dk.has; rw [hdd]; rfl) q
          generalize s.read (n ++ sfx) = P2 at *
          obtain ⟨b2, E2⟩ := P2
          unfold rdV at hrd2
          simp only at hrd2 hr20 hr21
          have HNS := Lib.hid (show (n ++ sfx).length ≤ 1000 by simp [sfx]; omega)
          generalize hnsf : bstr (n ++ sfx) = NS at *
          have HNSF := Bx.mk hnsf
          have HRD2 := Lib.hid hrd2
          generalize bstr b2 = B2 at *
          clear hown hb2 hrd2 hnsf
          go_wp2_with fail
          go_at_call 18
          refine HRD2.out.mono ?_
          rintro e w3 ⟨rfl, hb3⟩
          have HB3 := Lib.hid hb3
          clear hb3
          go_upto_if 49 with fail
          go_cut [11] (fun s11 wd => ∃ st E, s11 = .int .i64 E ∧ NextR w2 wd d st F R ∧ RS = onOk E st (openT st n b size recs) ∧ st.ops.length ≤ 901 ∧ st.wt ≤ s.wt)
          case first =>
            by_cases hhas : Dk.has s.files (n ++ sfx) = true
            · have hE := hr20 hhas
              have t3 : (E2 == 0) = true := by rw [hE]; rfl
              have hrm := rremove_any w3 d s F R (n ++ sfx) ((H0.out.below HB2.out).below HB3.out) HNS.out (by omega) (by omega)
              have hwt2 := remove_wt s (n ++ sfx)
              have hr3 : RS = if (s.remove (n ++ sfx)).2 = 0 then openT (s.remove (n ++ sfx)).1 n b size recs else ((s.remove (n ++ sfx)).1, (s.remove (n ++ sfx)).2, none) := by
                rw [HR.out]; unfold openR; rw [if_pos hhas]
              rw [HNSF.out] at hrm
              generalize s.remove (n ++ sfx) = X at *
              have HRM := Lib.hid hrm
              have HR4 := Bx.mk hr3
              have HWT := Lib.hid hwt2
              clear hrm hr3 hhas hwt2 hr20 hr21 hE
              go_wp2_with fail
              go_at_call 49
              refine HRM.out.mono ?_
              rintro e w5 ⟨rfl, hn5⟩
              have HN5 := Lib.hid (Dk.NextR.of_below HB3.out hn5)
              clear hn5
              go_wp2_with fail
              go_meet
              exact ⟨X.1, X.2, rfl, HN5.out, by unfold onOk; exact HR4.out, by have := HWT.out.2; omega, HWT.out.1⟩
            · have hE := hr21 hhas
              have t3 : (E2 == 0) = false := by rw [hE]; rfl
              have HR5 := Bx.mk (show RS = openT s n b size recs by rw [HR.out]; unfold openR; rw [if_neg hhas])
              clear hhas hr20 hr21 hE
              go_wp2_with fail
              go_meet
              exact ⟨s, 0, rfl, Dk.NextR.same (H0.out.below HB2.out) HB3.out, by unfold onOk; rw [if_pos rfl]; exact HR5.out, by omega, Nat.le_refl _⟩
          case rest =>
            obtain ⟨st, E3, rfl, hnx, hrs, hops, hwts⟩ := hcut
            have HNX := Lib.hid hnx
            have HR3 := Bx.mk hrs
            have HOP := Lib.hid hops
            have HWT := Lib.hid hwts
            clear hnx hrs hops hwts hr20 hr21
            obtain ⟨wz, hwz⟩ : ∃ W, W = wc := ⟨_, rfl⟩
            obtain ⟨TB, hTB⟩ : ∃ q : Bool, q = ((E3 == 0) && decide (size < b.length)) := ⟨_, rfl⟩
            have HTB := Bx.mk hTB
            have HWZ := Bx.mk hwz
            clear hTB hwz
            go_upto_region 12 with fail
            go_cut [61] (fun s61 wx => s61 = .bool TB ∧ wx = wz)
            case first =>
              by_cases hE : E3 = 0
              · have t3 : (E3 == 0) = true := by rw [hE]; rfl
                have HT := Bx.mk (show TB = decide (size < b.length) by rw [HTB.out, t3, Bool.true_and])
                by_cases hlt : size < b.length
                · have t4 : decide ((size : Int) < (b.length : Int)) = true := by rw [decide_eq_true_eq]; omega
                  have HT2 := Bx.mk (show TB = true by rw [HT.out, decide_eq_true hlt])
                  clear hE
                  go_wp2_with fail
                  go_meet
                  exact ⟨by rw [HT2.out], HWZ.out.symm⟩
                · have t4 : decide ((size : Int) < (b.length : Int)) = false := by rw [decide_eq_false_iff_not]; omega
                  have HT2 := Bx.mk (show TB = false by rw [HT.out, decide_eq_false hlt])
                  clear hE
                  go_wp2_with fail
                  go_meet
                  exact ⟨by rw [HT2.out], HWZ.out.symm⟩
              · have t3 : (E3 == 0) = false := by rw [beq_eq_false_iff_ne]; exact hE
                have HT2 := Bx.mk (show TB = false by rw [HTB.out, t3, Bool.false_and])
                clear hE
                go_wp2_with fail
                go_meet
                exact ⟨by rw [HT2.out], HWZ.out.symm⟩
            case rest =>
            obtain ⟨rfl, hwx⟩ := hcut
            have hw2 : wc = _ := hwx.trans HWZ.out
            subst hw2
            clear hwx
            go_upto_if 61 with fail
            go_cut [11] (fun s11 we => ∃ st2 E4, s11 = .int .i64 E4 ∧ NextR w2 we d st2 F R ∧ RS = onOk E4 st2 (finS st2 recs size) ∧ st2.ops.length ≤ 904 ∧ st2.wt ≤ s.wt + b.length)
            case first =>
              by_cases hE : E3 = 0
              · subst hE
                have hrs := HR3.out
                unfold onOk at hrs
                rw [if_pos rfl] at hrs
                by_cases hlt : size < b.length
                · obtain rfl : TB = true := by rw [HTB.out, decide_eq_true hlt]; rfl
                  have s1 := HTK.out size (by omega)
                  unfold openT at hrs
                  rw [if_pos hlt] at hrs
                  unfold replace at hrs
                  have hw1 := append_wt2 st (n ++ sfx) (b.take size)
                  have htl : (b.take size).length ≤ b.length := by rw [List.length_take]; omega
                  have hap := NextR.on HNX.out (s2 := (st.append (n ++ sfx) (b.take size)).1) (Post := fun e => e = .returned (.int .i64 (st.append (n ++ sfx) (b.take size)).2)) fun F' R' hr => rappend_any wc d st F' R' (n ++ sfx) (b.take size) hr (by have := HNS.out; omega) (by omega) hr.ok.cap1 (by have := HOP.out; omega) (by have := HWT.out; omega)
                  rw [HNSF.out] at hap
                  generalize bstr (b.take size) = TS at *
                  generalize st.append (n ++ sfx) (b.take size) = A at *
                  have HAP := Lib.hid hap
                  have HRS2 := Bx.mk hrs
                  have HW1 := Lib.hid (show A.1.ops.length ≤ 902 ∧ A.1.wt ≤ s.wt + b.length from ⟨by have := HOP.out; omega, by have := HWT.out; omega⟩)
                  unfold ptr at HAP
                  clear hap hrs hw1 htl
                  go_wp2_with fail
                  go_at_call 50
                  refine HAP.out.mono ?_
                  rintro e w5 ⟨rfl, hn5⟩
                  have HN5 := Lib.hid hn5
                  clear hn5
                  by_cases hq1 : A.2 = 0
                  · have t4 : (A.2 == 0) = true := by rw [hq1]; rfl
                    have hw2 := Dk.sync_wt A.1
                    have hsy := NextR.on HN5.out (s2 := A.1.sync.1) (Post := fun e => e = .returned (.int .i64 A.1.sync.2)) fun F' R' hr => rsync_any w5 d A.1 F' R' hr (by have := HW1.out; omega) (by have := HW1.out; omega)
                    generalize hY : A.1.sync = Y at *
                    have HY := Bx.mk hY
                    have HSY := Lib.hid hsy
                    have HW2 := Lib.hid (show Y.1.ops.length ≤ 903 ∧ Y.1.wt ≤ s.wt + b.length from ⟨by have := HW1.out; omega, by have := HW1.out; omega⟩)
                    have HQ1 := Bx.mk hq1
                    unfold ptr at HSY
                    clear hsy hw2 hY hq1
                    go_wp2_with fail
                    go_at_call 51
                    refine HSY.out.mono ?_
                    rintro e w6 ⟨rfl, hn6⟩
                    have HN6 := Lib.hid hn6
                    clear hn6
                    by_cases hq2 : Y.2 = 0
                    · have t5 : (Y.2 == 0) = true := by rw [hq2]; rfl
                      have hw3 := rename_wt Y.1 (n ++ sfx) n
                      have hrn := NextR.on HN6.out (s2 := (Y.1.rename (n ++ sfx) n).1) (Post := fun e => e = .returned (.int .i64 (Y.1.rename (n ++ sfx) n).2)) fun F' R' hr => rrename_any w6 d Y.1 F' R' (n ++ sfx) n hr HNS.out (by omega) (by have := HW2.out; omega) (by have := HW2.out; omega)
                      rw [HNSF.out, HN.out] at hrn
                      generalize hZ : Y.1.rename (n ++ sfx) n = Z at *
                      have HZ := Bx.mk hZ
                      have HRN := Lib.hid hrn
                      have HW3 := Lib.hid (show Z.1.ops.length ≤ 904 ∧ Z.1.wt ≤ s.wt + b.length from ⟨by have := HW2.out; omega, by have := HW2.out; omega⟩)
                      have HQ2 := Bx.mk hq2
                      unfold ptr at HRN
                      clear hrn hw3 hZ hq2
                      go_wp2_with fail
                      go_at_call 52
                      refine HRN.out.mono ?_
                      rintro e w7 ⟨rfl, hn7⟩
                      have HN7 := Lib.hid hn7
                      clear hn7
                      go_wp2_with fail
                      go_meet
                      refine ⟨Z.1, Z.2, rfl, HN7.out, ?_, HW3.out.1, HW3.out.2⟩
                      rw [HRS2.out]
                      simp only [HQ1.out, HY.out, HQ2.out, HZ.out, ne_eq, not_true_eq_false, if_false]
                      unfold onOk finS
                      by_cases hz : Z.2 = 0
                      · simp only [hz, not_true_eq_false, if_false, if_true]
                      · simp only [hz, not_false_eq_true, if_true, if_false]
                    · have t5 : (Y.2 == 0) = false := by rw [beq_eq_false_iff_ne]; exact hq2
                      have HQ2 := Bx.mk hq2
                      clear hq2
                      go_wp2_with fail
                      go_meet
                      refine ⟨Y.1, Y.2, rfl, HN6.out, ?_, by have := HW2.out; omega, HW2.out.2⟩
                      rw [HRS2.out]
                      unfold onOk
                      simp only [HQ1.out, HY.out, HQ2.out, ne_eq, not_true_eq_false, not_false_eq_true, if_false, if_true]
                  · have t4 : (A.2 == 0) = false := by rw [beq_eq_false_iff_ne]; exact hq1
                    have HQ1 := Bx.mk hq1
                    clear hq1
                    go_wp2_with fail
                    go_meet
                    refine ⟨A.1, A.2, rfl, HN5.out, ?_, by have := HW1.out; omega, HW1.out.2⟩
                    rw [HRS2.out]
                    unfold onOk
                    simp only [HQ1.out, ne_eq, not_false_eq_true, if_false, if_true]
                · obtain rfl : TB = false := by rw [HTB.out, decide_eq_false hlt]; rfl
                  unfold openT at hrs
                  rw [if_neg hlt] at hrs
                  have HRS2 := Bx.mk hrs
                  clear hrs
                  go_wp2_with fail
                  go_meet
                  exact ⟨st, 0, rfl, HNX.out, by unfold onOk; rw [if_pos rfl]; exact HRS2.out, by have := HOP.out; omega, by have := HWT.out; omega⟩
              · obtain rfl : TB = false := by rw [HTB.out, show (E3 == 0) = false from by rw [beq_eq_false_iff_ne]; exact hE]; rfl
                have HRS2 := Bx.mk (show RS = (st, E3, none) by rw [HR3.out]; unfold onOk; rw [if_neg hE])
                have HE := Bx.mk hE
                clear hE
                go_wp2_with fail
                go_meet
                exact ⟨st, E3, rfl, HNX.out, by unfold onOk; rw [if_neg HE.out]; exact HRS2.out, by have := HOP.out; omega, by have := HWT.out; omega⟩
            case rest =>
              obtain ⟨st2, E4, rfl, hnx, hrs, hops, hwts⟩ := hcut
              have HNX2 := Lib.hid hnx
              have HR5 := Bx.mk hrs
              have HOP2 := Lib.hid hops
              have HWT2 := Lib.hid hwts
              clear hnx hrs hops hwts
              go_upto_if 81 with fail
              go_cut [11] (fun s11 we => ∃ st3 E5, s11 = .int .i64 E5 ∧ NextR w2 we d st3 F R ∧ RS = onOk E5 st3 (st3, 0, some (recs, size)))
              case first =>
                by_cases hE : E4 = 0
                · subst hE
                  have hrs := HR5.out
                  unfold onOk at hrs
                  rw [if_pos rfl] at hrs
                  unfold finS at hrs
                  have hsy := NextR.on HNX2.out (s2 := st2.sync.1) (Post := fun e => e = .returned (.int .i64 st2.sync.2)) fun F' R' hr => rsync_any wc d st2 F' R' hr (by have := HOP2.out; omega) (by have := HWT2.out; omega)
                  generalize st2.sync = Y at *
                  have HSY := Lib.hid hsy
                  have HRS2 := Bx.mk hrs
                  unfold ptr at HSY
                  clear hsy hrs
                  go_wp2_with fail
                  go_at_call 51
                  refine HSY.out.mono ?_
                  rintro e w6 ⟨rfl, hn6⟩
                  have HN6 := Lib.hid hn6
                  clear hn6
                  go_wp2_with fail
                  go_meet
                  refine ⟨Y.1, Y.2, rfl, HN6.out, ?_⟩
                  rw [HRS2.out]; rfl
                · have t3 : (E4 == 0) = false := by rw [beq_eq_false_iff_ne]; exact hE
                  have HRS2 := Bx.mk (show RS = (st2, E4, none) by rw [HR5.out]; unfold onOk; rw [if_neg hE])
                  have HE := Bx.mk hE
                  clear hE
                  go_wp2_with fail
                  go_meet
                  exact ⟨st2, E4, rfl, HNX2.out, by unfold onOk; rw [if_neg HE.out]; exact HRS2.out⟩
              case rest =>
                obtain ⟨st3, E5, rfl, hnx, hrs⟩ := hcut
                have HNX3 := Lib.hid hnx
                have HR6 := Bx.mk hrs
                clear hnx hrs
                by_cases hE : E5 = 0
                · subst hE
                  have HR7 := Bx.mk (show RS = (st3, 0, some (recs, size)) by rw [HR6.out]; unfold onOk; rw [if_pos rfl])
                  go_wp2_with fail
                  go_ret3
                  have e := HN.out
                  subst e
                  exact ROpPost.fin HR7.out H0.out HB2.out HOWN.out HNX3.out
                · have t3 : (E5 != 0) = true := by rw [bne_iff_ne]; exact hE
                  have HR7 := Bx.mk (show RS = (st3, E5, none) by rw [HR6.out]; unfold onOk; rw [if_neg hE])
                  clear hE
                  go_wp2_with fail
                  go_ret3
                  exact ROpPost.none HR7.out (nextRTrans (fun k q => .inl q) (fun k q => .inl q) (Fr.below HB2.out) HNX3.out)
end Go.Proofs.YtbfgkcgnhgfkmaaGreat.Wl
