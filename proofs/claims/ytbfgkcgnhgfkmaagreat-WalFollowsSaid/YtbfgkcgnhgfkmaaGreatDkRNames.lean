/-
  Names of the reference's disk.
-/
import Derived.Test.YtbfgkcgnhgfkmaaGreatDkROpsB
import Derived.Test.YtbfgkcgnhgfkmaaGreatFactsB
import Derived.Deep.CutBlock
import Derived.Deep.DeepCutAuto
import Derived.WalkLawsBesides
import Derived.Deep.QuietTactic
namespace Go.Proofs.YtbfgkcgnhgfkmaaGreat.Dk
open Go Go.Maps Go.RowKit Go.Proofs.YtbfgkcgnhgfkmaaGreat.Slc
set_option linter.unusedVariables false
set_option linter.unusedSimpArgs false

theorem und_strs : Tryz.prog.underlying 43 = some (.slice 9) := by kernel_rfl
theorem und_strs' : Tryz.prog.underlying 43 = some (.slice (Tryz.prog.elem 43)) := by kernel_rfl
theorem size_strs (W : World) : (sizeOf (Tryz.prog.elem 43)).run Tryz.prog W = .ok 1 W := by kernel_rfl
theorem info_strs : (Tryz.prog.info? 9).map (fun i => (i.zero, i.size, i.bytes)) = some (some (.string ⟨#[]⟩), 1, 16) := by kernel_rfl

theorem leq_le (a b : B) : (Op.bytesLess (bstr a).toList (bstr b).toList || (bstr a).toList == (bstr b).toList) = Ins.le a b := by
  rw [ByteArray.toList_eq, ByteArray.toList_eq, bytesLess_eq, bstr_list, bstr_list, Ins.le]
  rw [Bool.eq_iff_iff]
  simp only [Bool.or_eq_true, decide_eq_true_eq, beq_iff_eq]
  constructor
  · rintro (h | h)
    · exact List.le_of_lt h
    · rw [h]; exact List.le_refl _
  · intro h
    by_cases e : a = b
    · exact .inr e
    · refine .inl ?_
      by_cases q : a < b
      · exact q
      · exact absurd (List.le_antisymm h (List.not_lt.1 q)) e
theorem below_drewN {B : Nat} {a w : World} (h : Below B a w) (n : Nat) : Below B a (w.drewN n) := ⟨h.os, h.tape, h.output, h.size, h.block⟩
theorem names_take (l : Fs) (k : Nat) (h : k < l.length) : (names l).take (k + 1) = (names l).take k ++ [(l[k]).1] := by
  have h' : k < (names l).length := by simpa [names] using h
  rw [List.take_succ_eq_append_getElem h']; simp [names]

theorem src_str {w : World} {x : Nat} {p : B} (h : w.heap[x]? = some (.cells #[.string (bstr p)] 9 (0, 0))) : SrcV w 1 (.slice (some ⟨x, 0, none⟩) 1 1) 1 ([p].flatMap encS) := by
  refine .ro _ _ _ _ rfl ?_ (one_mem encS_ok [p])
  intro j u hj
  rw [add_at]
  match j, hj with
  | 0, hj => simp [encS] at hj; subst hj; simp [World.cell?, h]
-- INS
def NmF (W0 : World) (sv u1 u2 : Value) (p : Nat) (cur : List B) (x : B) (lv : Value) (iv : Value) (b : Nat) (o : Nat) : Nat → Value → World → Prop
  | 0, v, w => ∃ g, v = .slice (some ⟨g, 0, none⟩) 0 0 ∧ w.heap[g]? = some (.cells #[] 9 (0, 0)) ∧ W0.heap.size ≤ g
  | 1, v, _ => v = sv
  | 2, v, _ => v = .int .i64 p
  | 3, v, _ => v = u1
  | 4, v, w => Own w W0.heap.size 9 1 encS v (cur.take p)
  | 5, v, _ => v = lv
  | 6, v, _ => v = iv
  | 7, v, _ => v = .pointer (some ⟨b, o, none⟩)
  | 8, v, _ => v = .pointer (some ⟨b, o, none⟩)
  | 9, v, _ => v = .string (bstr x)
  | 10, v, w => ∃ g : Nat, v = .slice (some ⟨g, 0, none⟩) 1 1 ∧ w.heap[g]? = some (.cells #[.string (bstr x)] 9 (0, 0))
  | 11, v, w => Own w W0.heap.size 9 1 encS v (cur.take p ++ [x])
  | 12, v, _ => v = sv
  | 13, v, _ => v = .int .i64 p
  | 14, v, _ => v = u2
  | _, _, _ => True
theorem NmF.stable (W0 : World) (sv u1 u2 : Value) (p : Nat) (cur : List B) (x : B) (lv : Value) (iv : Value) (b : Nat) (o : Nat) (i : Nat) (v : Value) (w w' : World) (h : NmF W0 sv u1 u2 p cur x lv iv b o i v w) (hb : Below w.heap.size w w') : NmF W0 sv u1 u2 p cur x lv iv b o i v w' := by
  match i with
  | 1 | 2 | 3 | 5 | 6 | 7 | 8 | 9 | 12 | 13 | 14 => exact h
  | 0 => obtain ⟨g, h1, h2, h3⟩ := h; exact ⟨g, h1, (hb.block g (lt_of_block h2)).trans h2, h3⟩
  | 4 => exact Own.below (t := 9) h hb
  | 10 => obtain ⟨g, h1, h2⟩ := h; exact ⟨g, h1, (hb.block g (lt_of_block h2)).trans h2⟩
  | 11 => exact Own.below (t := 9) h hb
  | _ + 15 => exact trivial
def NmFC : Nat → Option Nat
  | 0 => some 4
  | 4 => some 11
  | 10 => some 11
  | _ => none
theorem NmF.big (W0 : World) (sv u1 u2 : Value) (p : Nat) (cur : List B) (x : B) (lv : Value) (iv : Value) (b : Nat) (o : Nat) (d : Nat → Bool) (j : Nat) (v : Value) (w w' : World) (h4 : d 4 = true) (hc : ∀ q, NmFC j = some q → mark d 11 q = false) (hne : j ≠ 11) (hj : j < 15) (h : NmF W0 sv u1 u2 p cur x lv iv b o j v w) : NmF W0 sv u1 u2 p cur x lv iv b o j v w' := by
  match j with
  | 1 | 2 | 3 | 5 | 6 | 7 | 8 | 9 | 12 | 13 | 14 => exact h
  | 0 => have := hc 4 rfl; simp [mark, h4] at this
  | 4 => have := hc 11 rfl; simp [mark] at this
  | 10 => have := hc 11 rfl; simp [mark] at this
  | 11 => exact absurd rfl hne
  | _ + 15 => omega
-- END INS

set_option maxHeartbeats 4000000 in
set_option maxRecDepth 20000 in
theorem rnames_any (w : World) (g : Nat) (s : St) (F R : Nat → Prop) (h : RepR w g s F R) (ho : s.ops.length ≤ 10000) (hwt : s.wt ≤ 100000000) :
    Calls Tryz.prog 15 #[ptr g] w fun e w' => ∃ v, e = .returned v ∧ Own w' w.heap.size 9 1 encS v s.nms ∧ Below w.heap.size w w' := by
  have HSO := Lib.hid h.ok
  obtain ⟨i0, hi0, hz0, hz1, hz2⟩ := info_parts info_strs
  have hall := all_any w g s F R h ho hwt
  obtain ⟨fv, ov, hdr, hfv, hfR, hov, hoF⟩ := h.body
  have hblk : w.heap[g]? = some (rblk s.cap fv ov s.left s.off) := hdr
  have HB := Lib.hid hblk
  unfold ptr at *
  clear h hdr hblk hfv hfR hov hoF
  go_enter Tryz.func15, Tryz.ntmps15
  go_wp2_with fail
  go_at_call 34
  refine hall.mono ?_
  rintro e w1 ⟨u, rfl, hu, hub, hb1⟩
  have HB1 := Lib.hid hb1
  have HU := Lib.hid hu
  obtain ⟨ua, uc, huf, -⟩ := hu.form
  subst huf
  have HCELL := Lib.hid (show ∀ (W : World), Below w1.heap.size w1 W → ∀ k (hk : k < s.files.length), ∃ b o, ua = some ⟨b, o, none⟩ ∧ W.cell? ⟨b, o + k * 2, none⟩ = some (.string (bstr (s.files[k]).1)) from fun W hW k hk => by
    obtain ⟨b, o, c, hv, _, hlt, hc⟩ := hu.cells encF_ok (by omega)
    simp only [Value.slice.injEq] at hv
    have := hc W (fun z hz => hW.block z (by rw [hv.1] at hz; cases hz; exact hlt)) k hk 0 _ (by omega) rfl
    rw [Nat.add_zero] at this
    exact ⟨b, o, hv.1, this⟩)
  clear hu hub hb1 hall
  have hlen := HSO.out.cnt'
  go_wp2_with fail
  go_loopw [3, 5] (fun v i wr => ∃ k : Nat, k ≤ s.files.length ∧ (s.off = true → k = 0) ∧ i = .int .i64 (k : Int) ∧ Own wr w.heap.size 9 1 encS v (Ins.isort ((names s.files).take k)) ∧ Below w1.heap.size w1 wr) (fun _ i _ => s.files.length - (intOf i).toNat)
  case atStart => exact ⟨0, Nat.zero_le _, fun _ => rfl, rfl, Own.nil _ _, Below.refl _ _⟩
  case round =>
    obtain ⟨k, hk, hk0, rfl, hown, hbw⟩ := hrel
    have hbwg := ((HB1.out.trans (hbw.mono HB1.out.size)).block g (lt_of_block HB.out)).trans HB.out
    obtain ⟨-, -, -, -, z4, -⟩ := rblk_cells hbwg
    obtain ⟨oa, oc, hof, -⟩ := hown.rd.form
    subst hof
    have HOWN := Lib.hid hown
    have HBW := Lib.hid hbw
    have HK0 := Lib.hid hk0
    clear hbwg hk0
    by_cases hend : k < s.files.length ∧ s.off = false
    · obtain ⟨hlt, hoff⟩ := hend
      rw [hoff] at z4
      obtain ⟨b, o, rfl, hx⟩ := HCELL.out _ hbw k hlt
      have HOFF := Lib.hid hoff
      have HSN := Lib.hid (show Ins.isort ((names s.files).take (k + 1)) = Ins.insP (s.files[k]).1 (Ins.isort ((names s.files).take k)) by rw [names_take _ _ hlt, Ins.isort_snoc])
      have HSORT := Lib.hid (Ins.isort_sorted ((names s.files).take k))
      have hcl : (Ins.isort ((names s.files).take k)).length ≤ 1000 := by rw [Ins.isort_length, List.length_take]; omega
      clear hown hbw hoff
      generalize hcur : Ins.isort ((names s.files).take k) = cur at *
      generalize (s.files[k]).1 = xn at *
      clear hcur
      go_upto_block 2 with fail
      go_cut [6] (fun s6 wx => s6 = .int .i64 ((Ins.place xn cur : Nat) : Int) ∧ Below wr.heap.size wr wx)
      case first =>
        have HC := Lib.hid (show ∀ (W : World), Below wr.heap.size wr W → ∀ j (hj : j < cur.length), ∃ g1, oa = some ⟨g1, 0, none⟩ ∧ W.cell? ⟨g1, j, none⟩ = some (.string (bstr cur[j])) from fun W hW j hj => by
          obtain ⟨g1, o1, c1, hv, _, hlt1, hc⟩ := HOWN.out.rd.cells encS_ok (by omega)
          rcases HOWN.out.2 with ⟨_, hn⟩ | ⟨g2, cap, cu, hv2, -⟩
          · omega
          · simp only [Value.slice.injEq] at hv hv2
            have e := hv.1.symm.trans hv2.1
            simp only [Option.some.injEq, Addr.mk.injEq, and_true] at e
            obtain ⟨rfl, rfl⟩ := e
            have := hc W (fun z hz => hW.block z (by rw [hv.1] at hz; cases hz; exact hlt1)) j hj 0 _ (by omega) rfl
            exact ⟨_, hv.1, by simpa using this⟩)
        have HXL := Lib.hid (show ∀ (W : World), Below wr.heap.size wr W → W.cell? ⟨b, o + k * 2, none⟩ = some (.string (bstr xn)) from fun W hW => by
          obtain ⟨b', o', he, hc'⟩ := HCELL.out W (HBW.out.trans (hW.mono HBW.out.size)) k hlt
          have hlt2 := World.block_lt_of_cell? wr _ hx
          rw [hW.cell (p := ⟨b, o + k * 2, none⟩) hlt2]; exact hx)
        have HPL := Lib.hid (Ins.place_le xn cur)
        go_wp2_with fail
        go_loopw [6] (fun i wx => ∃ j : Nat, j ≤ cur.length ∧ Ins.place xn cur ≤ j ∧ i = .int .i64 (j : Int) ∧ Below wr.heap.size wr wx) (fun i _ => (intOf i).toNat)
        case atStart => exact ⟨cur.length, Nat.le_refl _, HPL.out, rfl, Below.refl _ _⟩
        case round =>
          obtain ⟨j, hj, hpj, rfl, hbx⟩ := hrel
          have HPJ := Lib.hid hpj
          have HBX := Lib.hid hbx
          cases j with
          | zero =>
            have HP0 := Lib.hid (show Ins.place xn cur = 0 by omega)
            have t0 : decide (0 < ((0 : Nat) : Int)) = false := rfl
            clear hpj hbx
            go_wp2_with fail
            go_quiet (fail)
            go_wp2
            go_meet
            exact ⟨by first | (rw [HP0.out]; done) | (rw [HP0.out]; rfl), below_drewN HBX.out _⟩
          | succ m =>
            obtain ⟨g1, rfl, hcj⟩ := HC.out _ hbx m (by omega)
            have hxw := HXL.out _ hbx
            have hle := leq_le cur[m] xn
            have hmc : m < cur.length := by omega
            have HGE := Lib.hid (show Ins.place xn cur ≤ m → Ins.le cur[m] xn = false from fun q => Ins.sorted_ge HSORT.out m hmc q)
            have HLT := Lib.hid (show m < Ins.place xn cur → Ins.le cur[m] xn = true from fun q => Ins.place_lt xn cur m q)
            clear hpj hbx
            generalize Ins.le cur[m] xn = L at *
            generalize bstr cur[m] = Y at *
            generalize bstr xn = X at *
            have HB2 := Lib.hid HBX.out
            cases e1 : Op.bytesLess Y.toList X.toList with
            | true =>
              rw [e1, Bool.true_or] at hle
              subst hle
              have HP0 := Lib.hid (show Ins.place xn cur = m + 1 by
                rcases Nat.lt_or_ge m (Ins.place xn cur) with q | q
                · have := HPJ.out; omega
                · have := HGE.out q; cases this)
              go_wp2_with fail
              go_quiet (fail)
              go_wp2
              go_meet
              exact ⟨by first | (rw [HP0.out]; done) | (rw [HP0.out]; rfl), below_drewN HBX.out _⟩
            | false =>
              cases e2 : (Y.toList == X.toList) with
              | true =>
                rw [e1, e2, Bool.false_or] at hle
                subst hle
                have HP0 := Lib.hid (show Ins.place xn cur = m + 1 by
                  rcases Nat.lt_or_ge m (Ins.place xn cur) with q | q
                  · have := HPJ.out; omega
                  · have := HGE.out q; cases this)
                go_wp2_with fail
                go_quiet (fail)
                go_wp2
                go_meet
                exact ⟨by first | (rw [HP0.out]; done) | (rw [HP0.out]; rfl), below_drewN HBX.out _⟩
              | false =>
                rw [e1, e2, Bool.false_or] at hle
                subst hle
                have HP0 := Lib.hid (show Ins.place xn cur ≤ m by
                  rcases Nat.lt_or_ge m (Ins.place xn cur) with q | q
                  · have := HLT.out q; cases this
                  · exact q)
                go_wp2_with fail
                go_quiet (fail)
                go_wp2
                go_roundw
                case rel => exact ⟨m, by omega, HP0.out, rfl, below_drewN HBX.out _⟩
                case measure => simp [intOf]; try omega
      case rest =>
        obtain ⟨rfl, hbc⟩ := hcut
        obtain ⟨pl, hpl⟩ : ∃ pl, Ins.place xn cur = pl := ⟨_, rfl⟩
        have hpc : pl ≤ cur.length := by have := Ins.place_le xn cur; omega
        have HIN := Lib.hid (show Ins.insP xn cur = cur.take pl ++ [xn] ++ cur.drop pl by rw [← hpl]; rfl)
        rw [HIN.out] at HSN
        have hoc := HOWN.out.below hbc
        obtain ⟨u1, hu1, hr1⟩ := hoc.rd.upto encS_ok und_strs' size_strs pl hpc
        obtain ⟨u2, hu2, hr2⟩ := hoc.rd.rest encS_ok und_strs' size_strs pl hpc
        have HU1 := Lib.hid hu1
        have HU2 := Lib.hid hu2
        have HR1 := Lib.hid hr1
        have HR2 := Lib.hid hr2
        have HCL := Lib.hid hcl
        have HPC := Lib.hid hpc
        have HXX := Lib.hid (show ∀ (W : World), Below wc.heap.size wc W → W.cell? ⟨b, o + k * 2, none⟩ = some (.string (bstr xn)) from fun W hW => by
          have hlt2 := World.block_lt_of_cell? wr _ hx
          have hW2 := hbc.trans (hW.mono hbc.size)
          rw [hW2.cell (p := ⟨b, o + k * 2, none⟩) hlt2]; exact hx)
        have HBF := Lib.hid (HBW.out.trans (hbc.mono HBW.out.size))
        have HWC := Lib.hid (Nat.le_trans HB1.out.size HBF.out.size)
        rw [hpl]
        clear hpl hoc hu1 hu2 hr1 hr2 hbc hx HIN z4
        go_wp2_with fail
        -- REGION
        refine wp_region_factsV 15 NmFC (· == 11) (NmF wc (.slice oa cur.length oc) u1 u2 pl cur xn (.slice (some ⟨b, o, none⟩) s.files.length uc) (.int .i64 k) b (o + k * 2)) (by kernel_rfl) (by kernel_rfl) (by rfl) (NmF.stable wc (.slice oa cur.length oc) u1 u2 pl cur xn (.slice (some ⟨b, o, none⟩) s.files.length uc) (.int .i64 k) b (o + k * 2)) ?_ ?_ ?_
        · intro q oq j v d w1 w2 hb hoq hd hc hne hj h _
          obtain rfl : q = 11 := by simpa using hb
          simp only [List.getElem?_cons_succ, List.getElem?_cons_zero, Option.some.injEq] at hoq
          subst hoq
          have h4 := hd ⟨4, .data⟩ (by simp) rfl
          exact NmF.big wc (.slice oa cur.length oc) u1 u2 pl cur xn (.slice (some ⟨b, o, none⟩) s.files.length uc) (.int .i64 k) b (o + k * 2) d j v w1 w2 h4 hc hne hj h
        · intro i o hi9 ho9 xs w1 hb hd
          have hcs : i = 0 ∨ i = 1 ∨ i = 2 ∨ i = 3 ∨ i = 4 ∨ i = 5 ∨ i = 6 ∨ i = 7 ∨ i = 8 ∨ i = 9 ∨ i = 10 ∨ i = 11 ∨ i = 12 ∨ i = 13 ∨ i = 14 := by omega
          simp only [List.take_succ_cons, List.take_zero, putFrom, Act.put, List.setIfInBounds_toArray, List.set_cons_succ, List.set_cons_zero, Nat.zero_add, Nat.reduceAdd]
          have HBB := Lib.hid hb
          have HTL := Lib.hid (show (cur.take pl).length ≤ 100000 by have h1 := HCL.out; rw [List.length_take]; omega)
          clear hb
          rcases hcs with rfl | rfl | rfl | rfl | rfl | rfl | rfl | rfl | rfl | rfl | rfl | rfl | rfl | rfl | rfl
          all_goals
            simp only [List.getElem?_cons_succ, List.getElem?_cons_zero, Option.some.injEq] at ho9
            subst ho9
            simp [NeedsB, Region.binds, NmF, NmFC] at hd
          all_goals clear hi9
          · have HS := Lib.hid HBB.out.size
            go_wp2_with fail
            exact ⟨rfl, rfl, ⟨_, rfl, heap_alloc_new _ _, HS.out⟩, (Below.refl _ _).alloc (Nat.le_refl _) _⟩
          · go_wp2_with fail
            exact ⟨rfl, rfl, rfl, Below.refl _ _⟩
          · go_wp2_with fail
            exact ⟨rfl, rfl, rfl, Below.refl _ _⟩
          · obtain ⟨hd1, hd2⟩ := hd
            have hu1 := HU1.out
            go_wp2_with fail
            exact ⟨rfl, rfl, rfl, Below.refl _ _⟩
          · obtain ⟨⟨g0, h0, hg0, hl0⟩, h3⟩ := hd
            have hsr := (HR1.out.below HBB.out).src encS_ok
            rw [← h3] at hsr
            have hsz := HBB.out.size
            clear h3
            go_wp2_with (at_builtin; refine wpList_append_fresh rfl _ _ _ rfl wc.heap.size 9 i0 _ 1 16 und_strs hi0 hz0 hz1 hz2 rfl (by decide) g0 h0 hg0 hl0 hsz (xs 3) (cur.take pl).length ((cur.take pl).flatMap encS) rfl hsr ?ap1 ?ap2 ?_)
            case ap1 => have := HTL.out; unfold maxLen; omega
            case ap2 => have := HTL.out; omega
            intro v' w4 hown hb4 _
            have HO4 := Lib.hid (Own.of (l := cur.take pl) hown (by have := HPC.out; simp; try omega) rfl)
            have HB4 := Lib.hid hb4
            clear hown hb4 hsr hsz
            go_wp2_with fail
            exact ⟨rfl, rfl, HO4.out, HB4.out⟩
          · go_wp2_with fail
            exact ⟨rfl, rfl, rfl, Below.refl _ _⟩
          · go_wp2_with fail
            exact ⟨rfl, rfl, rfl, Below.refl _ _⟩
          · obtain ⟨hd1, hd2⟩ := hd
            go_wp2_with fail
            exact ⟨rfl, rfl, rfl, Below.refl _ _⟩
          · go_wp2_with fail
            exact ⟨rfl, rfl, rfl, Below.refl _ _⟩
          · have hxx := HXX.out _ HBB.out
            go_wp2_with fail
            exact ⟨rfl, rfl, rfl, Below.refl _ _⟩
          · go_wp2_with fail
            exact ⟨rfl, rfl, ⟨_, rfl, heap_alloc_new _ _⟩, (Below.refl _ _).alloc (Nat.le_refl _) _⟩
          · obtain ⟨hd1, ⟨g5, h5, hb5⟩, -⟩ := hd
            have hsr := src_str (p := xn) hb5
            rw [← h5] at hsr
            have hsz := HBB.out.size
            have hd1' : w1.ownsRow wc.heap.size 9 1 (xs 4) (cur.take pl).length ((cur.take pl).flatMap encS) := hd1
            have HD1 := Lib.hid hd1
            clear h5 hb5 hd1
            go_wp2_with (at_builtin; refine wpList_append_any rfl _ _ _ rfl wc.heap.size 9 i0 _ 1 16 und_strs hi0 hz0 hz1 hz2 rfl (by decide) _ (cur.take pl).length ((cur.take pl).flatMap encS) rfl hd1' _ 1 ([xn].flatMap encS) rfl hsr ?bp1 ?bp2 hsz ?_)
            case bp1 => have := HTL.out; unfold maxLen; omega
            case bp2 => have := HTL.out; omega
            intro v' w4 ha
            have HO4 := Lib.hid (Own.apd (m := [xn]) HD1.out (by simp) (by simp) (by have := HPC.out; simp; try omega) (by simp) ha)
            have HB4 := Lib.hid ((Below.refl wc.heap.size w1).grown ha.grown HBB.out.size fun k hk => (HD1.out.lt k hk).1)
            clear ha hsr hsz hd1'
            go_wp2_with fail
            exact ⟨rfl, rfl, HO4.out, HB4.out⟩
          · go_wp2_with fail
            exact ⟨rfl, rfl, rfl, Below.refl _ _⟩
          · go_wp2_with fail
            exact ⟨rfl, rfl, rfl, Below.refl _ _⟩
          · obtain ⟨hd1, hd2⟩ := hd
            have hu2 := HU2.out
            go_wp2_with fail
            exact ⟨rfl, rfl, rfl, Below.refl _ _⟩
        · intro xs w1 hb hf1
          have f11 := hf1 11 (by omega) (fun q hq => by simp [NmFC] at hq)
          have f14 := hf1 14 (by omega) (fun q hq => by simp [NmFC] at hq)
          simp only [NmF] at f11 f14
          simp only [List.take_succ_cons, List.take_zero, List.drop_succ_cons, List.drop_zero, putFrom, Act.put, List.setIfInBounds_toArray, List.set_cons_succ, List.set_cons_zero, Nat.zero_add, Nat.reduceAdd, f14]
          have hsr := (HR2.out.below hb).src encS_ok
          have hsz := hb.size
          have HBB := Lib.hid hb
          have HF11 := Lib.hid f11
          have f11' : w1.ownsRow wc.heap.size 9 1 (xs 11) (cur.take pl ++ [xn]).length ((cur.take pl ++ [xn]).flatMap encS) := f11
          have HLL := Lib.hid (show (cur.take pl ++ [xn]).length + (cur.drop pl).length ≤ 100002 by have h1 := HCL.out; rw [List.length_append, List.length_take, List.length_drop, List.length_singleton]; omega)
          clear hf1 f11 f14 hb
          go_wp2_with (at_builtin; refine wpList_append_any rfl _ _ _ rfl wc.heap.size 9 i0 _ 1 16 und_strs hi0 hz0 hz1 hz2 rfl (by decide) _ (cur.take pl ++ [xn]).length ((cur.take pl ++ [xn]).flatMap encS) rfl f11' _ (cur.drop pl).length ((cur.drop pl).flatMap encS) rfl hsr ?cp1 ?cp2 hsz ?_)
          case cp1 => have := HLL.out; unfold maxLen; omega
          case cp2 => have := HLL.out; omega
          intro v' w2 ha
          have HO2 := Lib.hid (Own.apd (m := cur.drop pl) HF11.out (by simp) (by simp) (by have := HPC.out; simp; try omega) (by simp) ha)
          have HB2 := Lib.hid (HBB.out.grown ha.grown HBB.out.size fun k hk => (HF11.out.lt k hk).1)
          clear ha hsr hsz f11'
          go_wp2
          go_roundw
          case rel => exact ⟨k + 1, by omega, (fun q => by rw [HOFF.out] at q; cases q), by go_num, by rw [HSN.out]; exact HO2.out.mono HWC.out, HBF.out.trans (HB2.out.mono HBF.out.size)⟩
          case measure => simp [intOf]; omega
        -- END REGION
    · have HFIN := Lib.hid (show Ins.isort ((names s.files).take k) = s.nms by
        unfold St.nms
        cases hoff : s.off with
        | true => rw [HK0.out hoff]; rfl
        | false =>
          obtain rfl : k = s.files.length := by
            rcases Nat.lt_or_ge k s.files.length with q | q
            · exact absurd ⟨q, hoff⟩ hend
            · omega
          rw [show s.files.length = (names s.files).length by simp [names], List.take_length]; rfl)
      clear hown hbw
      have hcase : s.off = true ∨ k = s.files.length := by
        cases hoff : s.off with
        | true => exact .inl rfl
        | false =>
          right
          rcases Nat.lt_or_ge k s.files.length with q | q
          · exact absurd ⟨q, hoff⟩ hend
          · omega
      by_cases hlt : k < s.files.length
      · have hoff : s.off = true := by
          rcases hcase with q | q
          · exact q
          · omega
        rw [hoff] at z4
        clear hcase hend hoff
        go_wp2
        go_ret
        exact ⟨_, rfl, by rw [← HFIN.out]; exact HOWN.out, HB1.out.trans (HBW.out.mono HB1.out.size)⟩
      · obtain rfl : k = s.files.length := by omega
        clear hcase hend z4
        go_wp2
        go_ret
        exact ⟨_, rfl, by rw [← HFIN.out]; exact HOWN.out, HB1.out.trans (HBW.out.mono HB1.out.size)⟩

end Go.Proofs.YtbfgkcgnhgfkmaaGreat.Dk
