/-
  Crash of the program's disk.
-/
import Derived.Test.YtbfgkcgnhgfkmaaGreatDkOpsC
import Derived.Laws.EntriesVeiled
namespace Go.Proofs.YtbfgkcgnhgfkmaaGreat.Dk
open Go Go.Maps Go.RowKit Go.Proofs.YtbfgkcgnhgfkmaaGreat.Slc
set_option linter.unusedVariables false
set_option linter.unusedSimpArgs false

theorem und_chs' : Tryz.prog.underlying 58 = some (.slice (Tryz.prog.elem 58)) := by kernel_rfl
theorem size_ch (W : World) : (sizeOf (Tryz.prog.elem 58)).run Tryz.prog W = .ok 2 W := by kernel_rfl
theorem torn_plain (s : St) (k : Nat) (bytes : Int) (h : ∀ n d, s.ops[k]? = some (.app n d) → bytes ≤ 0) : s.torn k bytes = aps s.dur (s.ops.take k) := by
  unfold St.torn
  cases hc : s.ops[k]? with
  | none => rfl
  | some c => cases c with
    | app n d => simp only; rw [if_neg]; have := h n d hc; omega
    | ren a b => rfl
    | rem n => rfl
theorem torn_app (s : St) (k : Nat) (bytes : Int) (n d : B) (h : s.ops[k]? = some (.app n d)) (hb : 0 < bytes) : s.torn k bytes = ap (aps s.dur (s.ops.take k)) (.app n (tk bytes d)) := by
  unfold St.torn
  rw [h]; simp only; rw [if_pos hb]
  congr 2
  unfold tk
  by_cases q : bytes < d.length
  · rw [if_pos ⟨by omega, q⟩]; congr 1; omega
  · rw [if_neg (fun z => q z.2)]; rw [List.take_of_length_le]; omega
theorem aps_succ (s : St) (k : Nat) (h : k < s.ops.length) : aps s.dur (s.ops.take (k + 1)) = ap (aps s.dur (s.ops.take k)) s.ops[k] := by
  rw [List.take_succ_eq_append_getElem h, aps_snoc]
/-- what the k-th change finds -/
structure At (s : St) (k : Nat) : Prop where
  len : (aps s.dur (s.ops.take k)).length ≤ 1000
  nodup : (names (aps s.dur (s.ops.take k))).Nodup
  tot : total (aps s.dur (s.ops.take k)) ≤ 9223372036854775807
  app : ∀ n d, s.ops[k]? = some (.app n d) → total (aps s.dur (s.ops.take k)) + d.length ≤ 9223372036854775807
  ren : ∀ a b, s.ops[k]? = some (.ren a b) → has (aps s.dur (s.ops.take k)) a = true
theorem at_of {s : St} (h : s.Ok) (k : Nat) (hk : k ≤ s.ops.length) : At s k := by
  have h1 := h.cnt k hk
  have h2 := h.tot k hk
  have h3 := h.cap1
  refine ⟨by omega, nodup_aps _ _ h.nodup, by omega, fun n d hc => ?_, fun a b hc => ?_⟩
  · obtain ⟨hlt, hck⟩ := List.getElem?_eq_some_iff.1 hc
    have h4 := h.tot (k + 1) (by omega)
    rw [aps_succ s k hlt, hck, total_app] at h4
    omega
  · obtain ⟨hlt, hck⟩ := List.getElem?_eq_some_iff.1 hc
    have := h.ok k hlt
    rwa [hck] at this
theorem tk_all (d : B) : tk (-1) d = d := if_neg (by omega)

/-- behind Crash -/
theorem next_crash {w w1 w2 w' : World} {g b : Nat} {s : St} {F R : Nat → Prop} {u : Value} {l : Fs} (h : RepP w g s F R) (h1 : Below w.heap.size w w1) (hb : w.heap.size ≤ b) (ho : OwnM w1 Tryz.prog 9 b l)
    (h2 : Below w1.heap.size w1 w2) (hu : MapV w2 (fun k => w1.heap.size ≤ k ∧ k < w2.heap.size) u l) (hg : w2.grownBy w' (some g)) (hok : St.Ok ⟨s.cap, l, [], -1⟩)
    (hdb : DB w' g ⟨s.cap, l, [], -1⟩ (.map (some b)) u (.slice none 0 0)) : NextP w w' g ⟨s.cap, l, [], -1⟩ F R := by
  have hgl := h.Flt g h.Fg
  have hbl := ho.lt
  have s1 := h1.size
  have s2 := h2.size
  have s3 := hg.size
  have hk : ∀ k, k < w2.heap.size → k ≠ g → w'.heap[k]? = w2.heap[k]? := fun k hk hn => hg.block k hk fun q => hn (Option.some.inj q)
  refine ⟨fun k => k = g ∨ (w1.heap.size ≤ k ∧ k < w2.heap.size), fun k => k = b, ⟨hok, ⟨_, u, _, [], hdb, .inr ⟨b, rfl, rfl, ?_⟩, ?_, Own.nil _ _, trivial, fun k q => by cases q⟩, .inl rfl, ?_, ?_, ?_⟩, ?_, ?_, ?_⟩
  · exact (ho.below h2).kept hg fun q => by have := Option.some.inj q; omega
  · exact hu.keep (fun k q => .inr q) fun k q hl => hk k hl (by omega)
  · rintro k (rfl | q) <;> omega
  · rintro k rfl; omega
  · rintro k (rfl | q) z <;> omega
  · rintro k (rfl | q)
    · exact .inl h.Fg
    · right; omega
  · rintro k rfl; exact .inr hb
  · exact ((Fr.below h1).trans (Fr.below (F := F) h2) fun k q => .inl q).trans (Fr.grown (F := F) hg fun k hk _ => by cases hk; exact h.Fg) fun k q => .inl q

theorem crash_end {w : World} {g : Nat} {cap : Int} {dv fv pv : Value} {off fused : Bool} {fuse : Int} (h : w.heap[g]? = some (blk cap dv fv pv off fused fuse)) (x y : Value) :
    (((((w.setCell ⟨g, 1, none⟩ x).setCell ⟨g, 2, none⟩ y).setCell ⟨g, 3, none⟩ (.slice none 0 0)).setCell ⟨g, 4, none⟩ (.bool false)).setCell ⟨g, 5, none⟩ (.bool false)).heap[g]? = some (blk cap x y (.slice none 0 0) false false fuse) ∧
    w.grownBy (((((w.setCell ⟨g, 1, none⟩ x).setCell ⟨g, 2, none⟩ y).setCell ⟨g, 3, none⟩ (.slice none 0 0)).setCell ⟨g, 4, none⟩ (.bool false)).setCell ⟨g, 5, none⟩ (.bool false)) (some g) ∧
    w.frozen? ⟨g, 1, none⟩ = false ∧ (w.setCell ⟨g, 1, none⟩ x).frozen? ⟨g, 2, none⟩ = false ∧ ((w.setCell ⟨g, 1, none⟩ x).setCell ⟨g, 2, none⟩ y).frozen? ⟨g, 3, none⟩ = false ∧
    (((w.setCell ⟨g, 1, none⟩ x).setCell ⟨g, 2, none⟩ y).setCell ⟨g, 3, none⟩ (.slice none 0 0)).frozen? ⟨g, 4, none⟩ = false ∧
    ((((w.setCell ⟨g, 1, none⟩ x).setCell ⟨g, 2, none⟩ y).setCell ⟨g, 3, none⟩ (.slice none 0 0)).setCell ⟨g, 4, none⟩ (.bool false)).frozen? ⟨g, 5, none⟩ = false := by
  have e1 : (w.setCell ⟨g, 1, none⟩ x).heap[g]? = some (blk cap x fv pv off fused fuse) := by unfold blk at h; rw [blk_set 1 _ h]; rfl
  have e2 : ((w.setCell ⟨g, 1, none⟩ x).setCell ⟨g, 2, none⟩ y).heap[g]? = some (blk cap x y pv off fused fuse) := by unfold blk at e1; rw [blk_set 2 _ e1]; rfl
  have e3 : (((w.setCell ⟨g, 1, none⟩ x).setCell ⟨g, 2, none⟩ y).setCell ⟨g, 3, none⟩ (.slice none 0 0)).heap[g]? = some (blk cap x y (.slice none 0 0) off fused fuse) := by unfold blk at e2; rw [blk_set 3 _ e2]; rfl
  have e4 : ((((w.setCell ⟨g, 1, none⟩ x).setCell ⟨g, 2, none⟩ y).setCell ⟨g, 3, none⟩ (.slice none 0 0)).setCell ⟨g, 4, none⟩ (.bool false)).heap[g]? = some (blk cap x y (.slice none 0 0) false fused fuse) := by unfold blk at e3; rw [blk_set 4 _ e3]; rfl
  have e5 : (((((w.setCell ⟨g, 1, none⟩ x).setCell ⟨g, 2, none⟩ y).setCell ⟨g, 3, none⟩ (.slice none 0 0)).setCell ⟨g, 4, none⟩ (.bool false)).setCell ⟨g, 5, none⟩ (.bool false)).heap[g]? = some (blk cap x y (.slice none 0 0) false false fuse) := by unfold blk at e4; rw [blk_set 5 _ e4]; rfl
  exact ⟨e5, grown_trans (grown_trans (grown_trans (grown_trans (grown_set w g 1 x) (grown_set _ g 2 y)) (grown_set _ g 3 _)) (grown_set _ g 4 _)) (grown_set _ g 5 _),
    (blk_cells h).2.2.2.2.2.2.2 1, (blk_cells e1).2.2.2.2.2.2.2 2, (blk_cells e2).2.2.2.2.2.2.2 3, (blk_cells e3).2.2.2.2.2.2.2 4, (blk_cells e4).2.2.2.2.2.2.2 5⟩

set_option maxHeartbeats 4000000 in
set_option maxRecDepth 20000 in
theorem crash_any (w : World) (g : Nat) (s : St) (F R : Nat → Prop) (keep bytes : Int) (h : RepP w g s F R) (ho : s.ops.length ≤ 10000) (hk0 : -9223372036854775808 ≤ keep) (hk1 : keep ≤ 9223372036854775807) (hb0 : -9223372036854775808 ≤ bytes) (hb1 : bytes ≤ 9223372036854775807) :
    Calls Tryz.prog 27 #[ptr g, .int .i64 keep, .int .i64 bytes] w fun e w' => e = .returned (.tuple #[]) ∧ NextP w w' g (s.crash keep bytes) F R := by
  obtain ⟨dv, fv, pv, cs, hdb, hdv, hfv, hpv, hcs, hpF⟩ := h.body
  obtain ⟨fuse, hblk⟩ := hdb.blk
  have hclone := clone_any w R dv s.dur hdv
  have HOK := Lib.hid (h.ok.crash keep bytes)
  have HSO := Lib.hid h.ok
  have H := Lib.hid h
  have HB := Lib.hid hblk
  have HPV := Lib.hid hpv
  have HCS := Lib.hid hcs
  have HPL := Lib.hid (hpv.lt)
  have hlen := Cvs.length hcs
  obtain ⟨ad, cp, hpf, hcp⟩ := hpv.rd.form
  subst hpf
  obtain ⟨-, c1, -, c3, -, -, -, -⟩ := blk_cells hblk
  have hcr : s.crash keep bytes = ⟨s.cap, s.torn (keepN s keep) bytes, [], -1⟩ := rfl
  have HR := Lib.hid hcr
  have hkn : ∃ K : Nat, keepN s keep = K ∧ K ≤ s.ops.length ∧ min (max keep 0) (cs.length : Int) = (K : Int) := ⟨keepN s keep, rfl, keepN_le s keep, by unfold keepN; omega⟩
  obtain ⟨K, hK, hKl, hKm⟩ := hkn
  have HKE := Lib.hid hK
  have HKM := Lib.hid hKm
  have HLEN := Lib.hid hlen
  have hKc : K ≤ cs.length := by omega
  clear h hblk hdb hfv hdv hpv hcs hpF hcr hK hKm hlen
  unfold ptr
  go_enter Tryz.func27, Tryz.ntmps27
  go_upto_region 1 with fail
  go_cut [1] (fun s1 wc => s1 = .int .i64 (K : Int) ∧ wc = w)
  case first =>
    go_wp2_with fail
    go_meet
    exact ⟨congrArg (Value.int .i64) HKM.out, rfl⟩
  case rest =>
    obtain ⟨rfl, hw⟩ := hcut
    subst wc
    go_wp2_with fail
    go_at_call 56
    refine hclone.mono ?_
    rintro e w1 ⟨u, rfl, hu, hb⟩
    have HU := Lib.hid hu
    have HBL := Lib.hid hb
    obtain ⟨um, hum⟩ : ∃ m, u = .map m := by rcases hu with ⟨q, _⟩ | ⟨b, q, _⟩ <;> exact ⟨_, q⟩
    have hq := fun W : World => run_eql_map_nil_sl (P := Tryz.prog) W 57 _ _ um und_map
    have hmm := @run_makeMap Tryz.prog
    subst hum
    clear hu hb hclone c1 c3
    go_upto_if 25 with fail
    go_cut [6] (fun s6 wx => ∃ b, s6 = .map (some b) ∧ OwnM wx Tryz.prog 9 b s.dur ∧ w.heap.size ≤ b ∧ Below w.heap.size w wx)
    case first =>
      rcases HU.out with ⟨e1, e2⟩ | ⟨b, e1, hbn, ho1⟩
      · cases e1
        have H1 := Lib.hid (show OwnM (w1.alloc (.map #[] 0)) Tryz.prog 9 w1.heap.size s.dur by rw [e2]; exact OwnM.made _ _ _)
        clear e2
        go_wp2_with fail
        go_meet
        exact ⟨_, rfl, H1.out, HBL.out.size, HBL.out.alloc HBL.out.size _⟩
      · cases e1
        have H1 := Lib.hid ho1
        have H2 := Lib.hid hbn
        clear ho1 hbn
        go_wp2_with fail
        go_meet
        exact ⟨_, rfl, H1.out, H2.out.1, HBL.out⟩
    case rest =>
      obtain ⟨b, rfl, ho1, hbn, hbx⟩ := hcut
      have hbk := (hbx.block g (lt_of_block HB.out)).trans HB.out
      obtain ⟨-, -, -, c3, -, -, -, -⟩ := blk_cells hbk
      obtain ⟨pu, hpu, hrd⟩ := HPV.out.rd.upto encV_ok und_chs' size_ch K hKc
      obtain ⟨ad2, cp2, hpf2, -⟩ := hrd.form
      have hKt : (cs.take K).length = K := by rw [List.length_take]; omega
      rw [hKt] at hpf2
      subst hpf2
      have HCELL := Lib.hid (show ∀ (W : World), Below w.heap.size w W → ∀ k (hk : k < K), ∃ b o, ad2 = some ⟨b, o, none⟩ ∧ W.cell? ⟨b, o + k * 2, none⟩ = some ((cs[k]'(Nat.lt_of_lt_of_le hk hKc)).fn) ∧ W.cell? ⟨b, o + k * 2 + 1, none⟩ = some (.bool (cs[k]'(Nat.lt_of_lt_of_le hk hKc)).ap) by
        intro W hW k hk
        obtain ⟨b, o, c, hv, _, hlt, hc⟩ := hrd.cells encV_ok (by rw [hKt]; omega)
        simp only [Value.slice.injEq] at hv
        have hcell := hc W (fun z hz => hW.block z (by rw [hv.1] at hz; cases hz; exact hlt)) k (by rw [hKt]; exact hk)
        refine ⟨b, o, hv.1, ?_, ?_⟩
        · have := hcell 0 _ (by omega) rfl
          simpa using this
        · have := hcell 1 _ (by omega) rfl
          simpa [Nat.add_assoc] using this)
      have HBN := Lib.hid hbn
      have HRD := Lib.hid hrd
      have HBX := Lib.hid hbx
      have HO1 := Lib.hid ho1
      clear hbk hrd hbn HBL HU hq hmm ho1 hbx hKt
      go_wp2_with fail
      go_loopw [34] (fun i wr => ∃ k : Nat, k ≤ K ∧ i = .int .i64 (k : Int) ∧ OwnM wr Tryz.prog 9 b (aps s.dur (s.ops.take k)) ∧ Below w.heap.size w wr) (fun i _ => K - (intOf i).toNat)
      case atStart => exact ⟨0, Nat.zero_le _, rfl, by rw [List.take_zero, aps_nil]; exact HO1.out, HBX.out⟩
      case round =>
        obtain ⟨k, hk, rfl, hok, hbw⟩ := hrel
        by_cases hlt : k < K
        · obtain ⟨b', o', rfl, hx0, hx1⟩ := HCELL.out _ hbw k hlt
          have hkc : k < cs.length := Nat.lt_of_lt_of_le hlt hKc
          have hko : k < s.ops.length := Nat.lt_of_lt_of_le hlt hKl
          have hcv := HCS.out.get k hkc hko
          have hat := at_of HSO.out k (by omega)
          have hks0 : s.ops[k]? = some (s.ops[k]'hko) := List.getElem?_eq_getElem _
          obtain ⟨ch, hks⟩ : ∃ ch, (s.ops[k]'hko) = ch := ⟨_, rfl⟩
          obtain ⟨c, hce⟩ : ∃ c, (cs[k]'hkc) = c := ⟨_, rfl⟩
          rw [hks] at hcv hks0
          rw [hce] at hcv hx0 hx1
          have HK0 := Lib.hid hks0
          clear hce hks0
          cases c with
          | app bd bn =>
            cases ch with
            | app n d =>
              obtain ⟨r1, r2, b1, b2, hln⟩ := hcv
              simp only [Cv.fn, Cv.ap, ptr] at hx0 hx1
              have happ := fun (W : World) (hW : Below wr.heap.size wr W) => app_any W b bd bn _ n d (-1) (hok.below hW) (box_keep (box_keep b1 hbw) hW) (box_keep (box_keep b2 hbw) hW) hat.len hln (hat.app n d HK0.out)
              have HAP := Lib.hid happ
              have HOKR := Lib.hid hok
              have HBW := Lib.hid hbw
              have HKS := Lib.hid hks
              clear happ hok hbw hks hat hcp
              go_wp2_with fail
              go_at_call 68
              refine (HAP.out _ ((Below.refl _ _).alloc (Nat.le_refl _) _)).mono ?_
              rintro e w2 ⟨rfl, ho2, ht2⟩
              have HM := Lib.hid (show OwnM w2 Tryz.prog 9 b (aps s.dur (s.ops.take (k + 1))) by rw [aps_succ s k hko, HKS.out]; rwa [tk_all] at ho2)
              have HBB := Lib.hid ((HBW.out.alloc HBW.out.size _).grown ht2.grown (by have := HBW.out.size; simp; omega) (fun z hz => by cases hz; exact HBN.out))
              clear ho2 ht2
              go_wp2
              go_roundw
              case rel => exact ⟨k + 1, by omega, by go_num, HM.out, HBB.out⟩
              case measure => simp [intOf]; omega
            | ren a b => exact hcv.elim
            | rem n => exact hcv.elim
          | ren bd bn =>
            cases ch with
            | app n d => exact hcv.elim
            | ren n d =>
              obtain ⟨r1, r2, b1, b2, hln, hld⟩ := hcv
              simp only [Cv.fn, Cv.ap, ptr] at hx0 hx1
              have happ := fun (W : World) (hW : Below wr.heap.size wr W) => ren_any W b bd bn _ n d (-1) (hok.below hW) (box_keep (box_keep b1 hbw) hW) (box_keep (box_keep b2 hbw) hW) hat.len hln hld hat.tot hat.nodup (hat.ren n d HK0.out)
              have HAP := Lib.hid happ
              have HOKR := Lib.hid hok
              have HBW := Lib.hid hbw
              have HKS := Lib.hid hks
              clear happ hok hbw hks hat hcp
              go_wp2_with fail
              go_at_call 79
              refine (HAP.out _ ((Below.refl _ _).alloc (Nat.le_refl _) _)).mono ?_
              rintro e w2 ⟨rfl, ho2, ht2⟩
              have HM := Lib.hid (show OwnM w2 Tryz.prog 9 b (aps s.dur (s.ops.take (k + 1))) by rw [aps_succ s k hko, HKS.out]; exact ho2)
              have HBB := Lib.hid ((HBW.out.alloc HBW.out.size _).grown ht2.grown (by have := HBW.out.size; simp; omega) (fun z hz => by cases hz; exact HBN.out))
              clear ho2 ht2
              go_wp2
              go_roundw
              case rel => exact ⟨k + 1, by omega, by go_num, HM.out, HBB.out⟩
              case measure => simp [intOf]; omega
            | rem n => exact hcv.elim
          | rem bn =>
            cases ch with
            | app n d => exact hcv.elim
            | ren a b => exact hcv.elim
            | rem n =>
              obtain ⟨r2, b2, hln⟩ := hcv
              simp only [Cv.fn, Cv.ap, ptr] at hx0 hx1
              have happ := fun (W : World) (hW : Below wr.heap.size wr W) => rem_any W b bn _ n (-1) (hok.below hW) (box_keep (box_keep b2 hbw) hW) hln hat.nodup
              have HAP := Lib.hid happ
              have HOKR := Lib.hid hok
              have HBW := Lib.hid hbw
              have HKS := Lib.hid hks
              clear happ hok hbw hks hat hcp
              go_wp2_with fail
              go_at_call 64
              refine (HAP.out _ ((Below.refl _ _).alloc (Nat.le_refl _) _)).mono ?_
              rintro e w2 ⟨rfl, ho2, ht2⟩
              have HM := Lib.hid (show OwnM w2 Tryz.prog 9 b (aps s.dur (s.ops.take (k + 1))) by rw [aps_succ s k hko, HKS.out]; exact ho2)
              have HBB := Lib.hid ((HBW.out.alloc HBW.out.size _).grown ht2.grown (by have := HBW.out.size; simp; omega) (fun z hz => by cases hz; exact HBN.out))
              clear ho2 ht2
              go_wp2
              go_roundw
              case rel => exact ⟨k + 1, by omega, by go_num, HM.out, HBB.out⟩
              case measure => simp [intOf]; omega
        · obtain rfl : k = K := by omega
          have hbk := (hbw.block g (lt_of_block HB.out)).trans HB.out
          obtain ⟨-, -, -, c3, -, -, -, -⟩ := blk_cells hbk
          have HBW := Lib.hid hbw
          by_cases hkl : k = cs.length
          · have htn := torn_plain s k bytes (fun n d hc => by have := (List.getElem?_eq_some_iff.1 hc).1; have := HLEN.out; omega)
            have HOZ := Lib.hid (show OwnM wr Tryz.prog 9 b (s.torn k bytes) by rw [htn]; exact hok)
            have HBZ := Lib.hid hbk
            have t0 : decide (k < cs.length) = false := by simp; omega
            have tlt : ¬ k < k := hlt
            clear hok hbw hbk htn hkl
            have hcl := clone_any wr (fun _ => True) (.map (some b)) _ (.inr ⟨b, rfl, trivial, HOZ.out⟩)
            go_wp2_with fail
            go_at_call 56
            refine hcl.mono ?_
            rintro e w3 ⟨u3, rfl, hu3, hb3⟩
            have hk3 := (hb3.block g (lt_of_block HBZ.out)).trans HBZ.out
            have hfin := crash_end hk3
            obtain ⟨h5, hg5, f1, f2, f3, f4, f5⟩ := hfin (.map (some b)) u3
            have HM := Lib.hid (next_crash H.out HBW.out HBN.out HOZ.out hb3 hu3 hg5 (by have := HOK.out; rwa [HR.out, HKE.out] at this) (show DB _ g ⟨s.cap, _, [], -1⟩ _ _ _ from ⟨_, h5, fun q => by simp only at q; omega⟩))
            obtain ⟨-, z1, z2, z3, z4, z5, -, -⟩ := blk_cells hk3
            have hmv : ∃ m, u3 = .map m := by rcases hu3 with ⟨q, _⟩ | ⟨b, q, _⟩ <;> exact ⟨_, q⟩
            obtain ⟨m3, rfl⟩ := hmv
            clear hcl hu3 hb3 hk3 hfin h5 hg5
            go_wp2
            go_end0
            exact ⟨rfl, by rw [HR.out, HKE.out]; exact HM.out⟩
          · have hlen := HLEN.out
            have hkc : k < cs.length := by omega
            have hko : k < s.ops.length := by omega
            have hcv := HCS.out.get k hkc hko
            have hks0 : s.ops[k]? = some (s.ops[k]'hko) := List.getElem?_eq_getElem _
            have hat := at_of HSO.out k (by omega)
            obtain ⟨b', o', c', hv, -, hlt', hc⟩ := HPV.out.rd.cells encV_ok (by omega)
            simp only [Value.slice.injEq] at hv
            obtain ⟨rfl, -, -⟩ := hv
            have hcell := hc wr (fun z hz => hbw.block z (by cases hz; exact hlt')) k hkc
            have hx0 := hcell 0 _ (by omega) rfl
            have hx1 := hcell 1 _ (by omega) rfl
            rw [show o' + (k * 2 + 0) = o' + k * 2 by omega] at hx0
            rw [show o' + (k * 2 + 1) = o' + k * 2 + 1 by omega] at hx1
            obtain ⟨ch, hks⟩ : ∃ ch, (s.ops[k]'hko) = ch := ⟨_, rfl⟩
            obtain ⟨c, hce⟩ : ∃ c, (cs[k]'hkc) = c := ⟨_, rfl⟩
            rw [hks] at hcv hks0
            rw [hce] at hcv hx0 hx1
            have HKS := Lib.hid hks0
            have HBZ := Lib.hid hbk
            have t0 : decide (k < cs.length) = true := by simpa using hkc
            have tlt : ¬ k < k := hlt
            clear hce hks hks0 hcell hc hlen hkl hbk
            cases c with
            | app bd bn =>
              cases ch with
              | ren a b => exact hcv.elim
              | rem n => exact hcv.elim
              | app n d =>
                simp only [Cv.fn, Cv.ap, ptr] at hx0 hx1
                by_cases hbp : 0 < bytes
                · have htn := torn_app s k bytes n d HKS.out hbp
                  have t1 : decide (0 < bytes) = true := by simpa using hbp
                  obtain ⟨r1, r2, b1, b2, hln⟩ := hcv
                  have happ := app_any wr b bd bn _ n d bytes hok (box_keep b1 hbw) (box_keep b2 hbw) hat.len hln (hat.app n d HKS.out)
                  have HTN := Lib.hid htn
                  have HBW0 := Lib.hid hbw
                  clear hok hbw htn hat b1 b2 r1 r2 hln hbp
                  go_wp2_with fail
                  go_at_call 68
                  refine happ.mono ?_
                  rintro e w2 ⟨rfl, ho2, ht2⟩
                  have HOZ := Lib.hid (show OwnM w2 Tryz.prog 9 b (s.torn k bytes) by rw [HTN.out]; exact ho2)
                  have HBW := Lib.hid (HBW0.out.grown ht2.grown HBW0.out.size (fun z hz => by cases hz; exact HBN.out))
                  have HBZ2 := Lib.hid ((ht2.grown.block g (lt_of_block HBZ.out) (fun q => by have := Option.some.inj q; have := HBN.out; have := lt_of_block HB.out; omega)).trans HBZ.out)
                  clear HBZ HBW0 ho2 ht2 happ c3
                  have HBZ := HBZ2
                  clear HBZ2
                  have hcl := clone_any w2 (fun _ => True) (.map (some b)) _ (.inr ⟨b, rfl, trivial, HOZ.out⟩)
                  go_wp2_with fail
                  go_at_call 56
                  refine hcl.mono ?_
                  rintro e w3 ⟨u3, rfl, hu3, hb3⟩
                  have hk3 := (hb3.block g (lt_of_block HBZ.out)).trans HBZ.out
                  have hfin := crash_end hk3
                  obtain ⟨h5, hg5, f1, f2, f3, f4, f5⟩ := hfin (.map (some b)) u3
                  have HM := Lib.hid (next_crash H.out HBW.out HBN.out HOZ.out hb3 hu3 hg5 (by have := HOK.out; rwa [HR.out, HKE.out] at this) (show DB _ g ⟨s.cap, _, [], -1⟩ _ _ _ from ⟨_, h5, fun q => by simp only at q; omega⟩))
                  obtain ⟨-, z1, z2, z3, z4, z5, -, -⟩ := blk_cells hk3
                  have hmv : ∃ m, u3 = .map m := by rcases hu3 with ⟨q, _⟩ | ⟨b, q, _⟩ <;> exact ⟨_, q⟩
                  obtain ⟨m3, rfl⟩ := hmv
                  clear hcl hu3 hb3 hk3 hfin h5 hg5
                  go_wp2
                  go_end0
                  exact ⟨rfl, by rw [HR.out, HKE.out]; exact HM.out⟩
                · have htn := torn_plain s k bytes (fun n d hc => by omega)
                  have t1 : decide (0 < bytes) = false := by simpa using hbp
                  have HOZ := Lib.hid (show OwnM wr Tryz.prog 9 b (s.torn k bytes) by rw [htn]; exact hok)
                  clear hok hbw htn hcv hat hx0 hbp
                  have hcl := clone_any wr (fun _ => True) (.map (some b)) _ (.inr ⟨b, rfl, trivial, HOZ.out⟩)
                  go_wp2_with fail
                  go_at_call 56
                  refine hcl.mono ?_
                  rintro e w3 ⟨u3, rfl, hu3, hb3⟩
                  have hk3 := (hb3.block g (lt_of_block HBZ.out)).trans HBZ.out
                  have hfin := crash_end hk3
                  obtain ⟨h5, hg5, f1, f2, f3, f4, f5⟩ := hfin (.map (some b)) u3
                  have HM := Lib.hid (next_crash H.out HBW.out HBN.out HOZ.out hb3 hu3 hg5 (by have := HOK.out; rwa [HR.out, HKE.out] at this) (show DB _ g ⟨s.cap, _, [], -1⟩ _ _ _ from ⟨_, h5, fun q => by simp only at q; omega⟩))
                  obtain ⟨-, z1, z2, z3, z4, z5, -, -⟩ := blk_cells hk3
                  have hmv : ∃ m, u3 = .map m := by rcases hu3 with ⟨q, _⟩ | ⟨b, q, _⟩ <;> exact ⟨_, q⟩
                  obtain ⟨m3, rfl⟩ := hmv
                  clear hcl hu3 hb3 hk3 hfin h5 hg5
                  go_wp2
                  go_end0
                  exact ⟨rfl, by rw [HR.out, HKE.out]; exact HM.out⟩
            | ren ba bb =>
              cases ch with
              | app n d => exact hcv.elim
              | ren n d =>
                have htn := torn_plain s k bytes (fun n d hc => by rw [HKS.out] at hc; cases hc)
                have HOZ := Lib.hid (show OwnM wr Tryz.prog 9 b (s.torn k bytes) by rw [htn]; exact hok)
                simp only [Cv.fn, Cv.ap, ptr] at hx0 hx1
                clear hok hbw htn hcv hat hx0
                have hcl := clone_any wr (fun _ => True) (.map (some b)) _ (.inr ⟨b, rfl, trivial, HOZ.out⟩)
                go_wp2_with fail
                go_at_call 56
                refine hcl.mono ?_
                rintro e w3 ⟨u3, rfl, hu3, hb3⟩
                have hk3 := (hb3.block g (lt_of_block HBZ.out)).trans HBZ.out
                have hfin := crash_end hk3
                obtain ⟨h5, hg5, f1, f2, f3, f4, f5⟩ := hfin (.map (some b)) u3
                have HM := Lib.hid (next_crash H.out HBW.out HBN.out HOZ.out hb3 hu3 hg5 (by have := HOK.out; rwa [HR.out, HKE.out] at this) (show DB _ g ⟨s.cap, _, [], -1⟩ _ _ _ from ⟨_, h5, fun q => by simp only at q; omega⟩))
                obtain ⟨-, z1, z2, z3, z4, z5, -, -⟩ := blk_cells hk3
                have hmv : ∃ m, u3 = .map m := by rcases hu3 with ⟨q, _⟩ | ⟨b, q, _⟩ <;> exact ⟨_, q⟩
                obtain ⟨m3, rfl⟩ := hmv
                clear hcl hu3 hb3 hk3 hfin h5 hg5
                go_wp2
                go_end0
                exact ⟨rfl, by rw [HR.out, HKE.out]; exact HM.out⟩
              | rem n => exact hcv.elim
            | rem bn =>
              cases ch with
              | app n d => exact hcv.elim
              | ren a b => exact hcv.elim
              | rem n =>
                have htn := torn_plain s k bytes (fun n d hc => by rw [HKS.out] at hc; cases hc)
                have HOZ := Lib.hid (show OwnM wr Tryz.prog 9 b (s.torn k bytes) by rw [htn]; exact hok)
                simp only [Cv.fn, Cv.ap, ptr] at hx0 hx1
                clear hok hbw htn hcv hat hx0
                have hcl := clone_any wr (fun _ => True) (.map (some b)) _ (.inr ⟨b, rfl, trivial, HOZ.out⟩)
                go_wp2_with fail
                go_at_call 56
                refine hcl.mono ?_
                rintro e w3 ⟨u3, rfl, hu3, hb3⟩
                have hk3 := (hb3.block g (lt_of_block HBZ.out)).trans HBZ.out
                have hfin := crash_end hk3
                obtain ⟨h5, hg5, f1, f2, f3, f4, f5⟩ := hfin (.map (some b)) u3
                have HM := Lib.hid (next_crash H.out HBW.out HBN.out HOZ.out hb3 hu3 hg5 (by have := HOK.out; rwa [HR.out, HKE.out] at this) (show DB _ g ⟨s.cap, _, [], -1⟩ _ _ _ from ⟨_, h5, fun q => by simp only at q; omega⟩))
                obtain ⟨-, z1, z2, z3, z4, z5, -, -⟩ := blk_cells hk3
                have hmv : ∃ m, u3 = .map m := by rcases hu3 with ⟨q, _⟩ | ⟨b, q, _⟩ <;> exact ⟨_, q⟩
                obtain ⟨m3, rfl⟩ := hmv
                clear hcl hu3 hb3 hk3 hfin h5 hg5
                go_wp2
                go_end0
                exact ⟨rfl, by rw [HR.out, HKE.out]; exact HM.out⟩

end Go.Proofs.YtbfgkcgnhgfkmaaGreat.Dk
