/-
  The walk of DiskFuse: it returns true. (Written by wip/gen/gen_fuse.py.)
-/
import Derived.Test.YtbfgkcgnhgfkmaaDkKeep
namespace Go.Proofs.Ytbfgkcgnhgfkmaa.Dk
open Go Go.Maps Go.RowKit Go.Proofs.Ytbfgkcgnhgfkmaa.Slc
set_option linter.unusedVariables false
set_option linter.unusedSimpArgs false

/-- a call of the four that count -/
def St.call4 (s : St) (c : Cl) : St × Int :=
  if c.kind % 4 = 0 then s.append (c.nm c.frm) c.data
  else if c.kind % 4 = 1 then s.rename (c.nm c.frm) (c.nm c.tgt)
  else if c.kind % 4 = 2 then s.remove (c.nm c.frm)
  else s.sync
theorem add_fuse {s : St} (h : 0 < s.left) (x : Ch) : (s.add x).left = s.left - 1 ∧ (s.add x).ops.length ≤ s.ops.length + 1 := by
  have e : s.add x = { s with ops := s.ops ++ [x], left := s.left - 1 } := by
    unfold St.add St.spend; rw [if_pos h]
  rw [e]; exact ⟨rfl, by simp⟩
theorem call4_law (s : St) (c : Cl) (h : 0 ≤ s.left) :
    ((s.left = 0 ∧ (s.call4 c).2 = 25 ∧ (s.call4 c).1.left = s.left) ∨ (0 < s.left ∧ (s.call4 c).2 = 0 ∧ (s.call4 c).1.left = s.left - 1) ∨ (0 < s.left ∧ (s.call4 c).2 ≠ 0 ∧ (s.call4 c).2 ≠ 25 ∧ (s.call4 c).1.left = s.left)) ∧ (s.call4 c).1.ops.length ≤ s.ops.length + 1 := by
  by_cases h0 : s.left = 0
  · have ho : s.off = true := by unfold St.off; rw [h0]; rfl
    have e : s.call4 c = (s, 25) := by
      unfold St.call4 St.append St.rename St.remove St.sync
      rw [ho]; simp
    rw [e]; exact ⟨.inl ⟨h0, rfl, rfl⟩, by simp⟩
  · have hp : 0 < s.left := by omega
    have ho : s.off = false := by unfold St.off; simpa using h0
    have three : ∀ (r : St × Int), (r = (s, 14) ∨ r = (s, 26) ∨ r = (s, 23) ∨ ∃ x, r = (s.add x, 0)) → ((s.left = 0 ∧ r.2 = 25 ∧ r.1.left = s.left) ∨ (0 < s.left ∧ r.2 = 0 ∧ r.1.left = s.left - 1) ∨ (0 < s.left ∧ r.2 ≠ 0 ∧ r.2 ≠ 25 ∧ r.1.left = s.left)) ∧ r.1.ops.length ≤ s.ops.length + 1 := by
      rintro r (rfl | rfl | rfl | ⟨x, rfl⟩)
      · exact ⟨.inr (.inr ⟨hp, (by show (14 : Int) ≠ 0; decide), (by show (14 : Int) ≠ 25; decide), rfl⟩), by simp⟩
      · exact ⟨.inr (.inr ⟨hp, (by show (26 : Int) ≠ 0; decide), (by show (26 : Int) ≠ 25; decide), rfl⟩), by simp⟩
      · exact ⟨.inr (.inr ⟨hp, (by show (23 : Int) ≠ 0; decide), (by show (23 : Int) ≠ 25; decide), rfl⟩), by simp⟩
      · obtain ⟨h1, h2⟩ := add_fuse hp x
        exact ⟨.inr (.inl ⟨hp, rfl, h1⟩), h2⟩
    unfold St.call4
    split
    · refine three _ ?_
      unfold St.append; rw [ho]; simp only [Bool.false_eq_true, if_false]
      split
      · exact .inl rfl
      · split
        · exact .inr (.inl rfl)
        · exact .inr (.inr (.inr ⟨_, rfl⟩))
    · split
      · refine three _ ?_
        unfold St.rename; rw [ho]; simp only [Bool.false_eq_true, if_false]
        split
        · exact .inl rfl
        · split
          · exact .inr (.inr (.inl rfl))
          · exact .inr (.inr (.inr ⟨_, rfl⟩))
      · split
        · refine three _ ?_
          unfold St.remove; rw [ho]; simp only [Bool.false_eq_true, if_false]
          split
          · exact .inl rfl
          · split
            · exact .inr (.inr (.inl rfl))
            · exact .inr (.inr (.inr ⟨_, rfl⟩))
        · have e : s.sync = (⟨s.cap, s.files, [], s.left - 1⟩, 0) := by
            unfold St.sync; rw [ho]; simp only [Bool.false_eq_true, if_false]
            unfold St.spend; rw [if_pos hp]
          rw [e]; exact ⟨.inr (.inl ⟨hp, rfl, rfl⟩), by simp⟩

def FuA (d b : Nat) (c : Cl) : Nat → Value → World → Prop
  | 0, v, _ => v = ptr d
  | 1, v, _ => v = .agg c.cells.toArray
  | 2, v, _ => v = .pointer (some ⟨b, 1, none⟩)
  | 3, v, _ => v = .int .i64 c.frm
  | 4, v, _ => v = .string (bstr (c.nm c.frm))
  | 5, v, _ => v = .pointer (some ⟨b, 6, none⟩)
  | 6, v, _ => v = .string (bstr c.data)
  | _, _, _ => True
theorem FuA.stable (d b : Nat) (c : Cl) (i : Nat) (v : Value) (w w' : World) (h : FuA d b c i v w) : FuA d b c i v w' := by
  match i with
  | 0 | 1 | 2 | 3 | 4 | 5 | 6 => exact h
  | _ + 7 => exact trivial
def FuB (d b : Nat) (c : Cl) : Nat → Value → World → Prop
  | 0, v, _ => v = ptr d
  | 1, v, _ => v = .agg c.cells.toArray
  | 2, v, _ => v = .pointer (some ⟨b, 1, none⟩)
  | 3, v, _ => v = .int .i64 c.frm
  | 4, v, _ => v = .string (bstr (c.nm c.frm))
  | 5, v, _ => v = .agg c.cells.toArray
  | 6, v, _ => v = .pointer (some ⟨b, 2, none⟩)
  | 7, v, _ => v = .int .i64 c.tgt
  | 8, v, _ => v = .string (bstr (c.nm c.tgt))
  | _, _, _ => True
theorem FuB.stable (d b : Nat) (c : Cl) (i : Nat) (v : Value) (w w' : World) (h : FuB d b c i v w) : FuB d b c i v w' := by
  match i with
  | 0 | 1 | 2 | 3 | 4 | 5 | 6 | 7 | 8 => exact h
  | _ + 9 => exact trivial

set_option maxHeartbeats 8000000 in
set_option maxRecDepth 10000 in
theorem law_fuse (n0 : Int) (v : Value) (l : List Cl) (w : World) (hn0 : i64ok n0) (hA : Arg w v l) (hin : ∀ c ∈ l, c.In) (hl : l.length ≤ 9223372036854775807) :
    Calls Try.prog 7 #[.int .i64 n0, v] w fun e w' => e = .returned (.bool true) ∧ Below w.heap.size w w' := by
  have hsh := short_any w v l hA hin hl
  have HAW := Lib.hid (fun W => awake_any W)
  have HL := Lib.hid hl
  obtain ⟨ad, c, rfl, -⟩ := id hA
  have HA := Lib.hid hA
  cases hs : shortB l with
  | false =>
    rw [hs] at hsh
    clear hA hin
    go_enter Try.func7, Try.ntmps7
    go_wp2_with fail
    go_at_call 26
    refine hsh.mono ?_
    rintro e w' ⟨rfl, rfl⟩
    go_wp2_with fail
    go_at_call 19
    refine (HAW.out _).mono ?_
    rintro e w' ⟨rfl, hb⟩
    go_wp2
    go_ret
    exact ⟨rfl, hb⟩
  | true =>
    rw [hs] at hsh
    have hlen := short_len hs
    have hfit := short_fit hs hin
    have HFIT := Lib.hid hfit
    have HSN := Lib.hid (fun W => small_any n0 21 W hn0.1 hn0.2 (by omega) (by omega))
    have hq0 : 0 ≤ n0 % 21 := by omega
    have hq1 : n0 % 21 < 21 := by omega
    generalize n0 % 21 = n at *
    have HN0 := Lib.hid (new_rep w 10000 (by omega))
    have h10 := new_any 10000 w
    have HF0 := Lib.hid (show ((St.new 10000).fuse n).left = n ∧ ((St.new 10000).fuse n).ops.length = 0 from ⟨by show max n (-1) = n; omega, rfl⟩)
    clear hA hin hfit hs
    go_enter Try.func7, Try.ntmps7
    go_wp2_with fail
    go_at_call 26
    refine hsh.mono ?_
    rintro e w' ⟨rfl, rfl⟩
    go_wp2_with fail
    go_at_call 20
    refine h10.mono ?_
    rintro e w0 ⟨rfl, hw0⟩
    rw [← hw0] at HN0
    clear h10 hw0 hsh
    generalize hd : w.heap.size = d at *
    have HD := Lib.hid hd
    clear hd
    go_wp2_with fail
    go_at_call 23
    refine (HSN.out _).mono ?_
    rintro e w' ⟨rfl, rfl⟩
    go_wp2_with fail
    go_at_call 30
    refine (HN0.out.fuse n ⟨by omega, by omega⟩).mono ?_
    rintro e w1 ⟨rfl, h1⟩
    have HN1 := Lib.hid h1
    clear h1
    go_wp2
    go_loopw [6, 7] (fun q i wx => ∃ (k : Nat) (dn : Int) (s : St), k ≤ l.length ∧ i = .int .i64 (k : Int) ∧ q = .int .i64 dn ∧ 0 ≤ dn ∧ dn ≤ n ∧ s.left = n - dn ∧ s.ops.length ≤ k ∧ NewP d w wx d s) (fun _ i _ => l.length - (intOf i).toNat)
    case atStart => exact ⟨0, 0, (St.new 10000).fuse n, Nat.zero_le _, rfl, rfl, by omega, by omega, by rw [HF0.out.1]; omega, by rw [HF0.out.2]; omega, HN1.out⟩
    case round =>
      obtain ⟨k, dn, s, hk, rfl, rfl, hd0, hd1, hlf, hop, hnb⟩ := hrel
      have HNB := Lib.hid hnb
      have hbel := hnb.bel
      clear hnb
      by_cases hlt : k < l.length
      · obtain ⟨b, o, rfl, hbs, x0, x1, x2, x3, x4, x5, x6, x7⟩ := (HA.out.below (by rw [HD.out]; exact hbel)).eight k hlt
        have hfk := HFIT.out _ (List.getElem_mem hlt)
        generalize l[k] = cl at *
        have HFK := Lib.hid hfk
        have HSM := Lib.hid (fun W => small_any cl.kind 4 W hfk.ok.kind.1 hfk.ok.kind.2 (by omega) (by omega))
        have HFN := Lib.hid (fun W => name_any cl cl.frm W hfk.ok.frm)
        have HTN := Lib.hid (fun W => name_any cl cl.tgt W hfk.ok.tgt)
        obtain ⟨hlaw, hops⟩ := call4_law s cl (by omega)
        have HLAW := Lib.hid hlaw
        have HOPS := Lib.hid hops
        have hkk : cl.kind % 4 = 0 ∨ cl.kind % 4 = 1 ∨ cl.kind % 4 = 2 ∨ cl.kind % 4 = 3 := by omega
        have HLF := Lib.hid hlf
        have HOP := Lib.hid hop
        clear hlaw hops hbel hbs hfk hlf hop
        go_wp2_with fail
        go_at_call 23
        refine (HSM.out _).mono ?_
        have hall := heap_alloc_new wr (boxC cl)
        have hbw : Below wr.heap.size wr (wr.alloc (boxC cl)) := (Below.refl _ wr).alloc (Nat.le_refl _) _
        rintro e w2 ⟨rfl, hw2⟩
        have hw2' : wr.alloc (boxC cl) = w2 := hw2
        rw [hw2'] at hall hbw
        clear hw2 hw2'
        have HPW := Lib.hid (HNB.out.below hbw)
        generalize wr.heap.size = bx at *
        have HCL := Lib.hid (fun (W : World) (hb : Below w2.heap.size w2 W) => boxC_cells ((hb.block bx (lt_of_block hall)).trans hall))
        have HN4 := Lib.hid (fun (W : World) (hb : Below w2.heap.size w2 W) => HPW.out.below hb)
        clear x0 x1 x2 x3 x4 x5 x6 x7 hbw hall
        rcases hkk with hk4 | hk4 | hk4 | hk4
        · rw [hk4]
          have HC4 := Lib.hid (show s.call4 cl = s.append (cl.nm cl.frm) cl.data by unfold St.call4; rw [if_pos hk4])
          clear hk4
          go_wp2_with fail
          refine wp_region_facts 7 (FuA d bx cl) (by kernel_rfl) (by kernel_rfl) (by rfl) (fun i v wa wb h _ => FuA.stable d bx cl i v wa wb h) ?_ ?_
          · intro i o hi9 ho9 x w4 hb4 hd1
            have hc : i = 0 ∨ i = 1 ∨ i = 2 ∨ i = 3 ∨ i = 4 ∨ i = 5 ∨ i = 6 := by omega
            have HB4 := Lib.hid hb4
            simp only [List.take_succ_cons, List.take_zero, putFrom, Act.put, List.setIfInBounds_toArray, List.set_cons_succ, List.set_cons_zero, Nat.zero_add, Nat.reduceAdd]
            clear hb4
            rcases hc with rfl | rfl | rfl | rfl | rfl | rfl | rfl
            all_goals
              simp only [List.getElem?_cons_succ, List.getElem?_cons_zero, Option.some.injEq] at ho9
              subst ho9
              simp [Needs, Region.binds, FuA, ptr] at hd1
            all_goals clear hi9
            · have hcc := HCL.out w4 HB4.out
              obtain ⟨y0, y1, y2, y3, y4, y5, y6, y7⟩ := hcc
              go_wp2_with fail
              exact ⟨rfl, rfl, rfl, Below.refl _ _⟩
            · have hcc := HCL.out w4 HB4.out
              obtain ⟨y0, y1, y2, y3, y4, y5, y6, y7⟩ := hcc
              go_wp2_with fail
              exact ⟨rfl, rfl, rfl, Below.refl _ _⟩
            · have hcc := HCL.out w4 HB4.out
              obtain ⟨y0, y1, y2, y3, y4, y5, y6, y7⟩ := hcc
              go_wp2_with fail
              exact ⟨rfl, rfl, rfl, Below.refl _ _⟩
            · have hcc := HCL.out w4 HB4.out
              obtain ⟨y0, y1, y2, y3, y4, y5, y6, y7⟩ := hcc
              go_wp2_with fail
              exact ⟨rfl, rfl, rfl, Below.refl _ _⟩
            · have hnm := HFN.out w4
              go_wp2_with fail
              go_at_call 34
              refine hnm.mono ?_
              rintro e w5 ⟨rfl, hb5⟩
              have HB5 := Lib.hid hb5
              clear hb5 hnm
              go_wp2_with fail
              exact ⟨rfl, rfl, rfl, HB5.out⟩
            · have hcc := HCL.out w4 HB4.out
              obtain ⟨y0, y1, y2, y3, y4, y5, y6, y7⟩ := hcc
              go_wp2_with fail
              exact ⟨rfl, rfl, rfl, Below.refl _ _⟩
            · have hcc := HCL.out w4 HB4.out
              obtain ⟨y0, y1, y2, y3, y4, y5, y6, y7⟩ := hcc
              go_wp2_with fail
              exact ⟨rfl, rfl, rfl, Below.refl _ _⟩
          · intro x w4 hb4 hf
            have f0 := hf 0 (by omega)
            have f1 := hf 1 (by omega)
            have f2 := hf 2 (by omega)
            have f3 := hf 3 (by omega)
            have f4 := hf 4 (by omega)
            have f5 := hf 5 (by omega)
            have f6 := hf 6 (by omega)
            simp only [FuA] at f0 f1 f2 f3 f4 f5 f6
            simp only [List.take_succ_cons, List.take_zero, List.drop_succ_cons, List.drop_zero, putFrom, Act.put, List.setIfInBounds_toArray, List.set_cons_succ, List.set_cons_zero, Nat.zero_add, Nat.reduceAdd, f0, f1, f2, f3, f4, f5, f6]
            have HP4 := Lib.hid (HN4.out w4 hb4)
            clear hf f0 f1 f2 f3 f4 f5 f6 hb4
            unfold ptr
            go_wp2_with fail
            go_at_call 21
            refine (HP4.out.append _ _ (by have := cl.nm_len cl.frm HFK.out.name; omega) (by have := HFK.out.data; omega) (by have := HOP.out; omega)).mono ?_
            rintro e w3 ⟨rfl, h3⟩
            have HN3 := Lib.hid h3
            clear h3
            have hlaw := HLAW.out
            have hops := HOPS.out
            rw [HC4.out] at hlaw hops
            have hlf := HLF.out
            have hop := HOP.out
            generalize (s.append (cl.nm cl.frm) cl.data).2 = er at *
            generalize (s.append (cl.nm cl.frm) cl.data).1 = s' at *
            clear HC4
            rcases hlaw with ⟨q1, rfl, q3⟩ | ⟨q1, rfl, q3⟩ | ⟨q1, q2, q2', q3⟩
            · have g1 : dn = n := by omega
              subst g1
              have Q3 := Lib.hid q3
              have Q4 := Lib.hid hops
              clear q3 hops
              go_wp2
              go_roundw
              case rel => exact ⟨k + 1, dn, s', by omega, by go_num, rfl, by omega, by omega, by have := Q3.out; omega, by have := Q4.out; omega, HN3.out⟩
              case measure => simp [intOf]; omega
            · have g1 : (dn == n) = false := by simp; omega
              have Q3 := Lib.hid q3
              have Q4 := Lib.hid hops
              clear q3 hops
              go_wp2
              go_roundw
              case rel => exact ⟨k + 1, dn + 1, s', by omega, by go_num, by go_num, by omega, by omega, by have := Q3.out; omega, by have := Q4.out; omega, HN3.out⟩
              case measure => simp [intOf]; omega
            · have g1 : (dn == n) = false := by simp; omega
              have g2 : (er == 25) = false := by simpa using q2'
              have g3 : (er == 0) = false := by simpa using q2
              have Q3 := Lib.hid q3
              have Q4 := Lib.hid hops
              clear q3 hops
              go_wp2
              go_roundw
              case rel => exact ⟨k + 1, dn, s', by omega, by go_num, rfl, by omega, by omega, by have := Q3.out; omega, by have := Q4.out; omega, HN3.out⟩
              case measure => simp [intOf]; omega
        · rw [hk4]
          have HC4 := Lib.hid (show s.call4 cl = s.rename (cl.nm cl.frm) (cl.nm cl.tgt) by unfold St.call4; rw [if_neg (by omega), if_pos hk4])
          clear hk4
          go_wp2_with fail
          refine wp_region_facts 9 (FuB d bx cl) (by kernel_rfl) (by kernel_rfl) (by rfl) (fun i v wa wb h _ => FuB.stable d bx cl i v wa wb h) ?_ ?_
          · intro i o hi9 ho9 x w4 hb4 hd1
            have hc : i = 0 ∨ i = 1 ∨ i = 2 ∨ i = 3 ∨ i = 4 ∨ i = 5 ∨ i = 6 ∨ i = 7 ∨ i = 8 := by omega
            have HB4 := Lib.hid hb4
            simp only [List.take_succ_cons, List.take_zero, putFrom, Act.put, List.setIfInBounds_toArray, List.set_cons_succ, List.set_cons_zero, Nat.zero_add, Nat.reduceAdd]
            clear hb4
            rcases hc with rfl | rfl | rfl | rfl | rfl | rfl | rfl | rfl | rfl
            all_goals
              simp only [List.getElem?_cons_succ, List.getElem?_cons_zero, Option.some.injEq] at ho9
              subst ho9
              simp [Needs, Region.binds, FuB, ptr] at hd1
            all_goals clear hi9
            · have hcc := HCL.out w4 HB4.out
              obtain ⟨y0, y1, y2, y3, y4, y5, y6, y7⟩ := hcc
              go_wp2_with fail
              exact ⟨rfl, rfl, rfl, Below.refl _ _⟩
            · have hcc := HCL.out w4 HB4.out
              obtain ⟨y0, y1, y2, y3, y4, y5, y6, y7⟩ := hcc
              go_wp2_with fail
              exact ⟨rfl, rfl, rfl, Below.refl _ _⟩
            · have hcc := HCL.out w4 HB4.out
              obtain ⟨y0, y1, y2, y3, y4, y5, y6, y7⟩ := hcc
              go_wp2_with fail
              exact ⟨rfl, rfl, rfl, Below.refl _ _⟩
            · have hcc := HCL.out w4 HB4.out
              obtain ⟨y0, y1, y2, y3, y4, y5, y6, y7⟩ := hcc
              go_wp2_with fail
              exact ⟨rfl, rfl, rfl, Below.refl _ _⟩
            · have hnm := HFN.out w4
              go_wp2_with fail
              go_at_call 34
              refine hnm.mono ?_
              rintro e w5 ⟨rfl, hb5⟩
              have HB5 := Lib.hid hb5
              clear hb5 hnm
              go_wp2_with fail
              exact ⟨rfl, rfl, rfl, HB5.out⟩
            · have hcc := HCL.out w4 HB4.out
              obtain ⟨y0, y1, y2, y3, y4, y5, y6, y7⟩ := hcc
              go_wp2_with fail
              exact ⟨rfl, rfl, rfl, Below.refl _ _⟩
            · have hcc := HCL.out w4 HB4.out
              obtain ⟨y0, y1, y2, y3, y4, y5, y6, y7⟩ := hcc
              go_wp2_with fail
              exact ⟨rfl, rfl, rfl, Below.refl _ _⟩
            · have hcc := HCL.out w4 HB4.out
              obtain ⟨y0, y1, y2, y3, y4, y5, y6, y7⟩ := hcc
              go_wp2_with fail
              exact ⟨rfl, rfl, rfl, Below.refl _ _⟩
            · have hnm := HTN.out w4
              go_wp2_with fail
              go_at_call 34
              refine hnm.mono ?_
              rintro e w5 ⟨rfl, hb5⟩
              have HB5 := Lib.hid hb5
              clear hb5 hnm
              go_wp2_with fail
              exact ⟨rfl, rfl, rfl, HB5.out⟩
          · intro x w4 hb4 hf
            have f0 := hf 0 (by omega)
            have f1 := hf 1 (by omega)
            have f2 := hf 2 (by omega)
            have f3 := hf 3 (by omega)
            have f4 := hf 4 (by omega)
            have f5 := hf 5 (by omega)
            have f6 := hf 6 (by omega)
            have f7 := hf 7 (by omega)
            have f8 := hf 8 (by omega)
            simp only [FuB] at f0 f1 f2 f3 f4 f5 f6 f7 f8
            simp only [List.take_succ_cons, List.take_zero, List.drop_succ_cons, List.drop_zero, putFrom, Act.put, List.setIfInBounds_toArray, List.set_cons_succ, List.set_cons_zero, Nat.zero_add, Nat.reduceAdd, f0, f1, f2, f3, f4, f5, f6, f7, f8]
            have HP4 := Lib.hid (HN4.out w4 hb4)
            clear hf f0 f1 f2 f3 f4 f5 f6 f7 f8 hb4
            unfold ptr
            go_wp2_with fail
            go_at_call 35
            refine (HP4.out.rename _ _ (by have := cl.nm_len cl.frm HFK.out.name; omega) (by have := cl.nm_len cl.tgt HFK.out.name; omega) (by have := HOP.out; omega)).mono ?_
            rintro e w3 ⟨rfl, h3⟩
            have HN3 := Lib.hid h3
            clear h3
            have hlaw := HLAW.out
            have hops := HOPS.out
            rw [HC4.out] at hlaw hops
            have hlf := HLF.out
            have hop := HOP.out
            generalize (s.rename (cl.nm cl.frm) (cl.nm cl.tgt)).2 = er at *
            generalize (s.rename (cl.nm cl.frm) (cl.nm cl.tgt)).1 = s' at *
            clear HC4
            rcases hlaw with ⟨q1, rfl, q3⟩ | ⟨q1, rfl, q3⟩ | ⟨q1, q2, q2', q3⟩
            · have g1 : dn = n := by omega
              subst g1
              have Q3 := Lib.hid q3
              have Q4 := Lib.hid hops
              clear q3 hops
              go_wp2
              go_roundw
              case rel => exact ⟨k + 1, dn, s', by omega, by go_num, rfl, by omega, by omega, by have := Q3.out; omega, by have := Q4.out; omega, HN3.out⟩
              case measure => simp [intOf]; omega
            · have g1 : (dn == n) = false := by simp; omega
              have Q3 := Lib.hid q3
              have Q4 := Lib.hid hops
              clear q3 hops
              go_wp2
              go_roundw
              case rel => exact ⟨k + 1, dn + 1, s', by omega, by go_num, by go_num, by omega, by omega, by have := Q3.out; omega, by have := Q4.out; omega, HN3.out⟩
              case measure => simp [intOf]; omega
            · have g1 : (dn == n) = false := by simp; omega
              have g2 : (er == 25) = false := by simpa using q2'
              have g3 : (er == 0) = false := by simpa using q2
              have Q3 := Lib.hid q3
              have Q4 := Lib.hid hops
              clear q3 hops
              go_wp2
              go_roundw
              case rel => exact ⟨k + 1, dn, s', by omega, by go_num, rfl, by omega, by omega, by have := Q3.out; omega, by have := Q4.out; omega, HN3.out⟩
              case measure => simp [intOf]; omega
        · rw [hk4]
          have HC4 := Lib.hid (show s.call4 cl = s.remove (cl.nm cl.frm) by unfold St.call4; rw [if_neg (by omega), if_neg (by omega), if_pos hk4])
          clear hk4
          obtain ⟨y0, y1, y2, y3, y4, y5, y6, y7⟩ := HCL.out w2 (Below.refl _ _)
          go_wp2_with fail
          go_at_call 34
          refine (HFN.out _).mono ?_
          rintro e w5 ⟨rfl, hb5⟩
          have HP4 := Lib.hid (HN4.out w5 hb5)
          clear hb5 y0 y1 y2 y3 y4 y5 y6 y7
          go_wp2_with fail
          go_at_call 36
          refine (HP4.out.remove _ (by have := cl.nm_len cl.frm HFK.out.name; omega) (by have := HOP.out; omega)).mono ?_
          rintro e w3 ⟨rfl, h3⟩
          have HN3 := Lib.hid h3
          clear h3
          have hlaw := HLAW.out
          have hops := HOPS.out
          rw [HC4.out] at hlaw hops
          have hlf := HLF.out
          have hop := HOP.out
          generalize (s.remove (cl.nm cl.frm)).2 = er at *
          generalize (s.remove (cl.nm cl.frm)).1 = s' at *
          clear HC4
          rcases hlaw with ⟨q1, rfl, q3⟩ | ⟨q1, rfl, q3⟩ | ⟨q1, q2, q2', q3⟩
          · have g1 : dn = n := by omega
            subst g1
            have Q3 := Lib.hid q3
            have Q4 := Lib.hid hops
            clear q3 hops
            go_wp2
            go_roundw
            case rel => exact ⟨k + 1, dn, s', by omega, by go_num, rfl, by omega, by omega, by have := Q3.out; omega, by have := Q4.out; omega, HN3.out⟩
            case measure => simp [intOf]; omega
          · have g1 : (dn == n) = false := by simp; omega
            have Q3 := Lib.hid q3
            have Q4 := Lib.hid hops
            clear q3 hops
            go_wp2
            go_roundw
            case rel => exact ⟨k + 1, dn + 1, s', by omega, by go_num, by go_num, by omega, by omega, by have := Q3.out; omega, by have := Q4.out; omega, HN3.out⟩
            case measure => simp [intOf]; omega
          · have g1 : (dn == n) = false := by simp; omega
            have g2 : (er == 25) = false := by simpa using q2'
            have g3 : (er == 0) = false := by simpa using q2
            have Q3 := Lib.hid q3
            have Q4 := Lib.hid hops
            clear q3 hops
            go_wp2
            go_roundw
            case rel => exact ⟨k + 1, dn, s', by omega, by go_num, rfl, by omega, by omega, by have := Q3.out; omega, by have := Q4.out; omega, HN3.out⟩
            case measure => simp [intOf]; omega
        · rw [hk4]
          have HC4 := Lib.hid (show s.call4 cl = s.sync by unfold St.call4; rw [if_neg (by omega), if_neg (by omega), if_neg (by omega)])
          clear hk4
          have HP4 := Lib.hid (HN4.out w2 (Below.refl _ _))
          go_wp2_with fail
          go_at_call 22
          refine (HP4.out.sync).mono ?_
          rintro e w3 ⟨rfl, h3⟩
          have HN3 := Lib.hid h3
          clear h3
          have hlaw := HLAW.out
          have hops := HOPS.out
          rw [HC4.out] at hlaw hops
          have hlf := HLF.out
          have hop := HOP.out
          generalize (s.sync).2 = er at *
          generalize (s.sync).1 = s' at *
          clear HC4
          rcases hlaw with ⟨q1, rfl, q3⟩ | ⟨q1, rfl, q3⟩ | ⟨q1, q2, q2', q3⟩
          · have g1 : dn = n := by omega
            subst g1
            have Q3 := Lib.hid q3
            have Q4 := Lib.hid hops
            clear q3 hops
            go_wp2
            go_roundw
            case rel => exact ⟨k + 1, dn, s', by omega, by go_num, rfl, by omega, by omega, by have := Q3.out; omega, by have := Q4.out; omega, HN3.out⟩
            case measure => simp [intOf]; omega
          · have g1 : (dn == n) = false := by simp; omega
            have Q3 := Lib.hid q3
            have Q4 := Lib.hid hops
            clear q3 hops
            go_wp2
            go_roundw
            case rel => exact ⟨k + 1, dn + 1, s', by omega, by go_num, by go_num, by omega, by omega, by have := Q3.out; omega, by have := Q4.out; omega, HN3.out⟩
            case measure => simp [intOf]; omega
          · have g1 : (dn == n) = false := by simp; omega
            have g2 : (er == 25) = false := by simpa using q2'
            have g3 : (er == 0) = false := by simpa using q2
            have Q3 := Lib.hid q3
            have Q4 := Lib.hid hops
            clear q3 hops
            go_wp2
            go_roundw
            case rel => exact ⟨k + 1, dn, s', by omega, by go_num, rfl, by omega, by omega, by have := Q3.out; omega, by have := Q4.out; omega, HN3.out⟩
            case measure => simp [intOf]; omega
      · obtain rfl : k = l.length := by omega
        have hcr := HNB.out.crash 0 0 (by omega) ⟨by omega, by omega⟩ ⟨by omega, by omega⟩
        have HZ := Lib.hid (sync_of (crash_zero s).2.2.2)
        generalize s.crash 0 0 = sc at *
        clear hbel hlf hop
        go_wp2_with fail
        go_at_call 24
        refine hcr.mono ?_
        rintro e w3 ⟨rfl, h3⟩
        have HN3 := Lib.hid h3
        have hsy := HN3.out.sync
        rw [show sc.sync.2 = 0 by rw [HZ.out]] at hsy
        clear h3 hcr
        go_wp2_with fail
        go_at_call 22
        refine hsy.mono ?_
        rintro e w4 ⟨rfl, h4⟩
        have HN4 := Lib.hid h4
        clear h4 hsy
        go_wp2_with fail
        go_at_call 19
        refine (HAW.out _).mono ?_
        rintro e w' ⟨rfl, hb⟩
        have HBB := Lib.hid (HN4.out.below hb).bel
        clear hb
        go_wp2
        go_ret
        exact ⟨rfl, by rw [HD.out]; exact HBB.out⟩

end Go.Proofs.Ytbfgkcgnhgfkmaa.Dk
