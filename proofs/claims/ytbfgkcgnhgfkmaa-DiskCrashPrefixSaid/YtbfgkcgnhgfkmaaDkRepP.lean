/-
  What a disk of the program is in the world; its changes' functions.
-/
/-
  The contracts of valid and ValidFile. (Written by wip/gen/gen_valid.py.)
-/
/-
  The disk's block; down, has, blow, done.
-/
/-
  done, Pending, fits, Read, New.
-/
/-
  What a disk of the program is in the world, whole.
-/
import Derived.Test.YtbfgkcgnhgfkmaaDkRange
import Derived.Test.YtbfgkcgnhgfkmaaSlc
import Derived.OneCell
import Derived.Test.YtbfgkcgnhgfkmaaProg
import Derived.WalkKit
import Derived.BigQuiet
import Derived.Deep.AppendLies
import Derived.Laws.Rows
import Derived.Laws.IdiomRangeMap
namespace Go.Proofs.Ytbfgkcgnhgfkmaa.Dk
open Go Go.Maps Go.RowKit Go.Proofs.Ytbfgkcgnhgfkmaa.Slc
set_option linter.unusedVariables false

def bstr (d : B) : ByteArray := ⟨d.toArray⟩
theorem bstr_list (d : B) : (bstr d).data.toList = d := by simp [bstr]
theorem bstr_back (b : ByteArray) : bstr b.data.toList = b := by apply ByteArray.ext; simp [bstr]
theorem bstr_size (d : B) : (bstr d).size = d.length := by show d.toArray.size = _; simp
theorem und_str : Try.prog.underlying 9 = some .string := by kernel_rfl
theorem und_map : Try.prog.underlying 54 = some (.map 9 9) := by kernel_rfl
theorem zero_str (w : World) : (zeroValue 9).run Try.prog w = .ok (.string ⟨#[]⟩) w := by kernel_rfl

def boxS (w : World) (b : Nat) (d : B) : Prop := w.heap[b]? = some (.cells #[.string (bstr d)] 9 (0, 0))
theorem boxS.cell {w : World} {b : Nat} {d : B} (h : boxS w b d) : w.cell? ⟨b, 0, none⟩ = some (.string (bstr d)) := cell_of_one h
theorem boxS.lt {w : World} {b : Nat} {d : B} (h : boxS w b d) : b < w.heap.size := lt_of_block h
/-- a change's function: what it captures; whether it appends -/
def ChV (w : World) (R : Nat → Prop) (c : Value × Bool) : Ch → Prop
  | .app n d => ∃ bd bn, c = (.func (.func 65) #[] #[.pointer (some ⟨bd, 0, none⟩), .pointer (some ⟨bn, 0, none⟩)], true) ∧ R bd ∧ R bn ∧ boxS w bd d ∧ boxS w bn n
  | .ren a b => ∃ ba bb, c = (.func (.func 72) #[] #[.pointer (some ⟨ba, 0, none⟩), .pointer (some ⟨bb, 0, none⟩)], false) ∧ R ba ∧ R bb ∧ boxS w ba a ∧ boxS w bb b
  | .rem n => ∃ bn, c = (.func (.func 73) #[] #[.pointer (some ⟨bn, 0, none⟩)], false) ∧ R bn ∧ boxS w bn n
theorem ChV.keep {w w' : World} {R R' : Nat → Prop} {c : Value × Bool} {ch : Ch} (h : ChV w R c ch) (hR : ∀ k, R k → R' k) (hb : ∀ k, R k → w'.heap[k]? = w.heap[k]?) : ChV w' R' c ch := by
  cases ch with
  | app n d => obtain ⟨bd, bn, e, r1, r2, b1, b2⟩ := h; exact ⟨bd, bn, e, hR _ r1, hR _ r2, (hb _ r1).trans b1, (hb _ r2).trans b2⟩
  | ren a b => obtain ⟨bd, bn, e, r1, r2, b1, b2⟩ := h; exact ⟨bd, bn, e, hR _ r1, hR _ r2, (hb _ r1).trans b1, (hb _ r2).trans b2⟩
  | rem n => obtain ⟨bn, e, r1, b1⟩ := h; exact ⟨bn, e, hR _ r1, (hb _ r1).trans b1⟩
def encC (c : Value × Bool) : List Value := [c.1, .bool c.2]

theorem str_h (b : ByteArray) (y : Int) (n : Nat) (hy : y = n) (h2 : n ≤ b.size) (w : World) :
    (Instr.slice 9 (.string b) none (some (.int .i64 y)) none).run Try.prog w = .ok (.string (b.extract 0 n)) w := by
  subst hy
  rw [run_slice_string_h (P := Try.prog) (ht := und_str) (h0 := by omega) (h2 := by omega)]; rfl
/-- how much of a text a change appends -/
def tk (bytes : Int) (d : B) : B := if 0 ≤ bytes ∧ bytes < d.length then d.take bytes.toNat else d

set_option maxHeartbeats 400000 in
set_option maxRecDepth 10000 in
theorem app_any (w : World) (b bd bn : Nat) (l : Fs) (n d : B) (bytes : Int) (h : OwnM w Try.prog 9 b l) (hd : boxS w bd d) (hn : boxS w bn n) (hl : l.length ≤ 1000) (hnl : n.length ≤ 100) (ht : total l + d.length ≤ 9223372036854775807) :
    Calls Try.prog 65 #[.map (some b), .int .i64 bytes, .pointer (some ⟨bd, 0, none⟩), .pointer (some ⟨bn, 0, none⟩)] w fun e w' =>
      e = .returned (.tuple #[]) ∧ OwnM w' Try.prog 9 b (ap l (.app n (tk bytes d))) ∧ w.mapTurned w' b := by
  have c1 := hd.cell
  have c2 := hn.cell
  have hlk := (h.look und_str und_map (zero_str w) (bstr n) (by rw [bstr_size]; unfold maxLen; omega)).1
  rw [bstr_list] at hlk
  have hg := get_len_le l n
  have htk : (tk bytes d).length ≤ d.length := by unfold tk; split <;> simp <;> omega
  obtain ⟨w', h1, h2, h3⟩ := h.app und_str und_map n (tk bytes d) (by unfold maxLen; omega) (by unfold maxLen; omega) (by rw [List.length_append]; unfold maxLen; omega)
  have hcat : (bstr ((get l n).getD []) : ByteArray) ++ bstr (tk bytes d) = bstr ((get l n).getD [] ++ tk bytes d) := by apply ByteArray.ext; simp [bstr]
  have a1 := fun W : World => run_string_add_sum (P := Try.prog) W (bstr ((get l n).getD [])) (bstr (tk bytes d)) (by rw [bstr_size, bstr_size]; omega)
  rw [hcat] at a1
  have e1 : (⟨((get l n).getD []).toArray⟩ : ByteArray) = bstr ((get l n).getD []) := rfl
  have e2 : (⟨n.toArray⟩ : ByteArray) = bstr n := rfl
  have e3 : (⟨((get l n).getD [] ++ tk bytes d).toArray⟩ : ByteArray) = bstr ((get l n).getD [] ++ tk bytes d) := rfl
  rw [e1] at hlk
  rw [e2, e3] at h1
  have hsz : (bstr d).size = d.length := bstr_size d
  have hfit : (bstr d).size ≤ 9223372036854775807 := by omega
  by_cases hb : 0 ≤ bytes ∧ bytes < d.length
  · have htb : tk bytes d = d.take bytes.toNat := by unfold tk; rw [if_pos hb]
    have hsl : (bstr d).extract 0 bytes.toNat = bstr (tk bytes d) := by
      rw [htb]; apply ByteArray.ext; simp [bstr, ByteArray.data_extract, List.extract_eq_take_drop]
    have rs := str_h (bstr d) bytes bytes.toNat (by omega) (by omega)
    rw [hsl] at rs
    have t0 : decide (0 ≤ bytes) = true := by simp; omega
    have t1 : decide (bytes < ((bstr d).size : Int)) = true := by simp; omega
    clear hcat hg htk htb e1 e2 e3 hd hn h hl ht hsl hsz hb
    generalize tk bytes d = dm at *
    generalize bstr ((get l n).getD []) = G at *
    generalize bstr ((get l n).getD [] ++ dm) = G1 at *
    generalize bstr dm = DM at *
    generalize bstr d = D at *
    generalize bstr n = N at *
    go_enter Try.func65, Try.ntmps65
    go_wp2
    go_end0
    exact ⟨rfl, h2, h3⟩
  · have htb : tk bytes d = d := by unfold tk; rw [if_neg hb]
    rw [htb] at a1 h1 h2 ⊢
    have t1 : 0 ≤ bytes → decide (bytes < ((bstr d).size : Int)) = false := fun q => by simp; omega
    clear hcat hg htk htb e1 e2 e3 hd hn h hl ht hsz hb
    generalize bstr ((get l n).getD []) = G at *
    generalize bstr ((get l n).getD [] ++ d) = G1 at *
    generalize bstr d = D at *
    generalize bstr n = N at *
    by_cases h0 : 0 ≤ bytes
    · have t0 : decide (0 ≤ bytes) = true := by simpa using h0
      have t1' := t1 h0
      clear h0 t1
      go_enter Try.func65, Try.ntmps65
      go_wp2
      go_end0
      exact ⟨rfl, h2, h3⟩
    · have t0 : decide (0 ≤ bytes) = false := by simpa using h0
      clear h0 t1
      go_enter Try.func65, Try.ntmps65
      go_wp2
      go_end0
      exact ⟨rfl, h2, h3⟩

set_option maxHeartbeats 400000 in
set_option maxRecDepth 10000 in
theorem ren_any (w : World) (b ba bb : Nat) (l : Fs) (n m : B) (x : Int) (h : OwnM w Try.prog 9 b l) (hd : boxS w ba n) (hn : boxS w bb m) (hl : l.length ≤ 1000) (hnl : n.length ≤ 100) (hml : m.length ≤ 100) (ht : total l ≤ 9223372036854775807) (hnd : (names l).Nodup) (ha : has l n = true) :
    Calls Try.prog 72 #[.map (some b), .int .i64 x, .pointer (some ⟨ba, 0, none⟩), .pointer (some ⟨bb, 0, none⟩)] w fun e w' =>
      e = .returned (.tuple #[]) ∧ OwnM w' Try.prog 9 b (ap l (.ren n m)) ∧ w.mapTurned w' b := by
  have c1 := hd.cell
  have hlk := (h.look und_str und_map (zero_str w) (bstr n) (by rw [bstr_size]; unfold maxLen; omega)).1
  rw [bstr_list] at hlk
  have hg := get_len_le l n
  have hmb : ∀ w1 : World, w1.heap[bb]? = w.heap[bb]? → w1.cell? ⟨bb, 0, none⟩ = some (.string (bstr m)) := fun w1 q => cell_of_one (q.trans hn)
  have hbb : bb ≠ b := by
    obtain ⟨D, ⟨es, cl, hm, _⟩, _⟩ := h
    intro q; subst q
    unfold boxS at hn
    rw [hm] at hn; cases hn
  have hother : ∀ w1 : World, w.mapTurned w1 b → w1.heap[bb]? = w.heap[bb]? := fun w1 q => q.grown.block bb (hn.lt) (fun q2 => hbb (Option.some.inj q2))
  obtain ⟨w1, w2, h1, h1m, g1, h2, h3⟩ := h.ren und_str und_map n m (by unfold maxLen; omega) (by unfold maxLen; omega) (by unfold maxLen; omega) (by unfold maxLen; omega) hnd ha 0
  have c2 := hmb w1 (hother w1 h1m)
  have e1 : (⟨((get l n).getD []).toArray⟩ : ByteArray) = bstr ((get l n).getD []) := rfl
  have e2 : (⟨n.toArray⟩ : ByteArray) = bstr n := rfl
  have e3 : (⟨m.toArray⟩ : ByteArray) = bstr m := rfl
  rw [e1] at hlk g1
  rw [e2] at h1
  rw [e3] at g1
  clear hg hmb hother h1m e1 e2 e3 hd hn hbb h hl ht hnd ha
  generalize bstr ((get l n).getD []) = G at *
  generalize bstr n = N at *
  generalize bstr m = M at *
  go_enter Try.func72, Try.ntmps72
  go_wp2
  go_end0
  exact ⟨rfl, h2, h3⟩

set_option maxHeartbeats 400000 in
set_option maxRecDepth 10000 in
theorem rem_any (w : World) (b bn : Nat) (l : Fs) (n : B) (x : Int) (h : OwnM w Try.prog 9 b l) (hd : boxS w bn n) (hnl : n.length ≤ 100) (hnd : (names l).Nodup) :
    Calls Try.prog 73 #[.map (some b), .int .i64 x, .pointer (some ⟨bn, 0, none⟩)] w fun e w' =>
      e = .returned (.tuple #[]) ∧ OwnM w' Try.prog 9 b (ap l (.rem n)) ∧ w.mapTurned w' b := by
  have c1 := hd.cell
  obtain ⟨w1, h1, h2, h3⟩ := h.rem und_str und_map n (by unfold maxLen; omega) hnd 0
  have e2 : (⟨n.toArray⟩ : ByteArray) = bstr n := rfl
  rw [e2] at h1
  clear e2 hd h hnd
  generalize bstr n = N at *
  go_enter Try.func73, Try.ntmps73
  go_wp2
  go_end0
  exact ⟨rfl, h2, h3⟩

end Go.Proofs.Ytbfgkcgnhgfkmaa.Dk

namespace Go.Proofs.Ytbfgkcgnhgfkmaa.Dk
open Go Go.Maps Go.RowKit
set_option linter.unusedVariables false
set_option linter.unusedSimpArgs false

def okC (x : Nat) : Bool := (decide (97 ≤ x) && decide (x ≤ 122)) || (decide (48 ≤ x) && decide (x ≤ 57)) || x == 45 || x == 46
theorem okName_eq (n : B) : okName n = (decide (1 ≤ n.length) && decide (n.length ≤ 32) && n.all fun c => okC c.toNat) := rfl
theorem take_all_succ (n : B) (k : Nat) (h : k < n.length) : ((n.take (k + 1)).all fun c => okC c.toNat) = (((n.take k).all fun c => okC c.toNat) && okC n[k].toNat) := by
  rw [List.take_succ_eq_append_getElem h, List.all_append]; simp
theorem idx_name (n : B) (k : Nat) (h : k < n.length) (w : World) : (Instr.index 9 (.string (bstr n)) (.int .i64 (k : Int))).run Try.prog w = .ok (.int .u8 (n[k].toNat : Nat)) w := by
  have hs := bstr_size n
  simp [Instr.index, run_underlying und_str, go_sem, hs, h]
  rfl
theorem all_bad (n : B) (k : Nat) (h : k < n.length) (hc : okC n[k].toNat = false) : okName n = false := by
  rw [okName_eq]
  have : (n.all fun c => okC c.toNat) = false := by rw [List.all_eq_false]; exact ⟨n[k], List.getElem_mem h, by simp [hc]⟩
  rw [this, Bool.and_false]

set_option maxHeartbeats 1000000 in
set_option maxRecDepth 10000 in
theorem valid_any (n : B) (w : World) (hl : n.length ≤ 9223372036854775807) :
    Calls Try.prog 62 #[.string (bstr n)] w fun e w' => e = .returned (.bool (okName n)) ∧ w = w' := by
  have hns : (bstr n).size = n.length := bstr_size n
  have hidx := idx_name n
  have HI := Lib.hid hidx
  have HT := Lib.hid (take_all_succ n)
  have HA := Lib.hid (all_bad n)
  have HO := Lib.hid (okName_eq n)
  clear hidx
  generalize bstr n = N at *
  by_cases h0 : n.length = 0 ∨ 32 < n.length
  · have e : okName n = false := by
      rw [HO.out]
      rcases h0 with h0 | h0
      · rw [decide_eq_false (p := 1 ≤ n.length) (by omega)]; rfl
      · rw [decide_eq_false (p := n.length ≤ 32) (by omega), Bool.and_false]; rfl
    rw [e]
    clear HI HT HA HO e
    rcases h0 with h0 | h0
    · have t0 : (((n.length : Int)) == 0) = true := by rw [beq_iff_eq]; omega
      clear h0
      go_enter Try.func62, Try.ntmps62
      go_wp2
      go_ret
      exact ⟨rfl, rfl⟩
    · have t0 : (((n.length : Int)) == 0) = false := by rw [beq_eq_false_iff_ne]; omega
      have t1 : decide (32 < (n.length : Int)) = true := by simp; omega
      clear h0
      go_enter Try.func62, Try.ntmps62
      go_wp2
      go_ret
      exact ⟨rfl, rfl⟩
  · have h1 : 1 ≤ n.length ∧ n.length ≤ 32 := by omega
    have H1 := Lib.hid h1
    have t0 : (((n.length : Int)) == 0) = false := by rw [beq_eq_false_iff_ne]; omega
    have t1 : decide (32 < (n.length : Int)) = false := by simp; omega
    clear h0 h1
    go_enter Try.func62, Try.ntmps62
    go_wp2
    go_loop [15] (fun i => ∃ k : Nat, k ≤ n.length ∧ i = .int .i64 k ∧ ((n.take k).all fun c => okC c.toNat) = true) (fun i => n.length - (intOf i).toNat)
    case atStart => exact ⟨0, by omega, rfl, rfl⟩
    case round =>
      obtain ⟨k, hk, rfl, ha⟩ := hrel
      by_cases hlt : k < n.length
      · have hi := HI.out k hlt
        have hs := HT.out k hlt
        have hbad := HA.out k hlt
        rw [ha, Bool.true_and] at hs
        have HS := Lib.hid hs
        have HB := Lib.hid hbad
        clear hs hbad ha
        generalize n[k].toNat = x at *
        rcases (show x < 45 ∨ x = 45 ∨ x = 46 ∨ x = 47 ∨ (48 ≤ x ∧ x ≤ 57) ∨ (58 ≤ x ∧ x < 97) ∨ (97 ≤ x ∧ x ≤ 122) ∨ 122 < x from by omega) with hx | hx | hx | hx | hx | hx | hx | hx
        · skip
          have hok : okC x = false := by unfold okC; simp; omega
          have HK := Lib.hid (HB.out hok)
          clear hok
          have u0 : decide ((x : Int) < 97) = true := by rw [decide_eq_true_eq]; omega
          have u1 : decide (122 < (x : Int)) = false := by rw [decide_eq_false_iff_not]; omega
          have u2 : decide ((x : Int) < 48) = true := by rw [decide_eq_true_eq]; omega
          have u3 : decide (57 < (x : Int)) = false := by rw [decide_eq_false_iff_not]; omega
          have v0 : ((x : Int) == 45) = false := by rw [beq_eq_false_iff_ne]; omega
          have w0 : ((x : Int) != 45) = true := by rw [bne_iff_ne]; omega
          have v1 : ((x : Int) == 46) = false := by rw [beq_eq_false_iff_ne]; omega
          have w1 : ((x : Int) != 46) = true := by rw [bne_iff_ne]; omega
          go_wp2
          go_ret
          exact ⟨by rw [HK.out]; rfl, rfl⟩
        · subst hx
          have hok : okC 45 = true := by rfl
          have HK := Lib.hid hok
          clear hok
          go_wp2
          go_round
          case rel => exact ⟨k + 1, by omega, by go_num, by rw [HS.out, HK.out]⟩
          case measure => simp [intOf]; omega
        · subst hx
          have hok : okC 46 = true := by rfl
          have HK := Lib.hid hok
          clear hok
          go_wp2
          go_round
          case rel => exact ⟨k + 1, by omega, by go_num, by rw [HS.out, HK.out]⟩
          case measure => simp [intOf]; omega
        · subst hx
          have hok : okC 47 = false := by rfl
          have HK := Lib.hid (HB.out hok)
          clear hok
          go_wp2
          go_ret
          exact ⟨by rw [HK.out]; rfl, rfl⟩
        · skip
          have hok : okC x = true := by unfold okC; simp; omega
          have HK := Lib.hid hok
          clear hok
          have u0 : decide ((x : Int) < 97) = true := by rw [decide_eq_true_eq]; omega
          have u1 : decide (122 < (x : Int)) = false := by rw [decide_eq_false_iff_not]; omega
          have u2 : decide ((x : Int) < 48) = false := by rw [decide_eq_false_iff_not]; omega
          have u3 : decide (57 < (x : Int)) = false := by rw [decide_eq_false_iff_not]; omega
          have v0 : ((x : Int) == 45) = false := by rw [beq_eq_false_iff_ne]; omega
          have w0 : ((x : Int) != 45) = true := by rw [bne_iff_ne]; omega
          have v1 : ((x : Int) == 46) = false := by rw [beq_eq_false_iff_ne]; omega
          have w1 : ((x : Int) != 46) = true := by rw [bne_iff_ne]; omega
          go_wp2
          go_round
          case rel => exact ⟨k + 1, by omega, by go_num, by rw [HS.out, HK.out]⟩
          case measure => simp [intOf]; omega
        · skip
          have hok : okC x = false := by unfold okC; simp; omega
          have HK := Lib.hid (HB.out hok)
          clear hok
          have u0 : decide ((x : Int) < 97) = true := by rw [decide_eq_true_eq]; omega
          have u1 : decide (122 < (x : Int)) = false := by rw [decide_eq_false_iff_not]; omega
          have u2 : decide ((x : Int) < 48) = false := by rw [decide_eq_false_iff_not]; omega
          have u3 : decide (57 < (x : Int)) = true := by rw [decide_eq_true_eq]; omega
          have v0 : ((x : Int) == 45) = false := by rw [beq_eq_false_iff_ne]; omega
          have w0 : ((x : Int) != 45) = true := by rw [bne_iff_ne]; omega
          have v1 : ((x : Int) == 46) = false := by rw [beq_eq_false_iff_ne]; omega
          have w1 : ((x : Int) != 46) = true := by rw [bne_iff_ne]; omega
          go_wp2
          go_ret
          exact ⟨by rw [HK.out]; rfl, rfl⟩
        · skip
          have hok : okC x = true := by unfold okC; simp; omega
          have HK := Lib.hid hok
          clear hok
          have u0 : decide ((x : Int) < 97) = false := by rw [decide_eq_false_iff_not]; omega
          have u1 : decide (122 < (x : Int)) = false := by rw [decide_eq_false_iff_not]; omega
          have u2 : decide ((x : Int) < 48) = false := by rw [decide_eq_false_iff_not]; omega
          have u3 : decide (57 < (x : Int)) = true := by rw [decide_eq_true_eq]; omega
          have v0 : ((x : Int) == 45) = false := by rw [beq_eq_false_iff_ne]; omega
          have w0 : ((x : Int) != 45) = true := by rw [bne_iff_ne]; omega
          have v1 : ((x : Int) == 46) = false := by rw [beq_eq_false_iff_ne]; omega
          have w1 : ((x : Int) != 46) = true := by rw [bne_iff_ne]; omega
          go_wp2
          go_round
          case rel => exact ⟨k + 1, by omega, by go_num, by rw [HS.out, HK.out]⟩
          case measure => simp [intOf]; omega
        · skip
          have hok : okC x = false := by unfold okC; simp; omega
          have HK := Lib.hid (HB.out hok)
          clear hok
          have u0 : decide ((x : Int) < 97) = false := by rw [decide_eq_false_iff_not]; omega
          have u1 : decide (122 < (x : Int)) = true := by rw [decide_eq_true_eq]; omega
          have u2 : decide ((x : Int) < 48) = false := by rw [decide_eq_false_iff_not]; omega
          have u3 : decide (57 < (x : Int)) = true := by rw [decide_eq_true_eq]; omega
          have v0 : ((x : Int) == 45) = false := by rw [beq_eq_false_iff_ne]; omega
          have w0 : ((x : Int) != 45) = true := by rw [bne_iff_ne]; omega
          have v1 : ((x : Int) == 46) = false := by rw [beq_eq_false_iff_ne]; omega
          have w1 : ((x : Int) != 46) = true := by rw [bne_iff_ne]; omega
          go_wp2
          go_ret
          exact ⟨by rw [HK.out]; rfl, rfl⟩
      · obtain rfl : k = n.length := by omega
        rw [List.take_length] at ha
        have e : okName n = true := by rw [HO.out, ha, decide_eq_true H1.out.1, decide_eq_true H1.out.2]; rfl
        have HE := Lib.hid e
        clear e ha
        go_wp2
        go_ret
        exact ⟨by rw [HE.out]; rfl, rfl⟩

set_option maxHeartbeats 1000000 in
set_option maxRecDepth 10000 in
theorem rvalid_any (n : B) (w : World) (hl : n.length ≤ 9223372036854775807) :
    Calls Try.prog 77 #[.string (bstr n)] w fun e w' => e = .returned (.bool (okName n)) ∧ w = w' := by
  have hns : (bstr n).size = n.length := bstr_size n
  have hidx := idx_name n
  have HI := Lib.hid hidx
  have HT := Lib.hid (take_all_succ n)
  have HA := Lib.hid (all_bad n)
  have HO := Lib.hid (okName_eq n)
  clear hidx
  generalize bstr n = N at *
  go_enter Try.func77, Try.ntmps77
  go_wp2
  go_loop [3] (fun i => ∃ k : Nat, k ≤ n.length ∧ i = .int .i64 k ∧ ((n.take k).all fun c => okC c.toNat) = true) (fun i => n.length - (intOf i).toNat)
  case atStart => exact ⟨0, by omega, rfl, rfl⟩
  case round =>
      obtain ⟨k, hk, rfl, ha⟩ := hrel
      by_cases hlt : k < n.length
      · have hi := HI.out k hlt
        have hs := HT.out k hlt
        have hbad := HA.out k hlt
        rw [ha, Bool.true_and] at hs
        have HS := Lib.hid hs
        have HB := Lib.hid hbad
        clear hs hbad ha
        generalize n[k].toNat = x at *
        rcases (show x < 45 ∨ x = 45 ∨ x = 46 ∨ x = 47 ∨ (48 ≤ x ∧ x ≤ 57) ∨ (58 ≤ x ∧ x < 97) ∨ (97 ≤ x ∧ x ≤ 122) ∨ 122 < x from by omega) with hx | hx | hx | hx | hx | hx | hx | hx
        · skip
          have hok : okC x = false := by unfold okC; simp; omega
          have HK := Lib.hid (HB.out hok)
          clear hok
          have u0 : decide (97 ≤ (x : Int)) = false := by rw [decide_eq_false_iff_not]; omega
          have u1 : decide ((x : Int) ≤ 122) = true := by rw [decide_eq_true_eq]; omega
          have u2 : decide (48 ≤ (x : Int)) = false := by rw [decide_eq_false_iff_not]; omega
          have u3 : decide ((x : Int) ≤ 57) = true := by rw [decide_eq_true_eq]; omega
          have v0 : ((x : Int) == 45) = false := by rw [beq_eq_false_iff_ne]; omega
          have w0 : ((x : Int) != 45) = true := by rw [bne_iff_ne]; omega
          have v1 : ((x : Int) == 46) = false := by rw [beq_eq_false_iff_ne]; omega
          have w1 : ((x : Int) != 46) = true := by rw [bne_iff_ne]; omega
          go_wp2
          go_ret
          exact ⟨by rw [HK.out]; rfl, rfl⟩
        · subst hx
          have hok : okC 45 = true := by rfl
          have HK := Lib.hid hok
          clear hok
          go_wp2
          go_round
          case rel => exact ⟨k + 1, by omega, by go_num, by rw [HS.out, HK.out]⟩
          case measure => simp [intOf]; omega
        · subst hx
          have hok : okC 46 = true := by rfl
          have HK := Lib.hid hok
          clear hok
          go_wp2
          go_round
          case rel => exact ⟨k + 1, by omega, by go_num, by rw [HS.out, HK.out]⟩
          case measure => simp [intOf]; omega
        · subst hx
          have hok : okC 47 = false := by rfl
          have HK := Lib.hid (HB.out hok)
          clear hok
          go_wp2
          go_ret
          exact ⟨by rw [HK.out]; rfl, rfl⟩
        · skip
          have hok : okC x = true := by unfold okC; simp; omega
          have HK := Lib.hid hok
          clear hok
          have u0 : decide (97 ≤ (x : Int)) = false := by rw [decide_eq_false_iff_not]; omega
          have u1 : decide ((x : Int) ≤ 122) = true := by rw [decide_eq_true_eq]; omega
          have u2 : decide (48 ≤ (x : Int)) = true := by rw [decide_eq_true_eq]; omega
          have u3 : decide ((x : Int) ≤ 57) = true := by rw [decide_eq_true_eq]; omega
          have v0 : ((x : Int) == 45) = false := by rw [beq_eq_false_iff_ne]; omega
          have w0 : ((x : Int) != 45) = true := by rw [bne_iff_ne]; omega
          have v1 : ((x : Int) == 46) = false := by rw [beq_eq_false_iff_ne]; omega
          have w1 : ((x : Int) != 46) = true := by rw [bne_iff_ne]; omega
          go_wp2
          go_round
          case rel => exact ⟨k + 1, by omega, by go_num, by rw [HS.out, HK.out]⟩
          case measure => simp [intOf]; omega
        · skip
          have hok : okC x = false := by unfold okC; simp; omega
          have HK := Lib.hid (HB.out hok)
          clear hok
          have u0 : decide (97 ≤ (x : Int)) = false := by rw [decide_eq_false_iff_not]; omega
          have u1 : decide ((x : Int) ≤ 122) = true := by rw [decide_eq_true_eq]; omega
          have u2 : decide (48 ≤ (x : Int)) = true := by rw [decide_eq_true_eq]; omega
          have u3 : decide ((x : Int) ≤ 57) = false := by rw [decide_eq_false_iff_not]; omega
          have v0 : ((x : Int) == 45) = false := by rw [beq_eq_false_iff_ne]; omega
          have w0 : ((x : Int) != 45) = true := by rw [bne_iff_ne]; omega
          have v1 : ((x : Int) == 46) = false := by rw [beq_eq_false_iff_ne]; omega
          have w1 : ((x : Int) != 46) = true := by rw [bne_iff_ne]; omega
          go_wp2
          go_ret
          exact ⟨by rw [HK.out]; rfl, rfl⟩
        · skip
          have hok : okC x = true := by unfold okC; simp; omega
          have HK := Lib.hid hok
          clear hok
          have u0 : decide (97 ≤ (x : Int)) = true := by rw [decide_eq_true_eq]; omega
          have u1 : decide ((x : Int) ≤ 122) = true := by rw [decide_eq_true_eq]; omega
          have u2 : decide (48 ≤ (x : Int)) = true := by rw [decide_eq_true_eq]; omega
          have u3 : decide ((x : Int) ≤ 57) = false := by rw [decide_eq_false_iff_not]; omega
          have v0 : ((x : Int) == 45) = false := by rw [beq_eq_false_iff_ne]; omega
          have w0 : ((x : Int) != 45) = true := by rw [bne_iff_ne]; omega
          have v1 : ((x : Int) == 46) = false := by rw [beq_eq_false_iff_ne]; omega
          have w1 : ((x : Int) != 46) = true := by rw [bne_iff_ne]; omega
          go_wp2
          go_round
          case rel => exact ⟨k + 1, by omega, by go_num, by rw [HS.out, HK.out]⟩
          case measure => simp [intOf]; omega
        · skip
          have hok : okC x = false := by unfold okC; simp; omega
          have HK := Lib.hid (HB.out hok)
          clear hok
          have u0 : decide (97 ≤ (x : Int)) = true := by rw [decide_eq_true_eq]; omega
          have u1 : decide ((x : Int) ≤ 122) = false := by rw [decide_eq_false_iff_not]; omega
          have u2 : decide (48 ≤ (x : Int)) = true := by rw [decide_eq_true_eq]; omega
          have u3 : decide ((x : Int) ≤ 57) = false := by rw [decide_eq_false_iff_not]; omega
          have v0 : ((x : Int) == 45) = false := by rw [beq_eq_false_iff_ne]; omega
          have w0 : ((x : Int) != 45) = true := by rw [bne_iff_ne]; omega
          have v1 : ((x : Int) == 46) = false := by rw [beq_eq_false_iff_ne]; omega
          have w1 : ((x : Int) != 46) = true := by rw [bne_iff_ne]; omega
          go_wp2
          go_ret
          exact ⟨by rw [HK.out]; rfl, rfl⟩
      · obtain rfl : k = n.length := by omega
        rw [List.take_length] at ha
        have e : okName n = (decide (1 ≤ n.length) && decide (n.length ≤ 32)) := by rw [HO.out, ha, Bool.and_true]
        have HE := Lib.hid e
        clear e ha
        by_cases g1 : 1 ≤ n.length
        · by_cases g2 : n.length ≤ 32
          · have e2 : okName n = true := by rw [HE.out, decide_eq_true g1, decide_eq_true g2]; rfl
            have HE2 := Lib.hid e2
            have t1 : decide (1 ≤ (n.length : Int)) = true := by simp; omega
            have t2 : decide ((n.length : Int) ≤ 32) = true := by simp; omega
            clear e2 g1 g2
            go_wp2
            go_ret
            exact ⟨by rw [HE2.out]; rfl, rfl⟩
          · have e2 : okName n = false := by rw [HE.out, decide_eq_false g2, Bool.and_false]
            have HE2 := Lib.hid e2
            have t1 : decide (1 ≤ (n.length : Int)) = true := by simp; omega
            have t2 : decide ((n.length : Int) ≤ 32) = false := by simp; omega
            clear e2 g1 g2
            go_wp2
            go_ret
            exact ⟨by rw [HE2.out]; rfl, rfl⟩
        · have e2 : okName n = false := by rw [HE.out, decide_eq_false g1, Bool.false_and]
          have HE2 := Lib.hid e2
          have t1 : decide (1 ≤ (n.length : Int)) = false := by simp; omega
          clear e2 g1
          go_wp2
          go_ret
          exact ⟨by rw [HE2.out]; rfl, rfl⟩

end Go.Proofs.Ytbfgkcgnhgfkmaa.Dk

namespace Go.Proofs.Ytbfgkcgnhgfkmaa.Dk
open Go Go.Maps Go.RowKit
set_option linter.unusedVariables false
set_option linter.unusedSimpArgs false

theorem grown_set (w : World) (b i : Nat) (v : Value) : w.grownBy (w.setCell ⟨b, i, none⟩ v) (some b) :=
  ⟨rfl, rfl, rfl, by simp, fun k _ hk => heap_setCell_other w _ k v fun e => hk (by rw [e])⟩
theorem grown_trans {w w1 w2 : World} {g : Option Nat} (h : w.grownBy w1 g) (h' : w1.grownBy w2 g) : w.grownBy w2 g :=
  ⟨h'.os.trans h.os, h'.tape.trans h.tape, h'.output.trans h.output, Nat.le_trans h.size h'.size, fun k hk hne => (h'.block k (Nat.lt_of_lt_of_le hk h.size) hne).trans (h.block k hk hne)⟩
theorem grown_refl (w : World) (g : Option Nat) : w.grownBy w g := ⟨rfl, rfl, rfl, Nat.le_refl _, fun _ _ _ => rfl⟩
/-- the block: capacity, durable, files, pending, off, fused, fuse -/
def blk (cap : Int) (dv fv pv : Value) (off fused : Bool) (fuse : Int) : Obj := .cells #[.int .i64 cap, dv, fv, pv, .bool off, .bool fused, .int .i64 fuse] 57 (0, 0)
theorem blk_set {w : World} {g : Nat} {cs : Array Value} {t : TypeId} (i : Nat) (v : Value) (h : w.heap[g]? = some (.cells cs t (0, 0))) : (w.setCell ⟨g, i, none⟩ v).heap[g]? = some (.cells (cs.setIfInBounds i v) t (0, 0)) := heap_setCell_same w g i cs t v h
theorem blk_cells {w : World} {g : Nat} {cap : Int} {dv fv pv : Value} {off fused : Bool} {fuse : Int} (h : w.heap[g]? = some (blk cap dv fv pv off fused fuse)) :
    w.cell? ⟨g, 0, none⟩ = some (.int .i64 cap) ∧ w.cell? ⟨g, 1, none⟩ = some dv ∧ w.cell? ⟨g, 2, none⟩ = some fv ∧ w.cell? ⟨g, 3, none⟩ = some pv ∧ w.cell? ⟨g, 4, none⟩ = some (.bool off) ∧ w.cell? ⟨g, 5, none⟩ = some (.bool fused) ∧ w.cell? ⟨g, 6, none⟩ = some (.int .i64 fuse) ∧
      ∀ i, w.frozen? ⟨g, i, none⟩ = false := by
  unfold blk at h
  refine ⟨?_, ?_, ?_, ?_, ?_, ?_, ?_, fun i => ?_⟩ <;> simp [World.cell?, World.frozen?, h]

theorem down_any (g : Nat) (w : World) (cap : Int) (dv fv pv : Value) (off fused : Bool) (fuse : Int) (h : w.heap[g]? = some (blk cap dv fv pv off fused fuse)) :
    Calls Try.prog 61 #[.pointer (some ⟨g, 0, none⟩)] w fun e w' => e = .returned (.bool off) ∧ w = w' := by
  obtain ⟨c0, c1, c2, c3, c4, c5, c6, hf⟩ := blk_cells h
  clear c0 c1 c2 c3 c5 c6 h hf
  go_enter Try.func61, Try.ntmps61
  go_wp2
  go_ret
  exact ⟨rfl, rfl⟩
theorem down_nil (w : World) : Calls Try.prog 61 #[.pointer none] w fun e w' => e = .returned (.bool true) ∧ w = w' := by
  go_enter Try.func61, Try.ntmps61
  go_wp2
  go_ret
  exact ⟨rfl, rfl⟩

/-- a map's value -/
def MapV (w : World) (F : Nat → Prop) (v : Value) (l : Fs) : Prop := (v = .map none ∧ l = []) ∨ ∃ b, v = .map (some b) ∧ F b ∧ OwnM w Try.prog 9 b l
theorem MapV.keep {w w' : World} {F F' : Nat → Prop} {v : Value} {l : Fs} (h : MapV w F v l) (hF : ∀ k, F k → F' k) (hb : ∀ k, F k → k < w.heap.size → w'.heap[k]? = w.heap[k]?) : MapV w' F' v l := by
  rcases h with h | ⟨b, rfl, hFb, ho⟩
  · exact .inl h
  · have hlt := ho.lt
    obtain ⟨D, ⟨es, clock, hh, r⟩, hm⟩ := ho
    exact .inr ⟨b, rfl, hF b hFb, D, ⟨es, clock, by rw [hb b hFb hlt]; exact hh, r⟩, hm⟩
theorem look_nilM (w : World) (s : ByteArray) (hs : s.size ≤ maxLen) : (Instr.lookup 54 (.map none) (.string s) true).run Try.prog w = .ok (.tuple #[.string ⟨#[]⟩, .bool false]) w ∧ (Instr.lookup 54 (.map none) (.string s) false).run Try.prog w = .ok (.string ⟨#[]⟩) w :=
  ⟨look_nil true (string_keyed und_str) und_map (zero_str w) (keyOf_str und_str s hs), look_nil false (string_keyed und_str) und_map (zero_str w) (keyOf_str und_str s hs)⟩
theorem MapV.look {w : World} {F : Nat → Prop} {v : Value} {l : Fs} (h : MapV w F v l) (n : B) (hn : n.length ≤ 140737488355328) :
    (Instr.lookup 54 v (.string (bstr n)) true).run Try.prog w = .ok (.tuple #[.string (bstr ((get l n).getD [])), .bool (has l n)]) w ∧
    (Instr.lookup 54 v (.string (bstr n)) false).run Try.prog w = .ok (.string (bstr ((get l n).getD []))) w := by
  rcases h with ⟨rfl, rfl⟩ | ⟨b, rfl, hF, ho⟩
  · exact look_nilM w _ (by rw [bstr_size]; unfold maxLen; omega)
  · have := ho.look und_str und_map (zero_str w) (bstr n) (by rw [bstr_size]; unfold maxLen; omega)
    rw [bstr_list] at this
    exact ⟨this.2, this.1⟩

theorem has_any (g : Nat) (w : World) (F : Nat → Prop) (l : Fs) (n : B) (cap : Int) (dv fv pv : Value) (off fused : Bool) (fuse : Int) (h : w.heap[g]? = some (blk cap dv fv pv off fused fuse)) (hm : MapV w F fv l) (hn : n.length ≤ 140737488355328) :
    Calls Try.prog 68 #[.pointer (some ⟨g, 0, none⟩), .string (bstr n)] w fun e w' => e = .returned (.bool (has l n)) ∧ w = w' := by
  obtain ⟨c0, c1, c2, c3, c4, c5, c6, hf⟩ := blk_cells h
  have hl := (hm.look n hn).1
  have hform : ∃ m, fv = .map m := by rcases hm with ⟨rfl, _⟩ | ⟨b, rfl, _⟩ <;> exact ⟨_, rfl⟩
  obtain ⟨m, rfl⟩ := hform
  clear c0 c1 c3 c4 c5 c6 h hf hm hn
  generalize bstr ((get l n).getD []) = G at *
  generalize bstr n = N at *
  go_enter Try.func68, Try.ntmps68
  go_wp2
  go_ret
  exact ⟨rfl, rfl⟩

/-- the state's own cells -/
def DB (w : World) (g : Nat) (s : St) (dv fv pv : Value) : Prop := ∃ fuse, w.heap[g]? = some (blk s.cap dv fv pv s.off (decide (0 < s.left)) fuse) ∧ (0 < s.left → fuse = s.left)

theorem blow_no (g : Nat) (w : World) (cap : Int) (dv fv pv : Value) (off fused : Bool) (fuse : Int) (h : w.heap[g]? = some (blk cap dv fv pv off fused fuse)) (hq : fused = false ∨ 0 < fuse) :
    Calls Try.prog 71 #[.pointer (some ⟨g, 0, none⟩)] w fun e w' => e = .returned (.tuple #[]) ∧ w = w' := by
  obtain ⟨c0, c1, c2, c3, c4, c5, c6, hf⟩ := blk_cells h
  clear c0 c1 c2 c3 c4 h hf
  cases fused with
  | false =>
    clear hq
    go_enter Try.func71, Try.ntmps71
    go_wp2
    go_end0
    exact ⟨rfl, rfl⟩
  | true =>
    have t0 : decide (fuse ≤ 0) = false := by
      rcases hq with hq | hq
      · cases hq
      · simp; omega
    clear hq
    go_enter Try.func71, Try.ntmps71
    go_wp2
    go_end0
    exact ⟨rfl, rfl⟩
theorem blow_yes (g : Nat) (w : World) (cap : Int) (dv fv pv : Value) (off : Bool) (fuse : Int) (h : w.heap[g]? = some (blk cap dv fv pv off true fuse)) (hq : fuse ≤ 0) :
    Calls Try.prog 71 #[.pointer (some ⟨g, 0, none⟩)] w fun e w' => e = .returned (.tuple #[]) ∧ w'.heap[g]? = some (blk cap dv fv pv true false fuse) ∧ w.grownBy w' (some g) := by
  obtain ⟨c0, c1, c2, c3, c4, c5, c6, hf⟩ := blk_cells h
  have t0 : decide (fuse ≤ 0) = true := by simpa using hq
  have c5' : (w.setCell ⟨g, 4, none⟩ (.bool true)).cell? ⟨g, 5, none⟩ = some (.bool true) := by simp [World.cell?, blk_set 4 (.bool true) h]
  have hf' : ∀ i, (w.setCell ⟨g, 4, none⟩ (.bool true)).frozen? ⟨g, i, none⟩ = false := fun i => by simp [World.frozen?, blk_set 4 (.bool true) h]
  have f4 := hf 4
  have f5 := hf' 5
  have H := Lib.hid h
  clear c0 c1 c2 c3 hq h hf hf'
  go_enter Try.func71, Try.ntmps71
  go_wp2
  go_end0
  refine ⟨rfl, ?_, grown_trans (grown_set w g 4 _) (grown_set _ g 5 _)⟩
  rw [blk_set 5 _ (blk_set 4 _ H.out)]
  rfl

end Go.Proofs.Ytbfgkcgnhgfkmaa.Dk

namespace Go.Proofs.Ytbfgkcgnhgfkmaa.Dk
open Go Go.Maps Go.RowKit Go.Proofs.Ytbfgkcgnhgfkmaa.Slc
set_option linter.unusedVariables false
set_option linter.unusedSimpArgs false

theorem done_any (g : Nat) (w : World) (s : St) (dv fv pv : Value) (h : DB w g s dv fv pv) (h1 : s.left ≤ 9223372036854775807) :
    Calls Try.prog 67 #[.pointer (some ⟨g, 0, none⟩)] w fun e w' => e = .returned (.int .i64 0) ∧ DB w' g s.spend dv fv pv ∧ w.grownBy w' (some g) := by
  have HD := Lib.hid h
  obtain ⟨fuse, hb, hfu⟩ := h
  by_cases hl : 0 < s.left
  · have hf := hfu hl
    subst hf
    rw [decide_eq_true hl] at hb
    have hoff : s.off = false := by unfold St.off; rw [decide_eq_false]; omega
    rw [hoff] at hb
    obtain ⟨c0, c1, c2, c3, c4, c5, c6, hfr⟩ := blk_cells hb
    have f6 := hfr 6
    have hw1 : (w.setCell ⟨g, 6, none⟩ (.int .i64 (s.left - 1))).heap[g]? = some (blk s.cap dv fv pv false true (s.left - 1)) := by
      unfold blk at hb
      rw [blk_set 6 _ hb]; rfl
    have q : IntKind.i64.wrap (s.left - 1) = s.left - 1 := IntWalk.i64_in _ (by omega)
    have hsp : s.spend = { s with left := s.left - 1 } := by unfold St.spend; rw [if_pos hl]
    have HS := Lib.hid hsp
    by_cases hz : s.left - 1 ≤ 0
    · have hbl := blow_yes g _ _ _ _ _ _ _ hw1 hz
      have hfin : ∀ w2 : World, w2.heap[g]? = some (blk s.cap dv fv pv true false (s.left - 1)) → DB w2 g s.spend dv fv pv := by
        intro w2 h2
        rw [hsp]
        refine ⟨s.left - 1, ?_, fun q => by simp only at q; omega⟩
        have e1 : St.off { s with left := s.left - 1 } = true := by unfold St.off; simp only; rw [decide_eq_true]; omega
        have e2 : decide (0 < s.left - 1) = false := by rw [decide_eq_false]; omega
        simp only [e1, e2]
        exact h2
      have HF := Lib.hid hfin
      clear hfin hsp c0 c1 c2 c3 c4 hb hfr hw1 hz hfu hoff hl
      generalize s.left = sl at *
      go_enter Try.func67, Try.ntmps67
      go_wp2_with fail
      go_at_call 71
      refine hbl.mono ?_
      rintro e w2 ⟨rfl, hh, hg⟩
      have hg := grown_trans (grown_set w g 6 _) hg
      go_wp2
      go_ret
      exact ⟨rfl, HF.out _ hh, hg⟩
    · have hbl := blow_no g _ _ _ _ _ _ _ _ hw1 (.inr (by omega))
      have hfin : DB (w.setCell ⟨g, 6, none⟩ (.int .i64 (s.left - 1))) g s.spend dv fv pv := by
        rw [hsp]
        refine ⟨s.left - 1, ?_, fun q => rfl⟩
        have e1 : St.off { s with left := s.left - 1 } = false := by unfold St.off; simp only; rw [decide_eq_false]; omega
        have e2 : decide (0 < s.left - 1) = true := by rw [decide_eq_true]; omega
        simp only [e1, e2]
        exact hw1
      have HF := Lib.hid hfin
      clear hfin hsp c0 c1 c2 c3 c4 hb hfr hw1 hz hfu hoff hl
      generalize s.left = sl at *
      go_enter Try.func67, Try.ntmps67
      go_wp2_with fail
      go_at_call 71
      refine hbl.mono ?_
      rintro e w2 ⟨rfl, rfl⟩
      go_wp2
      go_ret
      exact ⟨rfl, HF.out, grown_set w g 6 _⟩
  · rw [decide_eq_false hl] at hb
    obtain ⟨c0, c1, c2, c3, c4, c5, c6, hfr⟩ := blk_cells hb
    have hsp : s.spend = s := by unfold St.spend; rw [if_neg hl]
    have hfin : DB w g s.spend dv fv pv := by rw [hsp]; exact HD.out
    have HF := Lib.hid hfin
    clear hfin hsp c0 c1 c2 c3 c4 c6 hb hfr hfu hl
    go_enter Try.func67, Try.ntmps67
    go_wp2
    go_ret
    exact ⟨rfl, HF.out, grown_refl w _⟩

theorem pending_any (g : Nat) (w : World) (cap : Int) (dv fv : Value) (ad : Option Addr) (n c : Nat) (off fused : Bool) (fuse : Int) (h : w.heap[g]? = some (blk cap dv fv (.slice ad n c) off fused fuse)) :
    Calls Try.prog 33 #[.pointer (some ⟨g, 0, none⟩)] w fun e w' => e = .returned (.int .i64 n) ∧ w = w' := by
  obtain ⟨c0, c1, c2, c3, c4, c5, c6, hf⟩ := blk_cells h
  clear c0 c1 c2 c4 c5 c6 h hf
  go_enter Try.func33, Try.ntmps33
  go_wp2
  go_ret
  exact ⟨rfl, rfl⟩

theorem new_any (cap : Int) (w : World) :
    Calls Try.prog 20 #[.int .i64 cap] w fun e w' => e = .returned (.pointer (some ⟨w.heap.size, 0, none⟩)) ∧ w' = w.alloc (blk (max cap 0) (.map none) (.map none) (.slice none 0 0) false false 0) := by
  by_cases hc : 0 ≤ cap
  · rw [show max cap 0 = cap by omega]
    go_enter Try.func20, Try.ntmps20
    go_wp2
    all_goals first
      | omega
      | (go_ret; exact ⟨rfl, rfl⟩)
      | (obtain rfl : cap = 0 := by omega
         go_ret; exact ⟨rfl, rfl⟩)
  · rw [show max cap 0 = 0 by omega]
    go_enter Try.func20, Try.ntmps20
    go_wp2
    all_goals first
      | omega
      | (go_ret; exact ⟨rfl, rfl⟩)

set_option maxHeartbeats 1000000 in
theorem fits_any (g : Nat) (w : World) (F : Nat → Prop) (s : St) (hs : s.Ok) (n : B) (more : Nat) (dv fv pv : Value) (off fused : Bool) (fuse : Int) (h : w.heap[g]? = some (blk s.cap dv fv pv off fused fuse)) (hm : MapV w F fv s.files) (hn : n.length ≤ 140737488355328) :
    Calls Try.prog 63 #[.pointer (some ⟨g, 0, none⟩), .string (bstr n), .int .i64 more] w fun e w' => e = .returned (.bool (s.fits n more)) ∧ Below w.heap.size w w' := by
  obtain ⟨c0, c1, c2, c3, c4, c5, c6, hf⟩ := blk_cells h
  have hl := (hm.look n hn).1
  have ht := hs.tot'
  have hc := hs.cnt'
  have hcap := hs.cap1
  clear c1 c3 c4 c5 c6 hf
  have hfit : s.fits n more = (!(!has s.files n && decide (16 ≤ s.files.length)) && decide ((more : Int) ≤ s.cap - total s.files)) := rfl
  have HFit := Lib.hid hfit
  clear hfit
  rcases hm with ⟨rfl, hnil⟩ | ⟨b, rfl, hFb, ho⟩
  · have hg : has s.files n = false := by rw [hnil]; rfl
    have h0 : s.files.length = 0 ∧ total s.files = 0 := by rw [hnil]; exact ⟨rfl, rfl⟩
    have hv : s.fits n more = decide ((more : Int) ≤ s.cap) := by rw [HFit.out, hg, h0.1, h0.2]; simp
    have HV := Lib.hid hv
    rw [hg] at hl
    have hrg := fun W : World => run_range_nilMap (P := Try.prog) W 54 9 9 und_map
    clear hv HFit hg h0 hnil ht hc h
    generalize s.cap = cap at *
    generalize bstr ((get s.files n).getD []) = G at *
    generalize bstr n = N at *
    go_enter Try.func63, Try.ntmps63
    have hnx : ∀ ty, (Instr.next (.pointer (some ⟨w.heap.size, 0, none⟩)) false ty).run Try.prog (w.alloc (.mapIter none 0 #[] 0)) = _ := fun ty => run_next_nilMap w ty 0 0 #[]
    go_wp2
    refine wp_loop_rounds 1 ?_
    rw [rounds_succ]
    go_wp2
    go_ret
    exact ⟨by rw [HV.out]; rfl, (Below.refl _ w).alloc (Nat.le_refl _) _⟩
  · have hlen := ho.len und_map
    obtain ⟨D, hown, hM⟩ := ho
    have hnd := hs.nodup'
    generalize s.files = l at *
    have HND := Lib.hid hnd
    have hstart := outSum_start l
    have hls := hM.has_
    have HLS := Lib.hid hls
    have HST := Lib.hid hstart
    have hle := outSum_le l
    have HLE := Lib.hid hle
    by_cases hx : (!has l n && decide (16 ≤ l.length)) = true
    · have hv : s.fits n more = false := by rw [HFit.out, hx]; rfl
      have HV := Lib.hid hv
      simp only [Bool.and_eq_true, Bool.not_eq_true', decide_eq_true_eq] at hx
      rw [hx.1] at hl
      have t0 : decide (16 ≤ (l.length : Int)) = true := by simp; omega
      clear hv HFit hx ht hc h hown hM hnd hstart hls hle
      generalize s.cap = cap at *
      generalize bstr ((get l n).getD []) = G at *
      generalize bstr n = N at *
      go_enter Try.func63, Try.ntmps63
      go_wp2
      go_ret
      exact ⟨by rw [HV.out]; rfl, Below.refl _ w⟩
    · have hv : s.fits n more = decide ((more : Int) ≤ s.cap - total l) := by rw [HFit.out, Bool.eq_false_iff.2 hx]; rfl
      have HV := Lib.hid hv
      have hx2 : has l n = true ∨ (has l n = false ∧ decide (16 ≤ (l.length : Int)) = false) := by
        cases q : has l n
        · right; refine ⟨rfl, ?_⟩
          rw [q] at hx; simp at hx; simp; omega
        · exact .inl rfl
      clear hv HFit hx hc h hnd hstart hls hle
      generalize bstr ((get l n).getD []) = G at *
      generalize bstr n = N at *
      rcases hx2 with hq | ⟨hq, t0⟩
      · rw [hq] at hl
        go_enter Try.func63, Try.ntmps63
        go_wp2_with (at_range; refine wpList_range_own _ rfl _ 54 rfl 9 9 (string_keyed und_str) und_map _ b _ D rfl hown ?_; intro w0 hrg0 hg0 hs0)
        have hB0 : Below w.heap.size w w0 := (Below.refl w.heap.size w).grown hg0 (Nat.le_refl _) (fun k hk => by cases hk)
        go_frame
        go_loopw [9] (fun acc wr => ∃ (left : Lit → Bool) (cnt : Nat), wr.ranges Try.prog 9 (plainElem Try.prog 9) b w.heap.size l.length D left cnt ∧ acc = .int .i64 (s.cap - (outSum l fun m => left (.string m) : Nat)) ∧ Below w.heap.size w wr) (fun _ wr => wr.rangeLeft b w.heap.size)
        case atStart =>
          refine ⟨_, _, hrg0, ?_, hB0⟩
          rw [show (fun m => Maps.has D (.string m)) = has l from funext HLS.out, HST.out]; simp
        case round =>
          obtain ⟨left, cnt, hrg, rfl, hgw⟩ := hrel
          have hle := HLE.out fun m => left (.string m)
          generalize hos : (outSum l fun m => left (.string m)) = os at *
          have HOS := Lib.hid hos
          clear hos
          go_wp2_with (at_next; refine next_fs und_str hM rfl _ rfl rfl hrg ?_ ?_)
          · intro _ hl0
            have he : os = total l := by rw [← HOS.out]; exact outSum_end l _ hl0
            have HE := Lib.hid he
            clear he
            go_wp2
            go_ret
            exact ⟨by rw [HV.out, ← HE.out]; rfl, hgw⟩
          · intro x c w1 cnt1 hlx hgx hrg1 hlt hg1 hs1 hen
            have hstep := outSum_step l (fun m => left (.string m)) x.data.toList c.data.toList HND.out hlx hgx
            have hgw1 := hgw.grown hg1 hgw.size (fun k hk => by cases hk; exact Nat.le_refl _)
            have hsame : (fun m : B => left (.string m) && !(Lit.string m).sameKey (.string x.data.toList)) = fun m => left (.string m) && !decide (m = x.data.toList) := funext fun m => by rw [same_str]
            have hcs : c.data.toList.length = c.size := by simp
            rw [HOS.out, hcs] at hstep
            have hle2 := HLE.out fun m => left (.string m) && !decide (m = x.data.toList)
            rw [hstep] at hle2
            have HSP := Lib.hid hstep
            have HSM := Lib.hid hsame
            clear hstep hsame hgx hlx hcs
            have q1 : IntKind.i64.wrap (s.cap - (os : Int) - (c.size : Int)) = s.cap - ((os + c.size : Nat) : Int) := by rw [IntWalk.i64_in _ (by omega)]; omega
            go_wp2
            go_roundw
            case rel => exact ⟨_, cnt1, hrg1, by rw [HSM.out, HSP.out, Int.natCast_add], hgw1⟩
            case measure => rw [hrg1.left_eq, hrg.left_eq]; exact hlt
      · rw [hq] at hl
        go_enter Try.func63, Try.ntmps63
        go_wp2_with (at_range; refine wpList_range_own _ rfl _ 54 rfl 9 9 (string_keyed und_str) und_map _ b _ D rfl hown ?_; intro w0 hrg0 hg0 hs0)
        have hB0 : Below w.heap.size w w0 := (Below.refl w.heap.size w).grown hg0 (Nat.le_refl _) (fun k hk => by cases hk)
        go_frame
        go_loopw [9] (fun acc wr => ∃ (left : Lit → Bool) (cnt : Nat), wr.ranges Try.prog 9 (plainElem Try.prog 9) b w.heap.size l.length D left cnt ∧ acc = .int .i64 (s.cap - (outSum l fun m => left (.string m) : Nat)) ∧ Below w.heap.size w wr) (fun _ wr => wr.rangeLeft b w.heap.size)
        case atStart =>
          refine ⟨_, _, hrg0, ?_, hB0⟩
          rw [show (fun m => Maps.has D (.string m)) = has l from funext HLS.out, HST.out]; simp
        case round =>
          obtain ⟨left, cnt, hrg, rfl, hgw⟩ := hrel
          have hle := HLE.out fun m => left (.string m)
          generalize hos : (outSum l fun m => left (.string m)) = os at *
          have HOS := Lib.hid hos
          clear hos
          go_wp2_with (at_next; refine next_fs und_str hM rfl _ rfl rfl hrg ?_ ?_)
          · intro _ hl0
            have he : os = total l := by rw [← HOS.out]; exact outSum_end l _ hl0
            have HE := Lib.hid he
            clear he
            go_wp2
            go_ret
            exact ⟨by rw [HV.out, ← HE.out]; rfl, hgw⟩
          · intro x c w1 cnt1 hlx hgx hrg1 hlt hg1 hs1 hen
            have hstep := outSum_step l (fun m => left (.string m)) x.data.toList c.data.toList HND.out hlx hgx
            have hgw1 := hgw.grown hg1 hgw.size (fun k hk => by cases hk; exact Nat.le_refl _)
            have hsame : (fun m : B => left (.string m) && !(Lit.string m).sameKey (.string x.data.toList)) = fun m => left (.string m) && !decide (m = x.data.toList) := funext fun m => by rw [same_str]
            have hcs : c.data.toList.length = c.size := by simp
            rw [HOS.out, hcs] at hstep
            have hle2 := HLE.out fun m => left (.string m) && !decide (m = x.data.toList)
            rw [hstep] at hle2
            have HSP := Lib.hid hstep
            have HSM := Lib.hid hsame
            clear hstep hsame hgx hlx hcs
            have q1 : IntKind.i64.wrap (s.cap - (os : Int) - (c.size : Int)) = s.cap - ((os + c.size : Nat) : Int) := by rw [IntWalk.i64_in _ (by omega)]; omega
            go_wp2
            go_roundw
            case rel => exact ⟨_, cnt1, hrg1, by rw [HSM.out, HSP.out, Int.natCast_add], hgw1⟩
            case measure => rw [hrg1.left_eq, hrg.left_eq]; exact hlt

end Go.Proofs.Ytbfgkcgnhgfkmaa.Dk

namespace Go.Proofs.Ytbfgkcgnhgfkmaa.Dk
open Go Go.Maps Go.RowKit Go.Proofs.Ytbfgkcgnhgfkmaa.Slc
set_option linter.unusedVariables false
set_option linter.unusedSimpArgs false

/-- a change's function, by what it captures -/
inductive Cv
  | app (bd bn : Nat)
  | ren (ba bb : Nat)
  | rem (bn : Nat)
def ptr (b : Nat) : Value := .pointer (some ⟨b, 0, none⟩)
def Cv.fn : Cv → Value
  | .app bd bn => .func (.func 65) #[] #[ptr bd, ptr bn]
  | .ren ba bb => .func (.func 72) #[] #[ptr ba, ptr bb]
  | .rem bn => .func (.func 73) #[] #[ptr bn]
def Cv.ap : Cv → Bool
  | .app _ _ => true
  | _ => false
def encV (c : Cv) : List Value := [c.fn, .bool c.ap]
theorem encV_ok : Enc 2 encV := ⟨fun c => rfl, fun c u hu => by
  simp only [encV, List.mem_cons, List.not_mem_nil, or_false] at hu
  rcases hu with rfl | rfl
  · cases c <;> rfl
  · rfl, by omega⟩
def CvV (w : World) (R : Nat → Prop) : Cv → Ch → Prop
  | .app bd bn, .app n d => R bd ∧ R bn ∧ boxS w bd d ∧ boxS w bn n ∧ n.length ≤ 100
  | .ren ba bb, .ren a b => R ba ∧ R bb ∧ boxS w ba a ∧ boxS w bb b ∧ a.length ≤ 100 ∧ b.length ≤ 100
  | .rem bn, .rem n => R bn ∧ boxS w bn n ∧ n.length ≤ 100
  | _, _ => False
theorem CvV.keep {w w' : World} {R R' : Nat → Prop} {c : Cv} {ch : Ch} (h : CvV w R c ch) (hR : ∀ k, R k → R' k) (hb : ∀ k, R k → k < w.heap.size → w'.heap[k]? = w.heap[k]?) : CvV w' R' c ch := by
  have key : ∀ {b : Nat} {d : B}, R b → boxS w b d → boxS w' b d := fun hr hx => (hb _ hr hx.lt).trans hx
  cases c <;> cases ch <;> simp only [CvV] at h ⊢
  · exact ⟨hR _ h.1, hR _ h.2.1, key h.1 h.2.2.1, key h.2.1 h.2.2.2.1, h.2.2.2.2⟩
  · exact ⟨hR _ h.1, hR _ h.2.1, key h.1 h.2.2.1, key h.2.1 h.2.2.2.1, h.2.2.2.2⟩
  · exact ⟨hR _ h.1, key h.1 h.2.1, h.2.2⟩
def Cvs (w : World) (R : Nat → Prop) : List Cv → List Ch → Prop
  | [], [] => True
  | c :: cs, ch :: chs => CvV w R c ch ∧ Cvs w R cs chs
  | _, _ => False
theorem Cvs.keep {w w' : World} {R R' : Nat → Prop} (hR : ∀ k, R k → R' k) (hb : ∀ k, R k → k < w.heap.size → w'.heap[k]? = w.heap[k]?) : ∀ {cs : List Cv} {chs : List Ch}, Cvs w R cs chs → Cvs w' R' cs chs
  | [], [], _ => trivial
  | [], _ :: _, h => h.elim
  | _ :: _, [], h => h.elim
  | _ :: _, _ :: _, h => ⟨h.1.keep hR hb, Cvs.keep hR hb h.2⟩
theorem Cvs.length {w : World} {R : Nat → Prop} : ∀ {cs : List Cv} {chs : List Ch}, Cvs w R cs chs → cs.length = chs.length
  | [], [], _ => rfl
  | [], _ :: _, h => h.elim
  | _ :: _, [], h => h.elim
  | _ :: _, _ :: _, h => by simp [Cvs.length h.2]
theorem Cvs.snoc {w : World} {R : Nat → Prop} {c : Cv} {ch : Ch} (hc : CvV w R c ch) : ∀ {cs : List Cv} {chs : List Ch}, Cvs w R cs chs → Cvs w R (cs ++ [c]) (chs ++ [ch])
  | [], [], _ => ⟨hc, trivial⟩
  | [], _ :: _, h => h.elim
  | _ :: _, [], h => h.elim
  | _ :: _, _ :: _, h => ⟨h.1, Cvs.snoc hc h.2⟩
theorem Cvs.get {w : World} {R : Nat → Prop} : ∀ {cs : List Cv} {chs : List Ch} (_ : Cvs w R cs chs) (k : Nat) (h1 : k < cs.length) (h2 : k < chs.length), CvV w R cs[k] chs[k]
  | [], [], _, k, h1, _ => by simp at h1
  | [], _ :: _, h, _, _, _ => h.elim
  | _ :: _, [], h, _, _, _ => h.elim
  | _ :: _, _ :: _, h, 0, _, _ => h.1
  | _ :: _, _ :: _, h, k + 1, h1, h2 => Cvs.get h.2 k (by simpa using h1) (by simpa using h2)

/-- blocks outside F, and below the old size, are as they were -/
structure Fr (F : Nat → Prop) (w w' : World) : Prop where
  os : w'.os = w.os
  tape : w'.tape = w.tape
  output : w'.output = w.output
  size : w.heap.size ≤ w'.heap.size
  block : ∀ k, k < w.heap.size → ¬ F k → w'.heap[k]? = w.heap[k]?
theorem Fr.refl (F : Nat → Prop) (w : World) : Fr F w w := ⟨rfl, rfl, rfl, Nat.le_refl _, fun _ _ _ => rfl⟩
theorem Fr.trans {F G : Nat → Prop} {a b c : World} (h : Fr F a b) (h' : Fr G b c) (hG : ∀ k, G k → F k ∨ a.heap.size ≤ k) : Fr F a c :=
  ⟨h'.os.trans h.os, h'.tape.trans h.tape, h'.output.trans h.output, Nat.le_trans h.size h'.size, fun k hk hF => (h'.block k (Nat.lt_of_lt_of_le hk h.size) fun hg => by
    rcases hG k hg with q | q
    · exact hF q
    · omega).trans (h.block k hk hF)⟩
theorem Fr.below {F : Nat → Prop} {w w' : World} (h : Below w.heap.size w w') : Fr F w w' := ⟨h.os, h.tape, h.output, h.size, fun k hk _ => h.block k hk⟩
theorem Fr.grown {F : Nat → Prop} {w w' : World} {row : Option Nat} (h : w.grownBy w' row) (hF : ∀ k, row = some k → k < w.heap.size → F k) : Fr F w w' :=
  ⟨h.os, h.tape, h.output, h.size, fun k hk hn => h.block k hk fun e => hn (hF k e.symm hk)⟩
theorem Fr.mono {F G : Nat → Prop} {w w' : World} (h : Fr F w w') (hG : ∀ k, k < w.heap.size → F k → G k) : Fr G w w' := ⟨h.os, h.tape, h.output, h.size, fun k hk hn => h.block k hk fun q => hn (hG k hk q)⟩
theorem Fr.toBelow {F : Nat → Prop} {w w' : World} {B : Nat} (h : Fr F w w') (hB : B ≤ w.heap.size) (hF : ∀ k, F k → B ≤ k) : Below B w w' := ⟨h.os, h.tape, h.output, h.size, fun k hk => h.block k (by omega) fun q => by have := hF k q; omega⟩

/-- the disk in block g, in state s; F: what its calls write; R: what they only read -/
structure RepP (w : World) (g : Nat) (s : St) (F R : Nat → Prop) : Prop where
  ok : s.Ok
  body : ∃ dv fv pv cs, DB w g s dv fv pv ∧ MapV w R dv s.dur ∧ MapV w F fv s.files ∧ Own w 0 85 2 encV pv cs ∧ Cvs w R cs s.ops ∧ ∀ k, pv.ownBlock = some k → F k
  Fg : F g
  Flt : ∀ k, F k → k < w.heap.size
  Rlt : ∀ k, R k → k < w.heap.size
  dis : ∀ k, F k → ¬ R k
theorem DB.keep {w w' : World} {g : Nat} {s : St} {dv fv pv : Value} (h : DB w g s dv fv pv) (hb : w'.heap[g]? = w.heap[g]?) : DB w' g s dv fv pv := by
  obtain ⟨fuse, h1, h2⟩ := h; exact ⟨fuse, hb.trans h1, h2⟩
theorem RepP.keep {w w' : World} {g : Nat} {s : St} {F R : Nat → Prop} (h : RepP w g s F R) (hs : w.heap.size ≤ w'.heap.size) (hb : ∀ k, F k ∨ R k → w'.heap[k]? = w.heap[k]?) : RepP w' g s F R := by
  obtain ⟨dv, fv, pv, cs, h1, h2, h3, h4, h5, h6⟩ := h.body
  exact ⟨h.ok, ⟨dv, fv, pv, cs, h1.keep (hb g (.inl h.Fg)), h2.keep (fun _ q => q) fun k q _ => hb k (.inr q), h3.keep (fun _ q => q) fun k q _ => hb k (.inl q), h4.keep fun k q _ => hb k (.inl (h6 k q)), h5.keep (fun _ q => q) fun k q _ => hb k (.inr q), h6⟩,
    h.Fg, fun k q => Nat.lt_of_lt_of_le (h.Flt k q) hs, fun k q => Nat.lt_of_lt_of_le (h.Rlt k q) hs, h.dis⟩
theorem RepP.frame {w w' : World} {g : Nat} {s : St} {F R G : Nat → Prop} (h : RepP w g s F R) (hf : Fr G w w') (hG : ∀ k, F k ∨ R k → ¬ G k) : RepP w' g s F R :=
  h.keep hf.size fun k q => hf.block k (q.elim (h.Flt k) (h.Rlt k)) (hG k q)

end Go.Proofs.Ytbfgkcgnhgfkmaa.Dk
