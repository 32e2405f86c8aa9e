/-
  The contract of put: it appends the digits of a number to bytes that the call itself owns.
-/
import Derived.Test.YtmmoimemfdbfgaaDoorDateE
import Derived.Deep.AppendLies
import Derived.Lib.SmallJoins
namespace Go.Proofs.YtmmoimemfdbfgaaDoor
open Go.RowKit

def byteV (b : UInt8) : Value := .int .u8 (b.toNat : Int)
/-- a slice value owns these bytes -/
def OwnB (w : World) (B : Nat) (v : Value) (l : List UInt8) : Prop := w.ownsRow B 5 1 v l.length (l.map byteV)
theorem OwnB.nil (w : World) (B : Nat) : OwnB w B (.slice none 0 0) [] := World.ownsRow_nil _ _ _ _
theorem OwnB.form {w : World} {B : Nat} {v : Value} {l : List UInt8} (h : OwnB w B v l) : ∃ a cap, v = .slice a l.length cap := by
  rcases Go.Joins.ownsRow_forms h with ⟨h1, h2⟩ | ⟨g, cap, h1⟩
  · exact ⟨none, 0, by rw [h1, h2]⟩
  · exact ⟨_, cap, h1⟩
theorem OwnB.pos {w : World} {B : Nat} {v : Value} {l : List UInt8} (h : OwnB w B v l) (hl : 0 < l.length) : ∃ g cap, v = .slice (some ⟨g, 0, none⟩) l.length cap := Go.Joins.ownsRow_form h hl

/-- what appending to a slice of the call's own does to the world -/
structure Grew (w0 : World) (v0 : Value) (w : World) (v : Value) : Prop where
  grown : w0.grownBy w v0.ownBlock
  own : v.ownBlock = v0.ownBlock ∨ ∃ g, v.ownBlock = some g ∧ w0.heap.size ≤ g
theorem Grew.refl (w : World) (v : Value) : Grew w v w v := ⟨⟨rfl, rfl, rfl, Nat.le_refl _, fun _ _ _ => rfl⟩, .inl rfl⟩
theorem grown_trans {w0 w1 w2 : World} {b : Option Nat} (h : w0.grownBy w1 b) (k : w1.grownBy w2 b) : w0.grownBy w2 b :=
  ⟨k.os.trans h.os, k.tape.trans h.tape, k.output.trans h.output, Nat.le_trans h.size k.size, fun i hi hn => (k.block i (Nat.lt_of_lt_of_le hi h.size) hn).trans (h.block i hi hn)⟩
theorem Grew.trans {w0 w1 w2 : World} {v0 v1 v2 : Value} (h : Grew w0 v0 w1 v1) (k : Grew w1 v1 w2 v2) : Grew w0 v0 w2 v2 := by
  refine ⟨⟨k.grown.os.trans h.grown.os, k.grown.tape.trans h.grown.tape, k.grown.output.trans h.grown.output, Nat.le_trans h.grown.size k.grown.size, fun i hi hn => ?_⟩, ?_⟩
  · refine (k.grown.block i (Nat.lt_of_lt_of_le hi h.grown.size) ?_).trans (h.grown.block i hi hn)
    rcases h.own with e | ⟨g, e, hg⟩
    · rw [e]; exact hn
    · rw [e]; intro he; cases he; omega
  · rcases k.own with e | ⟨g, e, hg⟩
    · rcases h.own with e' | ⟨g, e', hg⟩
      · exact .inl (e.trans e')
      · exact .inr ⟨g, e.trans e', hg⟩
    · exact .inr ⟨g, e, Nat.le_trans h.grown.size hg⟩
theorem Grew.alloc {w0 w : World} {v0 v : Value} (h : Grew w0 v0 w v) (o : Obj) : Grew w0 v0 (w.alloc o) v := h.trans ⟨World.grownBy_alloc _ _ _, .inl rfl⟩
/-- behind append's law: v' lies where v lay, or in the block H -/
theorem Grew.appended {w0 w w' : World} {v0 v : Value} {g n cap H : Nat} (h : Grew w0 v0 w v) (hg : w.grownBy w' v.ownBlock) (hb : v.ownBlock = some g ∨ g = H) (hH : w.heap.size ≤ H) :
    Grew w0 v0 w' (.slice (some ⟨g, 0, none⟩) n cap) :=
  h.trans ⟨hg, hb.elim (fun e => .inl e.symm) (fun e => .inr ⟨g, rfl, by omega⟩)⟩

theorem info_u8 : (Tryd.prog.info? 5).map (fun i => (i.zero, i.size, i.bytes)) = some (some (.int .u8 0), 1, 1) := by kernel_rfl

theorem one_byte {w : World} (b : Int) : ∀ j u, [Value.int .u8 b][j]? = some u → (w.alloc (.cells #[.int .u8 b] 5)).cell? ((⟨w.heap.size, 0, none⟩ : Addr).add j) = some u := by
  intro j u hj
  match j, hj with
  | 0, hj => simp at hj; subst hj; simp [Addr.add]

theorem put_rel {w : World} {B : Nat} {g cap d j : Nat} {l : List UInt8} {n : Int} (hj : j < d)
    (hown : OwnB w B (.slice (some ⟨g, 0, none⟩) (l.length + d) cap) (l ++ (List.replicate (d - j) 48 ++ Dig.low j n))) :
    OwnB (w.setCell ⟨g, l.length + d - 1 - j, none⟩ (.int .u8 (48 + n / 10 ^ j % 10))) B (.slice (some ⟨g, 0, none⟩) (l.length + d) cap) (l ++ (List.replicate (d - (j + 1)) 48 ++ Dig.low (j + 1) n)) ∧
    w.grownBy (w.setCell ⟨g, l.length + d - 1 - j, none⟩ (.int .u8 (48 + n / 10 ^ j % 10))) (some g) := by
  have hlen : (l ++ (List.replicate (d - j) (48 : UInt8) ++ Dig.low j n)).length = l.length + d := by simp [Dig.low_length]; omega
  have hlen' : (l ++ (List.replicate (d - (j + 1)) (48 : UInt8) ++ Dig.low (j + 1) n)).length = l.length + d := by simp [Dig.low_length]; omega
  unfold OwnB at hown ⊢
  rw [hlen] at hown
  rw [hlen']
  have h := hown.stored (l.length + d - 1 - j) (.int .u8 (48 + n / 10 ^ j % 10))
  refine ⟨?_, h.2⟩
  have e : (Value.int .u8 (48 + n / 10 ^ j % 10)) = byteV (Dig.dg (n / 10 ^ j % 10)) := by
    unfold byteV; rw [Dig.dg_toNat _ (by omega) (by omega)]
  have h1 := h.1
  rw [e, ← List.map_set, Dig.low_set l d j n hj] at h1
  rw [e]
  exact h1

theorem OwnB.snoc {w : World} {B n : Nat} {v : Value} {l : List UInt8} {b : UInt8} {X : List Value} (hX : X = l.map byteV) (hn : n = l.length) (h : w.ownsRow B 5 1 v (n + 1) (X ++ [.int .u8 (b.toNat : Int)])) : OwnB w B v (l ++ [b]) := by
  subst hn hX
  unfold OwnB
  simpa [byteV] using h
theorem OwnB.at {w : World} {B n : Nat} {v : Value} {l : List UInt8} (h : OwnB w B v l) (hn : l.length = n) : ∃ X, w.ownsRow B 5 1 v n X ∧ Hid (X = l.map byteV) := by
  subst hn; exact ⟨_, h, rfl⟩
theorem one_cell (b : Int) : ∀ u ∈ [Value.int .u8 b], u.oneCell' = true := by intro u hu; simp at hu; subst hu; rfl
theorem rep_snoc (l : List UInt8) (k : Nat) : l ++ List.replicate k 48 ++ [48] = l ++ List.replicate (k + 1) 48 := by
  rw [List.replicate_succ', List.append_assoc]

/-- the second loop's number -/
theorem pow_step (n : Int) (j : Nat) : n / 10 ^ j / 10 = n / 10 ^ (j + 1) := by
  rw [Int.pow_succ, Int.ediv_ediv_of_nonneg (Int.pow_nonneg (by omega))]
theorem pow_nn (n : Int) (j : Nat) (h0 : 0 ≤ n) (h1 : n ≤ 9999) : 0 ≤ n / 10 ^ j ∧ n / 10 ^ j ≤ 9999 := by
  have hp : (0 : Int) < 10 ^ j := Int.pow_pos (by omega)
  refine ⟨Int.ediv_nonneg h0 (by omega), ?_⟩
  have := Int.ediv_le_self (10 ^ j) h0
  omega

set_option maxHeartbeats 1000000 in
theorem put_any (v0 : Value) (l : List UInt8) (n : Int) (d : Nat) (B : Nat) (w : World) (hB : B ≤ w.heap.size) (hd0 : 1 ≤ d) (hd : d ≤ 4) (h0 : 0 ≤ n) (h1 : n ≤ 9999) (hl : l.length ≤ 100) (hown : OwnB w B v0 l) :
    Calls Tryd.prog 32 #[v0, .int .i64 n, .int .i64 d] w fun e w' => ∃ v, e = .returned v ∧ OwnB w' B v (l ++ Dig.low d n) ∧ Grew w v0 w' v := by
  obtain ⟨i0, hi, hz0, hz1, hz2⟩ := info_parts info_u8
  obtain ⟨a0, cap0, hv0⟩ := hown.form
  have HV := Lib.hid hv0
  subst hv0
  go_enter Tryd.func32, Tryd.ntmps32
  go_wp2
  go_loopw [0, 8] (fun v i wr => ∃ k : Nat, k ≤ d ∧ i = .int .i64 k ∧ OwnB wr B v (l ++ List.replicate k 48) ∧ Grew w (.slice a0 l.length cap0) wr v) (fun _ i _ => d - (intOf i).toNat)
  case atStart => exact ⟨0, by omega, rfl, by simpa using hown, Grew.refl _ _⟩
  case round =>
    obtain ⟨k, hk, rfl, ho, hg⟩ := hrel
    by_cases hlt : k < d
    · obtain ⟨X, ho', hX⟩ := ho.at (n := l.length + k) (by simp)
      have hsz := hg.grown.size
      go_wp2_with (at_builtin; refine wpList_append_lies _ rfl _ _ _ rfl B 5 i0 (.int .u8 0) 1 1 Tryd.underlying44 hi hz0 hz1 hz2 rfl (by decide) _ _ _ rfl (ho'.alloc _) ⟨wr.heap.size, 0, none⟩ 1 1 [.int .u8 48] rfl rfl (one_byte 48) (one_cell 48) (by decide) ?c3 ?c4 ?c5 (wr.heap.size + 1) (by simp) ?_)
      case c3 => unfold maxLen; omega
      case c4 => omega
      case c5 => simp; omega
      · intro g cap w1 hown1 hgrow hat hlt1
        have R1 : OwnB w1 B (.slice (some ⟨g, 0, none⟩) (l.length + k + 1) cap) (l ++ List.replicate (k + 1) 48) := by
          rw [← rep_snoc]; exact OwnB.snoc (b := 48) hX.out (by simp) hown1
        have R2 := (hg.alloc (.cells #[.int .u8 48] 5)).appended (n := l.length + k + 1) (cap := cap) hgrow hat (by simp)
        clear hown1 hgrow hat ho ho' hg hsz
        go_wp2
        go_roundw
        case rel => exact ⟨k + 1, by omega, by go_num, R1, R2⟩
        case measure => simp [intOf]; omega
    · obtain rfl : k = d := by omega
      obtain ⟨g, cap, hv⟩ := ho.pos (by simp; omega)
      have hlen : (l ++ List.replicate k (48 : UInt8)).length = l.length + k := by simp
      rw [hlen] at hv
      subst hv
      clear hlen
      go_wp2
      go_loopw [1, 9] (fun m i wq => ∃ j : Nat, j ≤ k ∧ i = .int .i64 ((l.length : Int) + k - 1 - j) ∧ m = .int .i64 (n / 10 ^ j) ∧ OwnB wq B (.slice (some ⟨g, 0, none⟩) (l.length + k) cap) (l ++ (List.replicate (k - j) 48 ++ Dig.low j n)) ∧ Grew w (.slice a0 l.length cap0) wq (.slice (some ⟨g, 0, none⟩) (l.length + k) cap)) (fun _ i _ => (intOf i + 1 - l.length).toNat)
      case atStart => exact ⟨0, by omega, by go_num, by simp, by simpa [Dig.low] using ho, hg⟩
      case round =>
        obtain ⟨j, hj, rfl, rfl, ho2, hg2⟩ := hrel
        by_cases hjk : j < k
        · have hb := pow_nn n j h0 h1
          have HP := Lib.hid (pow_step n j)
          have R := put_rel hjk ho2
          obtain ⟨R1, R2⟩ := R
          generalize n / 10 ^ j = m at *
          obtain ⟨X, hoX, hX⟩ := ho2.at (n := l.length + k) (by simp [Dig.low_length]; omega)
          have hf := hoX.frozenAt (l.length + k - 1 - j)
          have hc := hoX.cellAt (l.length + k - 1 - j) (by omega)
          have hXl : l.length + k - 1 - j < X.length := by have := hoX.1; omega
          rw [List.getElem?_eq_getElem hXl] at hc
          generalize X[l.length + k - 1 - j] = old at hc
          clear hoX hXl hX ho2
          go_wp2
          go_roundw
          case rel => exact ⟨j + 1, by omega, by go_num, by rw [HP.out], R1, hg2.trans ⟨R2, .inl rfl⟩⟩
          case measure => simp [intOf]; omega
        · obtain rfl : j = k := by omega
          go_wp2
          go_ret
          exact ⟨_, rfl, by simpa using ho2, hg2⟩

end Go.Proofs.YtmmoimemfdbfgaaDoor
