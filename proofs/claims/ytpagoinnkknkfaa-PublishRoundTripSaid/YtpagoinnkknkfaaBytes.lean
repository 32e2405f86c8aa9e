/-
  Slices of bytes that the call itself owns; strings made of them.
-/
import Derived.Test.YtpagoinnkknkfaaChecked
import Derived.Test.YtpagoinnkknkfaaTail
import Derived.Deep.AppendLies
import Derived.Lib.SmallJoins
import Derived.Laws.DeepStrings4
namespace Go.Proofs.Ytpagoinnkknkfaa.By
open Go.RowKit

def byteV (b : UInt8) : Value := .int .u8 (b.toNat : Int)
/-- a slice value owns these bytes -/
def OwnB (w : World) (B : Nat) (v : Value) (l : List UInt8) : Prop := w.ownsRow B 5 1 v l.length (l.map byteV)
theorem OwnB.nil (w : World) (B : Nat) : OwnB w B (.slice none 0 0) [] := World.ownsRow_nil _ _ _ _
theorem OwnB.pos {w : World} {B : Nat} {v : Value} {l : List UInt8} (h : OwnB w B v l) (hl : 0 < l.length) : ∃ g cap, v = .slice (some ⟨g, 0, none⟩) l.length cap := Go.Joins.ownsRow_form h hl
theorem info_u8 : (Try.prog.info? 5).map (fun i => (i.zero, i.size, i.bytes)) = some (some (.int .u8 0), 1, 1) := by kernel_rfl

/-- a byte out of a number -/
def hb (x : Int) : UInt8 := UInt8.ofNat (x % 256).toNat
theorem hb_toNat (x : Int) : ((hb x).toNat : Int) = x % 256 := by unfold hb; rw [UInt8.toNat_ofNat']; omega
theorem hb_of (x : Int) (h0 : 0 ≤ x) (h1 : x ≤ 255) : ((hb x).toNat : Int) = x := by rw [hb_toNat]; omega

/-- the bytes of an owned slice, as a string -/
theorem bytes_back {w : World} {B g cap N : Nat} {l : List UInt8} (h : OwnB w B (.slice (some ⟨g, 0, none⟩) N cap) l) (hN : l.length = N) :
    (convert 92 9 (.slice (some ⟨g, 0, none⟩) N cap)).run Try.prog w = .ok (.string ⟨l.toArray⟩) w := by
  subst hN
  refine run_convert_bytes_back w _ _ _ _ cap l Try.underlying92 Try.underlying5 Try.underlying9 ?_
  intro j hj
  have hc := h.cellAt j (by simpa using hj)
  have e : (⟨g, 0, none⟩ : Addr).add j = ⟨g, j, none⟩ := by
    unfold Addr.add; split
    · simp [*]
    · simp
  rw [e, hc]
  simp [List.getElem?_eq_getElem hj, byteV]

theorem bytes_cat (l r : List UInt8) : (⟨l.toArray⟩ : ByteArray) ++ ⟨r.toArray⟩ = ⟨(l ++ r).toArray⟩ := by
  apply ByteArray.ext
  simp

theorem slice_lh (s : ByteArray) (lo hi : Nat) (h1 : lo ≤ hi) (h2 : hi ≤ s.size) (w : World) :
    (Instr.slice 9 (.string s) (some (.int .i64 lo)) (some (.int .i64 hi)) none).run Try.prog w = .ok (.string (s.extract lo hi)) w := by
  rw [run_slice_string_if w _ s _ _ _ _ Try.underlying9]
  simp [h1, h2]

/-- the world behind a conversion of a string to bytes, and the capacity of the new slice -/
def capOf (w : World) (s : ByteArray) : Nat := grownCap w s.size 0 5
def bytesWorld (w : World) (s : ByteArray) : World :=
  w.drew.alloc (.cells (bytesRow s (capOf w s)) 5 ((bytesRow s (capOf w s)).size, (bytesRow s (capOf w s)).size + 1))
theorem bytes_of (w : World) (s : ByteArray) : (convert 9 92 (.string s)).run Try.prog w = .ok (.slice (some ⟨w.heap.size, 0, none⟩) s.size (capOf w s)) (bytesWorld w s) :=
  run_bytes_of_string w _ _ _ s Try.underlying9 Try.underlying92 Try.underlying5
theorem bytes_below (w : World) (s : ByteArray) : Below w.heap.size w (bytesWorld w s) := (Below.refl _ _).drew.alloc (Nat.le_refl _) _
theorem bytes_cell (w : World) (s : ByteArray) (k : Nat) (h : k < s.size) : (bytesWorld w s).cell? ⟨w.heap.size, k, none⟩ = some (.int .u8 (s[k].toNat : Int)) := by
  refine (World.cell?_alloc_mark w.drew _ _ _ k).trans ?_
  unfold bytesRow
  have hk : k < (s.data.map (fun b => Value.int .u8 b.toNat)).size := by simpa using h
  rw [Array.getElem?_append_left hk]
  rw [Array.getElem?_eq_getElem hk, Array.getElem_map]
  rfl

theorem new_block (w : World) (o : Obj) : (w.alloc o).heap[w.heap.size]? = some o := by
  show (w.heap.push o)[w.heap.size]? = some o
  simp
/-- bytes written out, in a slice of their own -/
theorem OwnB.made (w0 : World) (V : Array Value) (l : List UInt8) (n : Nat) (hV : V.toList = l.map byteV) (hl : l.length = n) (hn : n ≤ 1000) :
    OwnB (w0.alloc (.cells V 5)) w0.heap.size (.slice (some ⟨w0.heap.size, 0, none⟩) n n) l := by
  have hs : V.size = n := by rw [← hl, ← List.length_map (f := byteV), ← hV]; simp
  refine ⟨by simp, .inr ⟨w0.heap.size, n, V, by rw [hl], Nat.le_refl _, By.new_block w0 _, by omega, by unfold maxLen; omega, by omega, ?_⟩⟩
  rw [hl, hV, List.take_of_length_le (by simp; omega)]
theorem OwnB.ext {w W : World} {B : Nat} {v : Value} {l : List UInt8} (h : OwnB W B v l) (hb : Below W.heap.size W w) : OwnB w B v l := by
  refine ⟨h.1, ?_⟩
  rcases h.2 with hn | ⟨g, cap, cur, hv, hB, hg, rest⟩
  · exact .inl hn
  · refine .inr ⟨g, cap, cur, hv, hB, ?_, rest⟩
    have hlt : g < W.heap.size := by
      rcases Nat.lt_or_ge g W.heap.size with q | q
      · exact q
      · rw [Array.getElem?_eq_none q] at hg; cases hg
    rw [hb.block g hlt]; exact hg
theorem back_made (w0 : World) (V : Array Value) (l : List UInt8) (g n : Nat) (hV : V.toList = l.map byteV) (hg : w0.heap.size = g) (hl : l.length = n) (hn : n ≤ 1000) (e : Ext (w0.alloc (.cells V 5))) :
    (convert 92 9 (.slice (some ⟨g, 0, none⟩) n n)).run Try.prog e.out = .ok (.string ⟨l.toArray⟩) e.out := by
  subst hg
  exact bytes_back ((OwnB.made w0 V l n hV hl hn).ext e.bel) hl
theorem back_self (w0 : World) (V : Array Value) (l : List UInt8) (g n : Nat) (hV : V.toList = l.map byteV) (hg : w0.heap.size = g) (hl : l.length = n) (hn : n ≤ 1000) :
    (convert 92 9 (.slice (some ⟨g, 0, none⟩) n n)).run Try.prog (w0.alloc (.cells V 5)) = .ok (.string ⟨l.toArray⟩) (w0.alloc (.cells V 5)) :=
  back_made w0 V l g n hV hg hl hn (Ext.self _)
theorem below_grown {w0 w w' : World} {b : Nat} (hb : Below w0.heap.size w0 w) (h : w.grownBy w' (some b)) (hge : w0.heap.size ≤ b) : Below w0.heap.size w0 w' :=
  hb.trans ⟨h.os, h.tape, h.output, h.size, fun k hk => h.block k (Nat.lt_of_lt_of_le hk hb.size) (fun e => by cases e; omega)⟩

end Go.Proofs.Ytpagoinnkknkfaa.By
