/-
  The contracts of List. (Written by wip/gen/gen_list.py.)
-/
import Derived.Test.YtmmoimemfdbfgaaTlvOne
import Derived.Deep.AppendLies
namespace Go.Proofs.Ytmmoimemfdbfgaa
open Go.RowKit
set_option linter.unusedSimpArgs false

/-- an element -/
structure Elt where
  tag : Int
  con : ByteArray
  raw : ByteArray
def Elt.cells (x : Elt) : List Value := [.int .i64 x.tag, .string x.con, .string x.raw]
def Elt.val (x : Elt) : Value := .agg #[.int .i64 x.tag, .string x.con, .string x.raw]
def eltAt (b : ByteArray) (a n : Nat) : Elt := ⟨Tl.byt b 0, b.extract a (a + n), b.extract 0 (a + n)⟩
/-- the elements of which a string consists, behind those of acc; or the error -/
def Tl.lst : Nat → List Elt → ByteArray → List Elt × Int
  | 0, acc, _ => (acc, 0)
  | f + 1, acc, b => if b.size = 0 then (acc, 0) else match Tl.rd b with
    | .err c => ([], c)
    | .ok a n => Tl.lst f (acc ++ [eltAt b a n]) (b.extract (a + n) b.size)
def LstIs (f : Nat) (acc : List Elt) (b : ByteArray) (R : List Elt × Int) : Prop := Tl.lst f acc b = R
theorem LstIs.empty {f : Nat} {acc : List Elt} {b : ByteArray} {R : List Elt × Int} (h : LstIs f acc b R) (hb : b.size = 0) : (acc, 0) = R := by
  unfold LstIs at h
  cases f with
  | zero => exact h
  | succ f => rw [Tl.lst, if_pos hb] at h; exact h
theorem LstIs.err {f : Nat} {acc : List Elt} {b : ByteArray} {R : List Elt × Int} {c : Int} (h : LstIs f acc b R) (hb : ¬ b.size = 0) (hf : b.size ≤ f) (hr : Tl.rd b = .err c) : ([], c) = R := by
  unfold LstIs at h
  cases f with
  | zero => omega
  | succ f => rw [Tl.lst, if_neg hb, hr] at h; exact h
theorem LstIs.ok {f : Nat} {acc : List Elt} {b : ByteArray} {R : List Elt × Int} {a n : Nat} (h : LstIs f acc b R) (hb : ¬ b.size = 0) (hf : b.size ≤ f) (hr : Tl.rd b = .ok a n) :
    ∃ g, f = g + 1 ∧ LstIs g (acc ++ [eltAt b a n]) (b.extract (a + n) b.size) R := by
  unfold LstIs at h
  cases f with
  | zero => omega
  | succ f => rw [Tl.lst, if_neg hb, hr] at h; exact ⟨f, rfl, h⟩

/-- a slice value owns these elements -/
def OwnE (w : World) (B : Nat) (v : Value) (l : List Elt) : Prop := w.ownsRow B 32 3 v l.length (l.flatMap Elt.cells)
theorem OwnE.nil (w : World) (B : Nat) : OwnE w B (.slice none 0 0) [] := World.ownsRow_nil _ _ _ _
theorem info_elt : (Try.prog.info? 32).map (fun i => (i.zero, i.size, i.bytes)) = some (some (.agg #[.int .i64 0, .string ⟨#[]⟩, .string ⟨#[]⟩]), 3, 40) := by kernel_rfl
theorem ownsRow_ext {W w : World} {B : Nat} {t : TypeId} {z : Nat} {v : Value} {n : Nat} {l : List Value} (h : W.ownsRow B t z v n l) (hb : Below W.heap.size W w) : w.ownsRow B t z v n l := by
  refine ⟨h.1, ?_⟩
  rcases h.2 with hn | ⟨g, cap, cur, hv, hB, hg, rest⟩
  · exact .inl hn
  · refine .inr ⟨g, cap, cur, hv, hB, ?_, rest⟩
    have hlt : g < W.heap.size := by
      rcases Nat.lt_or_ge g W.heap.size with q | q
      · exact q
      · rw [Array.getElem?_eq_none q] at hg; cases hg
    rw [hb.block g hlt]; exact hg
theorem below_app {w0 w w' : World} {B : Nat} {t : TypeId} {z : Nat} {v : Value} {n : Nat} {l : List Value} (hb : Below B w0 w) (ho : w.ownsRow B t z v n l) (h : w.grownBy w' v.ownBlock) (hB : B ≤ w.heap.size) : Below B w0 w' :=
  hb.grown h hB fun k hk => (ho.lt k hk).1

def strLen : Value → Nat
  | .string b => b.size
  | _ => 0
def ListPost (B : Nat) (w : World) (R : List Elt × Int) (e : Ending) (w' : World) : Prop := ∃ v, e = .returned (.tuple #[v, .int .i64 R.2]) ∧ OwnE w' B v R.1 ∧ Below B w w'
theorem post_nil {B : Nat} {w w' : World} {c : Int} (h : Below B w w') : ListPost B w ([], c) (.returned (.tuple #[.slice none 0 0, .int .i64 c])) w' := ⟨_, rfl, OwnE.nil _ _, h⟩
theorem post_ok {B : Nat} {w w' : World} {v : Value} {l : List Elt} (h : Below B w w') (ho : OwnE w' B v l) : ListPost B w (l, 0) (.returned (.tuple #[v, .int .i64 0])) w' := ⟨_, rfl, ho, h⟩
theorem own_snoc {w : World} {B g n cap : Nat} {l : List Elt} {x : Elt} (h : w.ownsRow B 32 3 (.slice (some ⟨g, 0, none⟩) n cap) n (l.flatMap Elt.cells ++ x.cells)) (hn : n = l.length + 1) : OwnE w B (.slice (some ⟨g, 0, none⟩) n cap) (l ++ [x]) := by
  unfold OwnE
  rw [List.flatMap_append, List.length_append]
  simpa [hn] using h
def ListRel (B : Nat) (w : World) (R : List Elt × Int) (N : Nat) (s l : Value) (wr : World) : Prop :=
  ∃ (f : Nat) (acc : List Elt) (b' : ByteArray), s = .string b' ∧ b'.size ≤ f ∧ LstIs f acc b' R ∧ OwnE wr B l acc ∧ acc.length + b'.size ≤ N ∧ Below B w wr

theorem news3 (w : World) (v0 v1 v2 : Value) (g : Nat) (hg : w.heap.size = g) : ∀ (j : Nat) u, [v0, v1, v2][j]? = some u → (w.alloc (.cells #[v0, v1, v2] 32)).cell? ((⟨g, 0, none⟩ : Addr).add j) = some u := by
  subst hg
  intro j u hj
  have e : (⟨w.heap.size, 0, none⟩ : Addr).add j = ⟨w.heap.size, j, none⟩ := by
    unfold Addr.add; split
    · simp [*]
    · simp
  rw [e, World.cell?_alloc_at _ _ _ _ rfl]
  simpa using hj

set_option maxHeartbeats 1000000 in
theorem list_any (b : ByteArray) (w : World) (hs : b.size ≤ 1000000) :
    Calls Try.prog 26 #[.string b] w (ListPost w.heap.size w (Tl.lst b.size [] b)) := by
  have hR := read_any
  have h0 : LstIs b.size [] b (Tl.lst b.size [] b) := rfl
  generalize Tl.lst b.size [] b = R at *
  obtain ⟨i0, hi, hz0, hz1, hz2⟩ := info_parts info_elt
  go_enter Try.func26, Try.ntmps26
  go_wp2
  go_loopw [0, 4] (fun s l wr => ListRel w.heap.size w R b.size s l wr) (fun s _ _ => strLen s)
  case atStart => exact ⟨b.size, [], b, rfl, Nat.le_refl _, h0, OwnE.nil _ _, by simp, Below.refl _ _⟩
  case round =>
    obtain ⟨f, acc, b', rfl, hf, hL, hO, hn, hB⟩ := hrel
    clear h0
    by_cases hz : b'.size = 0
    · have hP := hL.empty hz
      subst hP
      obtain rfl := is_empty b' hz
      clear hL hf hn
      go_wp2
      go_ret2
      exact post_ok hB hO
    · have u0 : b'.toList.isEmpty = false := ne_empty b' (by omega)
      cases hr : Tl.rd b' with
      | err c =>
        have hP := hL.err hz hf hr
        subst hP
        have hRb := hR b' wr (by omega)
        rw [hr] at hRb
        have u1 : (c != 0) = true := by have := Tl.rd_err hr; rw [bne_iff_ne]; omega
        clear hL hf hn hO hr hR hz
        go_wp2_with fail
        go_at_call 16
        refine hRb.mono ?_
        rintro e w1 ⟨rfl, hb1⟩
        simp only [resV, errV, okV]
        have hB1 := hB.trans (hb1.mono hB.size)
        clear hb1 hRb
        go_wp2
        go_ret2
        exact post_nil (hB1.alloc hB1.size _)
      | ok a n =>
        obtain ⟨g, rfl, hL'⟩ := hL.ok hz hf hr
        have hrs := Tl.rd_ok hr
        have hRb := hR b' wr (by omega)
        rw [hr] at hRb
        have hsz : (b'.extract (a + n) b'.size).size + (a + n) = b'.size := by simp [ByteArray.size_extract]; omega
        obtain ⟨hz', hsz', hf'⟩ : 0 < b'.size ∧ (b'.extract (a + n) b'.size).size + 2 ≤ b'.size ∧ (b'.extract (a + n) b'.size).size ≤ g := by omega
        have hal : acc.length + 1 ≤ b.size := by omega
        have hbd : acc.length + 1 + (b'.extract (a + n) b'.size).size ≤ b.size := by omega
        clear hL hf hn hr hR hz hsz
        simp only [resV, okV] at hRb
        generalize hx : eltAt b' a n = x at *
        obtain ⟨t, c, r⟩ := x
        have hx' := hx
        unfold eltAt at hx'
        simp only [Elt.mk.injEq] at hx'
        obtain ⟨q1, q2, q3⟩ := hx'
        rw [q1, q2, q3] at hRb
        clear q1 q2 q3 hx
        generalize b'.extract (a + n) b'.size = b2 at *
        go_wp2_with fail
        go_at_call 16
        refine hRb.mono ?_
        rintro e w1 ⟨rfl, hb1⟩
        have hB1 := hB.trans (hb1.mono hB.size)
        have hO1 : OwnE w1 w.heap.size u4 acc := ownsRow_ext hO hb1
        clear hRb
        have hO2 := hO1.alloc (.cells #[.int .i64 t, .string c, .string r] 32)
        have hO3 := hO2.alloc (.cells #[.int .i64 t, .string c, .string r] 32)
        have hB3 := (hB1.alloc hB1.size (.cells #[.int .i64 t, .string c, .string r] 32)).alloc (by have := hB1.size; simp; omega) (.cells #[.int .i64 t, .string c, .string r] 32)
        have hba : w.heap.size ≤ w1.heap.size := hB1.size
        clear hb1 hO hO1 hO2 hB hB1
        have HO := Lib.hid hO3
        clear hO3
        go_wp2_with (at_builtin; refine wpList_append_lies _ rfl _ _ _ rfl w.heap.size 32 i0 _ 3 40 Try.underlying51 hi hz0 hz1 hz2 rfl (by decide) _ _ _ rfl HO.out ⟨w1.heap.size + 1, 0, none⟩ 1 1 [.int .i64 t, .string c, .string r] rfl rfl ?c1 ?c2 (by decide) ?c3 ?c4 ?c5 (w1.heap.size + 2) ?c6 ?_)
        case c1 => exact news3 _ _ _ _ _ (by simp)
        case c2 => intro u hu; simp at hu; rcases hu with rfl | rfl | rfl <;> rfl
        case c3 => unfold maxLen; omega
        case c4 => omega
        case c5 => simp; omega
        case c6 => simp
        intro g2 cap w3 hown3 hgrow hat hlt3
        have hB4 := below_app hB3 HO.out hgrow (by simp; omega)
        have hO4 := own_snoc (x := ⟨t, c, r⟩) hown3 rfl
        clear hown3 hgrow hat hlt3 HO hB3
        go_wp2
        go_roundw
        case rel => exact ⟨g, _, b2, rfl, hf', hL', hO4, by rw [List.length_append, List.length_singleton]; exact hbd, hB4⟩
        case measure => simp [strLen]; omega

set_option maxHeartbeats 1000000 in
theorem rlist_any (b : ByteArray) (w : World) (hs : b.size ≤ 1000000) :
    Calls Try.prog 31 #[.string b] w (ListPost w.heap.size w (Tl.lst b.size [] b)) := by
  have hR := rread_any
  have h0 : LstIs b.size [] b (Tl.lst b.size [] b) := rfl
  generalize Tl.lst b.size [] b = R at *
  obtain ⟨i0, hi, hz0, hz1, hz2⟩ := info_parts info_elt
  go_enter Try.func31, Try.ntmps31
  go_wp2
  go_loopw [0, 4] (fun s l wr => ListRel w.heap.size w R b.size s l wr) (fun s _ _ => strLen s)
  case atStart => exact ⟨b.size, [], b, rfl, Nat.le_refl _, h0, OwnE.nil _ _, by simp, Below.refl _ _⟩
  case round =>
    obtain ⟨f, acc, b', rfl, hf, hL, hO, hn, hB⟩ := hrel
    clear h0
    by_cases hz : b'.size = 0
    · have hP := hL.empty hz
      subst hP
      obtain rfl := is_empty b' hz
      clear hL hf hn
      go_wp2
      go_ret2
      exact post_ok hB hO
    · have u0 : 0 < b'.size := by omega
      cases hr : Tl.rd b' with
      | err c =>
        have hP := hL.err hz hf hr
        subst hP
        have hRb := hR b' wr (by omega)
        rw [hr] at hRb
        have u1 : (c != 0) = true := by have := Tl.rd_err hr; rw [bne_iff_ne]; omega
        clear hL hf hn hO hr hR hz
        go_wp2_with fail
        go_at_call 29
        refine hRb.mono ?_
        rintro e w1 ⟨rfl, hb1⟩
        simp only [resV, errV, okV]
        have hB1 := hB.trans (hb1.mono hB.size)
        clear hb1 hRb
        go_wp2
        go_ret2
        exact post_nil (hB1.alloc hB1.size _)
      | ok a n =>
        obtain ⟨g, rfl, hL'⟩ := hL.ok hz hf hr
        have hrs := Tl.rd_ok hr
        have hRb := hR b' wr (by omega)
        rw [hr] at hRb
        have hsz : (b'.extract (a + n) b'.size).size + (a + n) = b'.size := by simp [ByteArray.size_extract]; omega
        obtain ⟨hz', hsz', hf'⟩ : 0 < b'.size ∧ (b'.extract (a + n) b'.size).size + 2 ≤ b'.size ∧ (b'.extract (a + n) b'.size).size ≤ g := by omega
        have hal : acc.length + 1 ≤ b.size := by omega
        have hbd : acc.length + 1 + (b'.extract (a + n) b'.size).size ≤ b.size := by omega
        clear hL hf hn hr hR hz hsz
        simp only [resV, okV] at hRb
        generalize hx : eltAt b' a n = x at *
        obtain ⟨t, c, r⟩ := x
        have hx' := hx
        unfold eltAt at hx'
        simp only [Elt.mk.injEq] at hx'
        obtain ⟨q1, q2, q3⟩ := hx'
        rw [q1, q2, q3] at hRb
        clear q1 q2 q3 hx
        generalize b'.extract (a + n) b'.size = b2 at *
        go_wp2_with fail
        go_at_call 29
        refine hRb.mono ?_
        rintro e w1 ⟨rfl, hb1⟩
        have hB1 := hB.trans (hb1.mono hB.size)
        have hO1 : OwnE w1 w.heap.size u4 acc := ownsRow_ext hO hb1
        clear hRb
        have hO2 := hO1.alloc (.cells #[.int .i64 t, .string c, .string r] 32)
        have hO3 := hO2.alloc (.cells #[.int .i64 t, .string c, .string r] 32)
        have hB3 := (hB1.alloc hB1.size (.cells #[.int .i64 t, .string c, .string r] 32)).alloc (by have := hB1.size; simp; omega) (.cells #[.int .i64 t, .string c, .string r] 32)
        have hba : w.heap.size ≤ w1.heap.size := hB1.size
        clear hb1 hO hO1 hO2 hB hB1
        have HO := Lib.hid hO3
        clear hO3
        go_wp2_with (at_builtin; refine wpList_append_lies _ rfl _ _ _ rfl w.heap.size 32 i0 _ 3 40 Try.underlying51 hi hz0 hz1 hz2 rfl (by decide) _ _ _ rfl HO.out ⟨w1.heap.size + 1, 0, none⟩ 1 1 [.int .i64 t, .string c, .string r] rfl rfl ?c1 ?c2 (by decide) ?c3 ?c4 ?c5 (w1.heap.size + 2) ?c6 ?_)
        case c1 => exact news3 _ _ _ _ _ (by simp)
        case c2 => intro u hu; simp at hu; rcases hu with rfl | rfl | rfl <;> rfl
        case c3 => unfold maxLen; omega
        case c4 => omega
        case c5 => simp; omega
        case c6 => simp
        intro g2 cap w3 hown3 hgrow hat hlt3
        have hB4 := below_app hB3 HO.out hgrow (by simp; omega)
        have hO4 := own_snoc (x := ⟨t, c, r⟩) hown3 rfl
        clear hown3 hgrow hat hlt3 HO hB3
        go_wp2
        go_roundw
        case rel => exact ⟨g, _, b2, rfl, hf', hL', hO4, by rw [List.length_append, List.length_singleton]; exact hbd, hB4⟩
        case measure => simp [strLen]; omega

end Go.Proofs.Ytmmoimemfdbfgaa
