/-
  The contracts of Check, and of what checks the nested elements. (Written by wip/gen/gen_check.py.)
-/
import Derived.Test.YtmmoimemfdbfgaaTlvList
namespace Go.Proofs.Ytmmoimemfdbfgaa
open Go.RowKit
set_option linter.unusedSimpArgs false

theorem and32_all : (List.range 256).all (fun n => (bits .and .i64 (n : Int) 32 == 0) == ((n : Int) / 32 % 2 == 0)) = true := by kernel_rfl
theorem and32 (t : Int) (h0 : 0 ≤ t) (h1 : t ≤ 255) : (bits .and .i64 t 32 == 0) = (t / 32 % 2 == 0) := by
  obtain ⟨n, rfl⟩ : ∃ n : Nat, t = n := ⟨t.toNat, by omega⟩
  have := List.all_eq_true.1 and32_all n (by simp; omega)
  rw [beq_iff_eq] at this
  exact this

/-- the contents of one element: rec is what checks an element in it; deep: no element may lie in it -/
def Tl.wlp (rec : Int → ByteArray → Int) (deep : Bool) : Nat → ByteArray → Int
  | 0, _ => 0
  | f + 1, b => if b.size = 0 then 0 else match Tl.rd b with
    | .err c => c
    | .ok a n => if deep = true then 8 else if rec (Tl.byt b 0) (b.extract a (a + n)) ≠ 0 then rec (Tl.byt b 0) (b.extract a (a + n)) else Tl.wlp rec deep f (b.extract (a + n) b.size)
def Tl.wit : Nat → Int → ByteArray → Int
  | 0, t, c => if t / 32 % 2 = 0 then 0 else Tl.wlp (fun _ _ => 0) true c.size c
  | k + 1, t, c => if t / 32 % 2 = 0 then 0 else Tl.wlp (Tl.wit k) false c.size c
def WlpIs (rec : Int → ByteArray → Int) (deep : Bool) (f : Nat) (b : ByteArray) (R : Int) : Prop := Tl.wlp rec deep f b = R
section
variable {rec : Int → ByteArray → Int} {deep : Bool} {f : Nat} {b : ByteArray} {R : Int} {a n : Nat}
theorem WlpIs.empty (h : WlpIs rec deep f b R) (hb : b.size = 0) : 0 = R := by
  unfold WlpIs at h
  cases f with
  | zero => exact h
  | succ f => rw [Tl.wlp, if_pos hb] at h; exact h
theorem WlpIs.err {c : Int} (h : WlpIs rec deep f b R) (hb : ¬ b.size = 0) (hf : b.size ≤ f) (hr : Tl.rd b = .err c) : c = R := by
  unfold WlpIs at h
  cases f with
  | zero => omega
  | succ f => rw [Tl.wlp, if_neg hb, hr] at h; exact h
theorem WlpIs.over (h : WlpIs rec true f b R) (hb : ¬ b.size = 0) (hf : b.size ≤ f) (hr : Tl.rd b = .ok a n) : 8 = R := by
  unfold WlpIs at h
  cases f with
  | zero => omega
  | succ f => rw [Tl.wlp, if_neg hb, hr] at h; exact h
theorem WlpIs.bad (h : WlpIs rec false f b R) (hb : ¬ b.size = 0) (hf : b.size ≤ f) (hr : Tl.rd b = .ok a n) (hn : rec (Tl.byt b 0) (b.extract a (a + n)) ≠ 0) : rec (Tl.byt b 0) (b.extract a (a + n)) = R := by
  unfold WlpIs at h
  cases f with
  | zero => omega
  | succ f => rw [Tl.wlp, if_neg hb, hr] at h; simpa [hn] using h
theorem WlpIs.ok (h : WlpIs rec false f b R) (hb : ¬ b.size = 0) (hf : b.size ≤ f) (hr : Tl.rd b = .ok a n) (hn : rec (Tl.byt b 0) (b.extract a (a + n)) = 0) : ∃ g, f = g + 1 ∧ WlpIs rec false g (b.extract (a + n) b.size) R := by
  unfold WlpIs at h
  cases f with
  | zero => omega
  | succ f => rw [Tl.wlp, if_neg hb, hr] at h; exact ⟨f, rfl, by unfold WlpIs; simpa [hn] using h⟩
end
def IntPost (B : Nat) (w : World) (R : Int) (e : Ending) (w' : World) : Prop := e = .returned (.int .i64 R) ∧ Below B w w'
def WlpRel (rec : Int → ByteArray → Int) (deep : Bool) (B : Nat) (w : World) (R : Int) (N : Nat) (s : Value) (wr : World) : Prop :=
  ∃ (f : Nat) (b' : ByteArray), s = .string b' ∧ b'.size ≤ f ∧ b'.size ≤ N ∧ WlpIs rec deep f b' R ∧ Below B w wr

/-- what Check returns -/
def Tl.check (b : ByteArray) : Int := match Tl.one b with
  | .err c => c
  | .ok a n => Tl.wit 15 (Tl.byt b 0) (b.extract a (a + n))

theorem within_flat (k : Nat) (t d : Int) (c r : ByteArray) (w : World) (h0 : 0 ≤ t) (h1 : t ≤ 255) (ht : t / 32 % 2 = 0) :
    Calls Try.prog 33 #[.agg #[.int .i64 t, .string c, .string r], .int .i64 d] w (IntPost w.heap.size w (Tl.wit k t c)) := by
  have hR : 0 = Tl.wit k t c := by cases k <;> rw [Tl.wit, if_pos ht]
  generalize Tl.wit k t c = R at *
  subst hR
  have v0 : (bits .and .i64 t 32 == 0) = true := by rw [and32 t h0 h1]; simp [ht]
  clear ht
  go_enter Try.func33, Try.ntmps33
  go_wp2
  go_ret
  exact ⟨rfl, (Below.refl _ _).alloc (Nat.le_refl _) _⟩

set_option maxHeartbeats 1000000 in
theorem within_deep (t d : Int) (c r : ByteArray) (w : World) (h0 : 0 ≤ t) (h1 : t ≤ 255) (hc : c.size ≤ 1000000) (ht : ¬ t / 32 % 2 = 0) (hd : d = 16) :
    Calls Try.prog 33 #[.agg #[.int .i64 t, .string c, .string r], .int .i64 d] w (IntPost w.heap.size w (Tl.wlp (fun _ _ => 0) true c.size c)) := by
  have hR := read_any
  have hL0 : WlpIs (fun _ _ => 0) true c.size c (Tl.wlp (fun _ _ => 0) true c.size c) := rfl
  generalize Tl.wlp (fun _ _ => 0) true c.size c = R at *
  have v0 : (bits .and .i64 t 32 == 0) = false := by rw [and32 t h0 h1]; simp [ht]
  have v4 : decide (16 ≤ d) = true := by simp; omega
  have v5 : 16 ≤ d ∧ d ≤ 16 := by omega
  clear hd
  clear ht
  have hBa := (Below.refl w.heap.size w).alloc (Nat.le_refl _) (.cells #[.int .i64 t, .string c, .string r] 32)
  go_enter Try.func33, Try.ntmps33
  go_wp2
  go_loopw [5] (fun s wr => WlpRel (fun _ _ => 0) true w.heap.size w R c.size s wr) (fun s _ => strLen s)
  case atStart => exact ⟨c.size, c, rfl, Nat.le_refl _, Nat.le_refl _, hL0, hBa⟩
  case round =>
    obtain ⟨f, b', rfl, hf, hn, hL, hB⟩ := hrel
    clear hL0 hBa
    by_cases hz : b'.size = 0
    · have hP := hL.empty hz
      subst hP
      obtain rfl := is_empty b' hz
      clear hL hf hn
      go_wp2
      go_ret
      exact ⟨rfl, hB⟩
    · have v3 : b'.toList.isEmpty = false := ne_empty b' (by omega)
      cases hr : Tl.rd b' with
      | err e =>
        have hP := hL.err hz hf hr
        subst hP
        have hRb := hR b' wr (by omega)
        rw [hr] at hRb
        have v1 : (e != 0) = true := by have := Tl.rd_err hr; rw [bne_iff_ne]; omega
        clear hL hf hn hr hR hz
        go_wp2_with fail
        go_at_call 16
        refine hRb.mono ?_
        rintro _ w1 ⟨rfl, hb1⟩
        simp only [resV, errV, okV]
        have hB1 := hB.trans (hb1.mono hB.size)
        clear hb1 hRb
        go_wp2
        go_ret
        exact ⟨rfl, hB1.alloc hB1.size _⟩
      | ok a n =>
        have hrs := Tl.rd_ok hr
        have hRb := hR b' wr (by omega)
        rw [hr] at hRb
        have hsz : (b'.extract (a + n) b'.size).size + (a + n) = b'.size := by simp [ByteArray.size_extract]; omega
        have hsc : (b'.extract a (a + n)).size = n := by simp [ByteArray.size_extract]; omega
        obtain ⟨hz', hsz', hcn, hcm⟩ : 0 < b'.size ∧ (b'.extract (a + n) b'.size).size + 2 ≤ b'.size ∧ (b'.extract a (a + n)).size ≤ 1000000 ∧ (b'.extract (a + n) b'.size).size ≤ c.size := by omega
        have ht0 := Tl.byt_lt b' 0
        have hP := hL.over hz hf hr
        subst hP
        clear hL hf hn hr hR hz hsz hsc
        simp only [resV, okV] at hRb
        go_wp2_with fail
        go_at_call 16
        refine hRb.mono ?_
        rintro _ w1 ⟨rfl, hb1⟩
        have hB1 := hB.trans (hb1.mono hB.size)
        clear hb1 hRb
        go_wp2
        go_ret
        exact ⟨rfl, hB1.alloc hB1.size _⟩

set_option maxHeartbeats 1000000 in
theorem within_rec (k : Nat) (d : Int) (ih : ∀ (t : Int) (c r : ByteArray) (w : World), 0 ≤ t → t ≤ 255 → c.size ≤ 1000000 → Calls Try.prog 33 #[.agg #[.int .i64 t, .string c, .string r], .int .i64 (d + 1)] w (IntPost w.heap.size w (Tl.wit k t c))) (t : Int) (c r : ByteArray) (w : World) (h0 : 0 ≤ t) (h1 : t ≤ 255) (hc : c.size ≤ 1000000) (ht : ¬ t / 32 % 2 = 0) (hd : 1 ≤ d ∧ d ≤ 15) :
    Calls Try.prog 33 #[.agg #[.int .i64 t, .string c, .string r], .int .i64 d] w (IntPost w.heap.size w (Tl.wlp (Tl.wit k) false c.size c)) := by
  have hR := read_any
  have hL0 : WlpIs (Tl.wit k) false c.size c (Tl.wlp (Tl.wit k) false c.size c) := rfl
  generalize Tl.wlp (Tl.wit k) false c.size c = R at *
  have v0 : (bits .and .i64 t 32 == 0) = false := by rw [and32 t h0 h1]; simp [ht]
  have v4 : decide (16 ≤ d) = false := by simp; omega
  clear ht
  have hBa := (Below.refl w.heap.size w).alloc (Nat.le_refl _) (.cells #[.int .i64 t, .string c, .string r] 32)
  go_enter Try.func33, Try.ntmps33
  go_wp2
  go_loopw [5] (fun s wr => WlpRel (Tl.wit k) false w.heap.size w R c.size s wr) (fun s _ => strLen s)
  case atStart => exact ⟨c.size, c, rfl, Nat.le_refl _, Nat.le_refl _, hL0, hBa⟩
  case round =>
    obtain ⟨f, b', rfl, hf, hn, hL, hB⟩ := hrel
    clear hL0 hBa
    by_cases hz : b'.size = 0
    · have hP := hL.empty hz
      subst hP
      obtain rfl := is_empty b' hz
      clear hL hf hn
      go_wp2
      go_ret
      exact ⟨rfl, hB⟩
    · have v3 : b'.toList.isEmpty = false := ne_empty b' (by omega)
      cases hr : Tl.rd b' with
      | err e =>
        have hP := hL.err hz hf hr
        subst hP
        have hRb := hR b' wr (by omega)
        rw [hr] at hRb
        have v1 : (e != 0) = true := by have := Tl.rd_err hr; rw [bne_iff_ne]; omega
        clear hL hf hn hr hR hz
        go_wp2_with fail
        go_at_call 16
        refine hRb.mono ?_
        rintro _ w1 ⟨rfl, hb1⟩
        simp only [resV, errV, okV]
        have hB1 := hB.trans (hb1.mono hB.size)
        clear hb1 hRb
        go_wp2
        go_ret
        exact ⟨rfl, hB1.alloc hB1.size _⟩
      | ok a n =>
        have hrs := Tl.rd_ok hr
        have hRb := hR b' wr (by omega)
        rw [hr] at hRb
        have hsz : (b'.extract (a + n) b'.size).size + (a + n) = b'.size := by simp [ByteArray.size_extract]; omega
        have hsc : (b'.extract a (a + n)).size = n := by simp [ByteArray.size_extract]; omega
        obtain ⟨hz', hsz', hcn, hcm⟩ : 0 < b'.size ∧ (b'.extract (a + n) b'.size).size + 2 ≤ b'.size ∧ (b'.extract a (a + n)).size ≤ 1000000 ∧ (b'.extract (a + n) b'.size).size ≤ c.size := by omega
        have ht0 := Tl.byt_lt b' 0
        have hI := fun W => ih (Tl.byt b' 0) (b'.extract a (a + n)) (b'.extract 0 (a + n)) W (by omega) (by omega) hcn
        by_cases hq : Tl.wit k (Tl.byt b' 0) (b'.extract a (a + n)) = 0
        · obtain ⟨g, rfl, hL'⟩ := hL.ok hz hf hr hq
          have hf' : (b'.extract (a + n) b'.size).size ≤ g := by omega
          rw [hq] at hI
          clear hL hf hn hr hR hz hsz hsc hq ih
          simp only [resV, okV] at hRb
          generalize b'.extract (a + n) b'.size = b2 at *
          generalize b'.extract a (a + n) = c2 at *
          generalize b'.extract 0 (a + n) = r2 at *
          generalize Tl.byt b' 0 = t2 at *
          go_wp2_with fail
          go_at_call 16
          refine hRb.mono ?_
          rintro _ w1 ⟨rfl, hb1⟩
          have hB1 := hB.trans (hb1.mono hB.size)
          have hB2 := hB1.alloc hB1.size (.cells #[.int .i64 t2, .string c2, .string r2] 32)
          clear hb1 hRb hB hB1
          go_wp2_with fail
          go_at_call 33
          refine (hI _).mono ?_
          rintro _ w2 ⟨rfl, hb2⟩
          have hB3 := hB2.trans (hb2.mono hB2.size)
          clear hb2 hB2 hI
          go_wp2
          go_roundw
          case rel => exact ⟨g, b2, rfl, hf', hcm, hL', hB3⟩
          case measure => simp [strLen]; omega
        · have hP := hL.bad hz hf hr hq
          have v2 : (Tl.wit k (Tl.byt b' 0) (b'.extract a (a + n)) != 0) = true := by rw [bne_iff_ne]; exact hq
          rw [hP] at hI v2
          clear hL hf hn hr hR hz hsz hsc hq ih hP
          simp only [resV, okV] at hRb
          generalize b'.extract (a + n) b'.size = b2 at *
          generalize b'.extract a (a + n) = c2 at *
          generalize b'.extract 0 (a + n) = r2 at *
          generalize Tl.byt b' 0 = t2 at *
          go_wp2_with fail
          go_at_call 16
          refine hRb.mono ?_
          rintro _ w1 ⟨rfl, hb1⟩
          have hB1 := hB.trans (hb1.mono hB.size)
          have hB2 := hB1.alloc hB1.size (.cells #[.int .i64 t2, .string c2, .string r2] 32)
          clear hb1 hRb hB hB1
          go_wp2_with fail
          go_at_call 33
          refine (hI _).mono ?_
          rintro _ w2 ⟨rfl, hb2⟩
          have hB3 := hB2.trans (hb2.mono hB2.size)
          clear hb2 hB2 hI
          go_wp2
          go_ret
          exact ⟨rfl, hB3⟩

theorem within_any : ∀ (k : Nat) (t d : Int) (c r : ByteArray) (w : World) (_ : 0 ≤ t) (_ : t ≤ 255) (_ : c.size ≤ 1000000) (_ : d + k = 16) (_ : 1 ≤ d),
    Calls Try.prog 33 #[.agg #[.int .i64 t, .string c, .string r], .int .i64 d] w (IntPost w.heap.size w (Tl.wit k t c))
  | 0, t, d, c, r, w, h0, h1, hc, hd, hs => by
    by_cases ht : t / 32 % 2 = 0
    · exact within_flat 0 t d c r w h0 h1 ht
    · rw [Tl.wit, if_neg ht]; exact within_deep t d c r w h0 h1 hc ht (by omega)
  | k + 1, t, d, c, r, w, h0, h1, hc, hd, hs => by
    by_cases ht : t / 32 % 2 = 0
    · exact within_flat (k + 1) t d c r w h0 h1 ht
    · rw [Tl.wit, if_neg ht]
      exact within_rec k d (fun t' c' r' W a0 a1 ac => within_any k t' (d + 1) c' r' W a0 a1 ac (by omega) (by omega)) t c r w h0 h1 hc ht (by omega)

theorem check_any (b : ByteArray) (w : World) (hs : b.size ≤ 1000000) :
    Calls Try.prog 18 #[.string b] w (IntPost w.heap.size w (Tl.check b)) := by
  have hO := one_any b w (by omega)
  unfold Tl.check
  cases hr : Tl.one b with
  | err c =>
    rw [hr] at hO
    have v1 : (c != 0) = true := by have := Tl.one_err hr; rw [bne_iff_ne]; omega
    simp only [oneV] at hO ⊢
    clear hr
    go_enter Try.func18, Try.ntmps18
    go_wp2_with fail
    go_at_call 15
    refine hO.mono ?_
    rintro _ w1 ⟨rfl, hb1⟩
    have hB1 := hb1.alloc hb1.size (.cells #[.int .i64 0, .string ⟨#[]⟩, .string ⟨#[]⟩] 32)
    clear hb1 hO
    go_wp2
    go_ret
    exact ⟨rfl, hB1⟩
  | ok a n =>
    rw [hr] at hO
    have hsz : (b.extract a (a + n)).size ≤ 1000000 := by simp [ByteArray.size_extract]; omega
    have ht0 := Tl.byt_lt b 0
    have hI := fun W => within_any 15 (Tl.byt b 0) 1 (b.extract a (a + n)) (b.extract 0 (a + n)) W (by omega) (by omega) hsz (by omega) (by omega)
    simp only [oneV, elV] at hO ⊢
    clear hr
    generalize Tl.wit 15 (Tl.byt b 0) (b.extract a (a + n)) = R at *
    generalize b.extract a (a + n) = c2 at *
    generalize b.extract 0 (a + n) = r2 at *
    generalize Tl.byt b 0 = t2 at *
    go_enter Try.func18, Try.ntmps18
    go_wp2_with fail
    go_at_call 15
    refine hO.mono ?_
    rintro _ w1 ⟨rfl, hb1⟩
    have hB1 := hb1.alloc hb1.size (.cells #[.int .i64 t2, .string c2, .string r2] 32)
    clear hb1 hO
    go_wp2_with fail
    go_at_call 33
    refine (hI _).mono ?_
    rintro _ w2 ⟨rfl, hb2⟩
    have hB3 := hB1.trans (hb2.mono hB1.size)
    clear hb2 hB1 hI
    go_wp2
    go_ret
    exact ⟨rfl, hB3⟩

theorem rcheckin_flat (k : Nat) (t d : Int) (c r : ByteArray) (w : World) (h0 : 0 ≤ t) (h1 : t ≤ 255) (ht : t / 32 % 2 = 0) :
    Calls Try.prog 34 #[.agg #[.int .i64 t, .string c, .string r], .int .i64 d] w (IntPost w.heap.size w (Tl.wit k t c)) := by
  have hR : 0 = Tl.wit k t c := by cases k <;> rw [Tl.wit, if_pos ht]
  generalize Tl.wit k t c = R at *
  subst hR
  have v0 : (t / 32 % 2 == 0) = true := by simp [ht]
  clear ht
  go_enter Try.func34, Try.ntmps34
  go_wp2
  go_ret
  exact ⟨rfl, (Below.refl _ _).alloc (Nat.le_refl _) _⟩

set_option maxHeartbeats 1000000 in
theorem rcheckin_deep (t d : Int) (c r : ByteArray) (w : World) (h0 : 0 ≤ t) (h1 : t ≤ 255) (hc : c.size ≤ 1000000) (ht : ¬ t / 32 % 2 = 0) (hd : d = 15) :
    Calls Try.prog 34 #[.agg #[.int .i64 t, .string c, .string r], .int .i64 d] w (IntPost w.heap.size w (Tl.wlp (fun _ _ => 0) true c.size c)) := by
  have hR := rread_any
  have hL0 : WlpIs (fun _ _ => 0) true c.size c (Tl.wlp (fun _ _ => 0) true c.size c) := rfl
  generalize Tl.wlp (fun _ _ => 0) true c.size c = R at *
  have v0 : (t / 32 % 2 == 0) = false := by simp [ht]
  have v4 : decide (16 ≤ d + 1) = true := by simp; omega
  have v5 : 15 ≤ d ∧ d ≤ 15 := by omega
  clear hd
  clear ht
  have hBa := (Below.refl w.heap.size w).alloc (Nat.le_refl _) (.cells #[.int .i64 t, .string c, .string r] 32)
  go_enter Try.func34, Try.ntmps34
  go_wp2
  go_loopw [5] (fun s wr => WlpRel (fun _ _ => 0) true w.heap.size w R c.size s wr) (fun s _ => strLen s)
  case atStart => exact ⟨c.size, c, rfl, Nat.le_refl _, Nat.le_refl _, hL0, hBa⟩
  case round =>
    obtain ⟨f, b', rfl, hf, hn, hL, hB⟩ := hrel
    clear hL0 hBa
    by_cases hz : b'.size = 0
    · have hP := hL.empty hz
      subst hP
      obtain rfl := is_empty b' hz
      clear hL hf hn
      go_wp2
      go_ret
      exact ⟨rfl, hB⟩
    · have v3 : 0 < b'.size := by omega
      cases hr : Tl.rd b' with
      | err e =>
        have hP := hL.err hz hf hr
        subst hP
        have hRb := hR b' wr (by omega)
        rw [hr] at hRb
        have v1 : (e != 0) = true := by have := Tl.rd_err hr; rw [bne_iff_ne]; omega
        clear hL hf hn hr hR hz
        go_wp2_with fail
        go_at_call 29
        refine hRb.mono ?_
        rintro _ w1 ⟨rfl, hb1⟩
        simp only [resV, errV, okV]
        have hB1 := hB.trans (hb1.mono hB.size)
        clear hb1 hRb
        go_wp2
        go_ret
        exact ⟨rfl, hB1.alloc hB1.size _⟩
      | ok a n =>
        have hrs := Tl.rd_ok hr
        have hRb := hR b' wr (by omega)
        rw [hr] at hRb
        have hsz : (b'.extract (a + n) b'.size).size + (a + n) = b'.size := by simp [ByteArray.size_extract]; omega
        have hsc : (b'.extract a (a + n)).size = n := by simp [ByteArray.size_extract]; omega
        obtain ⟨hz', hsz', hcn, hcm⟩ : 0 < b'.size ∧ (b'.extract (a + n) b'.size).size + 2 ≤ b'.size ∧ (b'.extract a (a + n)).size ≤ 1000000 ∧ (b'.extract (a + n) b'.size).size ≤ c.size := by omega
        have ht0 := Tl.byt_lt b' 0
        have hP := hL.over hz hf hr
        subst hP
        clear hL hf hn hr hR hz hsz hsc
        simp only [resV, okV] at hRb
        go_wp2_with fail
        go_at_call 29
        refine hRb.mono ?_
        rintro _ w1 ⟨rfl, hb1⟩
        have hB1 := hB.trans (hb1.mono hB.size)
        clear hb1 hRb
        go_wp2
        go_ret
        exact ⟨rfl, hB1.alloc hB1.size _⟩

set_option maxHeartbeats 1000000 in
theorem rcheckin_rec (k : Nat) (d : Int) (ih : ∀ (t : Int) (c r : ByteArray) (w : World), 0 ≤ t → t ≤ 255 → c.size ≤ 1000000 → Calls Try.prog 34 #[.agg #[.int .i64 t, .string c, .string r], .int .i64 (d + 1)] w (IntPost w.heap.size w (Tl.wit k t c))) (t : Int) (c r : ByteArray) (w : World) (h0 : 0 ≤ t) (h1 : t ≤ 255) (hc : c.size ≤ 1000000) (ht : ¬ t / 32 % 2 = 0) (hd : 0 ≤ d ∧ d ≤ 14) :
    Calls Try.prog 34 #[.agg #[.int .i64 t, .string c, .string r], .int .i64 d] w (IntPost w.heap.size w (Tl.wlp (Tl.wit k) false c.size c)) := by
  have hR := rread_any
  have hL0 : WlpIs (Tl.wit k) false c.size c (Tl.wlp (Tl.wit k) false c.size c) := rfl
  generalize Tl.wlp (Tl.wit k) false c.size c = R at *
  have v0 : (t / 32 % 2 == 0) = false := by simp [ht]
  have v4 : decide (16 ≤ d + 1) = false := by simp; omega
  clear ht
  have hBa := (Below.refl w.heap.size w).alloc (Nat.le_refl _) (.cells #[.int .i64 t, .string c, .string r] 32)
  go_enter Try.func34, Try.ntmps34
  go_wp2
  go_loopw [5] (fun s wr => WlpRel (Tl.wit k) false w.heap.size w R c.size s wr) (fun s _ => strLen s)
  case atStart => exact ⟨c.size, c, rfl, Nat.le_refl _, Nat.le_refl _, hL0, hBa⟩
  case round =>
    obtain ⟨f, b', rfl, hf, hn, hL, hB⟩ := hrel
    clear hL0 hBa
    by_cases hz : b'.size = 0
    · have hP := hL.empty hz
      subst hP
      obtain rfl := is_empty b' hz
      clear hL hf hn
      go_wp2
      go_ret
      exact ⟨rfl, hB⟩
    · have v3 : 0 < b'.size := by omega
      cases hr : Tl.rd b' with
      | err e =>
        have hP := hL.err hz hf hr
        subst hP
        have hRb := hR b' wr (by omega)
        rw [hr] at hRb
        have v1 : (e != 0) = true := by have := Tl.rd_err hr; rw [bne_iff_ne]; omega
        clear hL hf hn hr hR hz
        go_wp2_with fail
        go_at_call 29
        refine hRb.mono ?_
        rintro _ w1 ⟨rfl, hb1⟩
        simp only [resV, errV, okV]
        have hB1 := hB.trans (hb1.mono hB.size)
        clear hb1 hRb
        go_wp2
        go_ret
        exact ⟨rfl, hB1.alloc hB1.size _⟩
      | ok a n =>
        have hrs := Tl.rd_ok hr
        have hRb := hR b' wr (by omega)
        rw [hr] at hRb
        have hsz : (b'.extract (a + n) b'.size).size + (a + n) = b'.size := by simp [ByteArray.size_extract]; omega
        have hsc : (b'.extract a (a + n)).size = n := by simp [ByteArray.size_extract]; omega
        obtain ⟨hz', hsz', hcn, hcm⟩ : 0 < b'.size ∧ (b'.extract (a + n) b'.size).size + 2 ≤ b'.size ∧ (b'.extract a (a + n)).size ≤ 1000000 ∧ (b'.extract (a + n) b'.size).size ≤ c.size := by omega
        have ht0 := Tl.byt_lt b' 0
        have hI := fun W => ih (Tl.byt b' 0) (b'.extract a (a + n)) (b'.extract 0 (a + n)) W (by omega) (by omega) hcn
        by_cases hq : Tl.wit k (Tl.byt b' 0) (b'.extract a (a + n)) = 0
        · obtain ⟨g, rfl, hL'⟩ := hL.ok hz hf hr hq
          have hf' : (b'.extract (a + n) b'.size).size ≤ g := by omega
          rw [hq] at hI
          clear hL hf hn hr hR hz hsz hsc hq ih
          simp only [resV, okV] at hRb
          generalize b'.extract (a + n) b'.size = b2 at *
          generalize b'.extract a (a + n) = c2 at *
          generalize b'.extract 0 (a + n) = r2 at *
          generalize Tl.byt b' 0 = t2 at *
          go_wp2_with fail
          go_at_call 29
          refine hRb.mono ?_
          rintro _ w1 ⟨rfl, hb1⟩
          have hB1 := hB.trans (hb1.mono hB.size)
          have hB2 := hB1.alloc hB1.size (.cells #[.int .i64 t2, .string c2, .string r2] 32)
          clear hb1 hRb hB hB1
          go_wp2_with fail
          go_at_call 34
          refine (hI _).mono ?_
          rintro _ w2 ⟨rfl, hb2⟩
          have hB3 := hB2.trans (hb2.mono hB2.size)
          clear hb2 hB2 hI
          go_wp2
          go_roundw
          case rel => exact ⟨g, b2, rfl, hf', hcm, hL', hB3⟩
          case measure => simp [strLen]; omega
        · have hP := hL.bad hz hf hr hq
          have v2 : (Tl.wit k (Tl.byt b' 0) (b'.extract a (a + n)) != 0) = true := by rw [bne_iff_ne]; exact hq
          rw [hP] at hI v2
          clear hL hf hn hr hR hz hsz hsc hq ih hP
          simp only [resV, okV] at hRb
          generalize b'.extract (a + n) b'.size = b2 at *
          generalize b'.extract a (a + n) = c2 at *
          generalize b'.extract 0 (a + n) = r2 at *
          generalize Tl.byt b' 0 = t2 at *
          go_wp2_with fail
          go_at_call 29
          refine hRb.mono ?_
          rintro _ w1 ⟨rfl, hb1⟩
          have hB1 := hB.trans (hb1.mono hB.size)
          have hB2 := hB1.alloc hB1.size (.cells #[.int .i64 t2, .string c2, .string r2] 32)
          clear hb1 hRb hB hB1
          go_wp2_with fail
          go_at_call 34
          refine (hI _).mono ?_
          rintro _ w2 ⟨rfl, hb2⟩
          have hB3 := hB2.trans (hb2.mono hB2.size)
          clear hb2 hB2 hI
          go_wp2
          go_ret
          exact ⟨rfl, hB3⟩

theorem rcheckin_any : ∀ (k : Nat) (t d : Int) (c r : ByteArray) (w : World) (_ : 0 ≤ t) (_ : t ≤ 255) (_ : c.size ≤ 1000000) (_ : d + k = 15) (_ : 0 ≤ d),
    Calls Try.prog 34 #[.agg #[.int .i64 t, .string c, .string r], .int .i64 d] w (IntPost w.heap.size w (Tl.wit k t c))
  | 0, t, d, c, r, w, h0, h1, hc, hd, hs => by
    by_cases ht : t / 32 % 2 = 0
    · exact rcheckin_flat 0 t d c r w h0 h1 ht
    · rw [Tl.wit, if_neg ht]; exact rcheckin_deep t d c r w h0 h1 hc ht (by omega)
  | k + 1, t, d, c, r, w, h0, h1, hc, hd, hs => by
    by_cases ht : t / 32 % 2 = 0
    · exact rcheckin_flat (k + 1) t d c r w h0 h1 ht
    · rw [Tl.wit, if_neg ht]
      exact rcheckin_rec k d (fun t' c' r' W a0 a1 ac => rcheckin_any k t' (d + 1) c' r' W a0 a1 ac (by omega) (by omega)) t c r w h0 h1 hc ht (by omega)

theorem rcheck_any (b : ByteArray) (w : World) (hs : b.size ≤ 1000000) :
    Calls Try.prog 19 #[.string b] w (IntPost w.heap.size w (Tl.check b)) := by
  have hO := rone_any b w (by omega)
  unfold Tl.check
  cases hr : Tl.one b with
  | err c =>
    rw [hr] at hO
    have v1 : (c != 0) = true := by have := Tl.one_err hr; rw [bne_iff_ne]; omega
    simp only [oneV] at hO ⊢
    clear hr
    go_enter Try.func19, Try.ntmps19
    go_wp2_with fail
    go_at_call 30
    refine hO.mono ?_
    rintro _ w1 ⟨rfl, hb1⟩
    have hB1 := hb1.alloc hb1.size (.cells #[.int .i64 0, .string ⟨#[]⟩, .string ⟨#[]⟩] 32)
    clear hb1 hO
    go_wp2
    go_ret
    exact ⟨rfl, hB1⟩
  | ok a n =>
    rw [hr] at hO
    have hsz : (b.extract a (a + n)).size ≤ 1000000 := by simp [ByteArray.size_extract]; omega
    have ht0 := Tl.byt_lt b 0
    have hI := fun W => rcheckin_any 15 (Tl.byt b 0) 0 (b.extract a (a + n)) (b.extract 0 (a + n)) W (by omega) (by omega) hsz (by omega) (by omega)
    simp only [oneV, elV] at hO ⊢
    clear hr
    generalize Tl.wit 15 (Tl.byt b 0) (b.extract a (a + n)) = R at *
    generalize b.extract a (a + n) = c2 at *
    generalize b.extract 0 (a + n) = r2 at *
    generalize Tl.byt b 0 = t2 at *
    go_enter Try.func19, Try.ntmps19
    go_wp2_with fail
    go_at_call 30
    refine hO.mono ?_
    rintro _ w1 ⟨rfl, hb1⟩
    have hB1 := hb1.alloc hb1.size (.cells #[.int .i64 t2, .string c2, .string r2] 32)
    clear hb1 hO
    go_wp2_with fail
    go_at_call 34
    refine (hI _).mono ?_
    rintro _ w2 ⟨rfl, hb2⟩
    have hB3 := hB1.trans (hb2.mono hB1.size)
    clear hb2 hB1 hI
    go_wp2
    go_ret
    exact ⟨rfl, hB3⟩

end Go.Proofs.Ytmmoimemfdbfgaa
