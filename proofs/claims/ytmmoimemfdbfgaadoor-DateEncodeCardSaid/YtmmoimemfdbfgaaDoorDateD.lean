/-
  The contracts of Civil, of both texts.
-/
import Derived.Test.YtmmoimemfdbfgaaDoorDateC
namespace Go.Proofs.YtmmoimemfdbfgaaDoor
open Go.RowKit

theorem zero_cells (w : World) : ∀ e : Ext (w.alloc (dateBlock 0 0 0 0 0 0)), ∀ k : Nat, e.out.frozen? ⟨w.heap.size, k, none⟩ = false := by
  intro e k
  have hz : w.heap.size < (w.alloc (dateBlock 0 0 0 0 0 0)).heap.size := by simp
  rw [e.bel.frozen (p := ⟨w.heap.size, k, none⟩) hz]
  exact World.frozen?_alloc_at _ _ _ _ rfl

/-- what Civil returns for a time in range -/
def CivilPost (t : Int) (w : World) (e : Ending) (w' : World) : Prop :=
  ∃ y m d h n s, e = .returned (.tuple #[.agg #[.int .i64 y, .int .i64 m, .int .i64 d, .int .i64 h, .int .i64 n, .int .i64 s], .int .i64 0]) ∧ Cal.Vld y m d h n s ∧ Cal.sec y m d h n s = t ∧ Below w.heap.size w w'

theorem civil_post {t y m r : Int} {w : World} {w' : World} {h n s : Int} (y1 : 1950 ≤ y) (y2 : y ≤ 9999) (m1 : 1 ≤ m) (m2 : m ≤ 12) (r0 : 0 ≤ r) (r1 : r < Cal.mlen y m)
    (hr : r = t / 86400 - Cal.bef y - Cal.cum y m) (hh : h = t % 86400 / 3600) (hn : n = t % 86400 / 60 % 60) (hs : s = t % 86400 % 60) (hb : Below w.heap.size w w') :
    CivilPost t w (.returned (.tuple #[.agg #[.int .i64 y, .int .i64 m, .int .i64 (r + 1), .int .i64 h, .int .i64 n, .int .i64 s], .int .i64 0])) w' := by
  subst hh hn hs
  exact ⟨_, _, _, _, _, _, rfl, Cal.civil_vld t y m r y1 y2 m1 m2 r0 r1, Cal.civil_sec t y m r hr, hb⟩

theorem civil_good (t : Int) (w : World) (ht : Tab w) (t0 : 0 ≤ t) (t1 : t ≤ 254033452799) :
    Calls Tryd.prog 10 #[.int .i64 t] w (CivilPost t w) := by
  have hd := date_cells 0 0 0 0 0 0 w
  have c0 := fun e => (hd e).1
  have c1 := fun e => (hd e).2.1
  have c2 := fun e => (hd e).2.2.1
  have c3 := fun e => (hd e).2.2.2.1
  have c4 := fun e => (hd e).2.2.2.2.1
  have c5 := fun e => (hd e).2.2.2.2.2
  have hf := zero_cells w
  clear hd
  have hB : ∀ e : Ext (w.alloc (dateBlock 0 0 0 0 0 0)), Below w.heap.size w e.out := fun e => box_below w _ e
  have hT : ∀ e : Ext (w.alloc (dateBlock 0 0 0 0 0 0)), Tab e.out := fun e => (ht.alloc ht.size _).ext (by have := ht.size; simp; try omega) e
  have g0 := Cal.bef_guess (t / 86400) (by omega)
  have ge := Cal.bef_end
  have gm : t / 86400 < Cal.bef 10000 := by rw [ge]; omega
  have gl : t / 86400 ≤ 2940201 := by omega
  clear ge
  have b0 : decide (t < 0) = false := by simp; omega
  have b1 : decide (254033452799 < t) = false := by simp; omega
  go_enter Tryd.func10, Tryd.ntmps10
  go_wp2
  change Code.wp _ _ _ _ (w.alloc (dateBlock 0 0 0 0 0 0))
  obtain ⟨e0, he0⟩ : ∃ e : Ext (w.alloc (dateBlock 0 0 0 0 0 0)), w.alloc (dateBlock 0 0 0 0 0 0) = e.out := ⟨Ext.self _, rfl⟩
  rw [he0]; clear he0
  generalize w.alloc (dateBlock 0 0 0 0 0 0) = W at *
  go_loopw [6] (fun yy wr => ∃ y : Int, 1950 ≤ y ∧ y ≤ 9999 ∧ Cal.bef y ≤ t / 86400 ∧ yy = .int .i64 y ∧ ∃ e : Ext W, wr = e.out) (fun yy _ => (9999 - intOf yy).toNat)
  case atStart => exact ⟨_, by omega, by omega, g0, rfl, e0, rfl⟩
  case round =>
    obtain ⟨y, y1, y2, y3, rfl, e1, rfl⟩ := hrel
    clear g0
    by_cases hc : Cal.bef (y + 1) ≤ t / 86400
    · have hlt : y < 9999 := by
        rcases (by omega : y < 9999 ∨ y = 9999) with q | q
        · exact q
        · subst q; have : Cal.bef (9999 + 1) = Cal.bef 10000 := rfl; omega
      go_wp2_with (go_at_call 24; refine (before_any _ _ (by omega) (by omega)).mono ?_; rintro e w' ⟨rfl, rfl⟩)
      go_roundw
      case rel => exact ⟨y + 1, by omega, by omega, hc, rfl, e1, rfl⟩
      case measure => simp [intOf]; omega
    · have hs := Cal.bef_succ y
      have hb := Cal.bef_bd y y1 (by omega)
      have hl := Cal.lp_01 y
      have hn : t / 86400 < Cal.bef (y + 1) := by omega
      have hr : t / 86400 - Cal.bef y < 365 + Cal.lp y := by omega
      have HC : ¬ Cal.bef (y + 1) ≤ t / 86400 := hc
      clear hc hs
      go_wp2_with (go_at_call 24; refine (before_any _ _ (by omega) (by omega)).mono ?_; rintro e w' ⟨rfl, rfl⟩)
      go_loopw [4, 7] (fun dd mm wr => ∃ m : Int, 1 ≤ m ∧ m ≤ 12 ∧ mm = .int .i64 m ∧ 0 ≤ t / 86400 - Cal.bef y - Cal.cum y m ∧ dd = .int .i64 (t / 86400 - Cal.bef y - Cal.cum y m) ∧ ∃ e : Ext W, wr = e.out) (fun _ mm _ => (12 - intOf mm).toNat)
      case atStart => exact ⟨1, by omega, by omega, rfl, by rw [Cal.cum_one]; omega, by rw [Cal.cum_one]; go_num, e1, rfl⟩
      case round =>
        obtain ⟨m, m1, m2, rfl, r0, rfl, e2, rfl⟩ := hrel
        have cb := Cal.cum_bd y m m1 (by omega)
        have mb := Cal.mlen_bd y m
        by_cases hd : Cal.mlen y m ≤ t / 86400 - Cal.bef y - Cal.cum y m
        · have cs := Cal.cum_succ y m m1 m2
          have hm : m < 12 := by
            rcases (by omega : m < 12 ∨ m = 12) with q | q
            · exact q
            · subst q; have : Cal.cum y (12 + 1) = 365 + Cal.lp y := Cal.cum_last y; omega
          have CS := Lib.hid cs; clear cs
          go_wp2_with (go_at_call 25; refine (length_any _ _ _ (by omega) (by omega) (by omega) (by omega) (hT _)).mono ?_; rintro e w' ⟨rfl, rfl⟩)
          go_roundw
          case rel => exact ⟨m + 1, by omega, by omega, rfl, by rw [CS.out]; omega, by rw [CS.out]; go_num, e2, rfl⟩
          case measure => simp [intOf]; omega
        · have hd' : t / 86400 - Cal.bef y - Cal.cum y m < Cal.mlen y m := by omega
          go_wp2_with (go_at_call 25; refine (length_any _ _ _ (by omega) (by omega) (by omega) (by omega) (hT _)).mono ?_; rintro e w' ⟨rfl, rfl⟩)
          refine bodyPost_ret (v := .tuple #[.agg #[.int .i64 y, .int .i64 m, .int .i64 (t / 86400 - Cal.bef y - Cal.cum y m + 1), .int .i64 (t % 86400 / 3600), .int .i64 (t % 86400 / 60 % 60), .int .i64 (t % 60)], .int .i64 0]) (by simp [results, Tryd.results10, go_sem, c0, c1, c2, c3, c4, c5]) rfl ?_
          refine civil_post y1 y2 m1 m2 r0 hd' rfl (by omega) (by omega) (by omega) ?_
          iterate 6 refine below_own ?_ _ _
          exact hB _

theorem rcivil_good (t : Int) (w : World) (t0 : 0 ≤ t) (t1 : t ≤ 254033452799) :
    Calls Tryd.prog 11 #[.int .i64 t] w (CivilPost t w) := by
  have hd := date_cells 0 0 0 0 0 0 w
  have c0 := fun e => (hd e).1
  have c1 := fun e => (hd e).2.1
  have c2 := fun e => (hd e).2.2.1
  have c3 := fun e => (hd e).2.2.2.1
  have c4 := fun e => (hd e).2.2.2.2.1
  have c5 := fun e => (hd e).2.2.2.2.2
  have hf := zero_cells w
  clear hd
  have hB : ∀ e : Ext (w.alloc (dateBlock 0 0 0 0 0 0)), Below w.heap.size w e.out := fun e => box_below w _ e
  have g0 := Cal.bef_guess (t / 86400) (by omega)
  have ge := Cal.bef_end
  have gm : t / 86400 < Cal.bef 10000 := by rw [ge]; omega
  have gl : t / 86400 ≤ 2940201 := by omega
  clear ge
  have b0 : decide (t < 0) = false := by simp; omega
  have b1 : decide (254033452799 < t) = false := by simp; omega
  go_enter Tryd.func11, Tryd.ntmps11
  go_wp2
  change Code.wp _ _ _ _ (w.alloc (dateBlock 0 0 0 0 0 0))
  obtain ⟨e0, he0⟩ : ∃ e : Ext (w.alloc (dateBlock 0 0 0 0 0 0)), w.alloc (dateBlock 0 0 0 0 0 0) = e.out := ⟨Ext.self _, rfl⟩
  rw [he0]; clear he0
  generalize w.alloc (dateBlock 0 0 0 0 0 0) = W at *
  go_loopw [5] (fun yy wr => ∃ y : Int, 1950 ≤ y ∧ y ≤ 9999 ∧ Cal.bef y ≤ t / 86400 ∧ yy = .int .i64 y ∧ ∃ e : Ext W, wr = e.out) (fun yy _ => (9999 - intOf yy).toNat)
  case atStart => exact ⟨_, by omega, by omega, g0, rfl, e0, rfl⟩
  case round =>
    obtain ⟨y, y1, y2, y3, rfl, e1, rfl⟩ := hrel
    clear g0
    by_cases hc : Cal.bef (y + 1) ≤ t / 86400
    · have hlt : y < 9999 := by
        rcases (by omega : y < 9999 ∨ y = 9999) with q | q
        · exact q
        · subst q; have : Cal.bef (9999 + 1) = Cal.bef 10000 := rfl; omega
      go_wp2_with (go_at_call 26; refine (rbefore_any _ _ (by omega) (by omega)).mono ?_; rintro e w' ⟨rfl, rfl⟩)
      go_roundw
      case rel => exact ⟨y + 1, by omega, by omega, hc, rfl, e1, rfl⟩
      case measure => simp [intOf]; omega
    · have hs := Cal.bef_succ y
      have hb := Cal.bef_bd y y1 (by omega)
      have hl := Cal.lp_01 y
      have hn : t / 86400 < Cal.bef (y + 1) := by omega
      have hr : t / 86400 - Cal.bef y < 365 + Cal.lp y := by omega
      have HC : ¬ Cal.bef (y + 1) ≤ t / 86400 := hc
      clear hc hs
      go_wp2_with (go_at_call 26; refine (rbefore_any _ _ (by omega) (by omega)).mono ?_; rintro e w' ⟨rfl, rfl⟩)
      go_loopw [4, 6] (fun dd mm wr => ∃ m : Int, 1 ≤ m ∧ m ≤ 12 ∧ mm = .int .i64 m ∧ 0 ≤ t / 86400 - Cal.bef y - Cal.cum y m ∧ dd = .int .i64 (t / 86400 - Cal.bef y - Cal.cum y m) ∧ ∃ e : Ext W, wr = e.out) (fun _ mm _ => (12 - intOf mm).toNat)
      case atStart => exact ⟨1, by omega, by omega, rfl, by rw [Cal.cum_one]; omega, by rw [Cal.cum_one]; go_num, e1, rfl⟩
      case round =>
        obtain ⟨m, m1, m2, rfl, r0, rfl, e2, rfl⟩ := hrel
        have cb := Cal.cum_bd y m m1 (by omega)
        have mb := Cal.mlen_bd y m
        by_cases hd : Cal.mlen y m ≤ t / 86400 - Cal.bef y - Cal.cum y m
        · have cs := Cal.cum_succ y m m1 m2
          have hm : m < 12 := by
            rcases (by omega : m < 12 ∨ m = 12) with q | q
            · exact q
            · subst q; have : Cal.cum y (12 + 1) = 365 + Cal.lp y := Cal.cum_last y; omega
          have CS := Lib.hid cs; clear cs
          go_wp2_with fail
          go_at_call 27
          refine (days_any _ _ _ (by omega) (by omega) (by omega) (by omega)).mono ?_
          rintro e w' ⟨rfl, hb1⟩
          obtain ⟨e3, rfl⟩ := e2.next hb1
          clear hb1
          go_wp2_with fail
          go_at_call 27
          refine (days_any _ _ _ (by omega) (by omega) (by omega) (by omega)).mono ?_
          rintro e w' ⟨rfl, hb2⟩
          obtain ⟨e4, rfl⟩ := e3.next hb2
          clear hb2
          go_wp2
          go_roundw
          case rel => exact ⟨m + 1, by omega, by omega, rfl, by rw [CS.out]; omega, by rw [CS.out]; go_num, e4, rfl⟩
          case measure => simp [intOf]; omega
        · have hd' : t / 86400 - Cal.bef y - Cal.cum y m < Cal.mlen y m := by omega
          go_wp2_with fail
          go_at_call 27
          refine (days_any _ _ _ (by omega) (by omega) (by omega) (by omega)).mono ?_
          rintro e w' ⟨rfl, hb1⟩
          obtain ⟨e3, rfl⟩ := e2.next hb1
          clear hb1
          go_wp2
          refine bodyPost_ret (v := .tuple #[.agg #[.int .i64 y, .int .i64 m, .int .i64 (t / 86400 - Cal.bef y - Cal.cum y m + 1), .int .i64 (t / 3600 % 24), .int .i64 (t / 60 % 60), .int .i64 (t % 60)], .int .i64 0]) (by simp [results, Tryd.results11, go_sem, c0, c1, c2, c3, c4, c5]) rfl ?_
          refine civil_post y1 y2 m1 m2 r0 hd' rfl (by omega) (by omega) (by omega) ?_
          iterate 6 refine below_own ?_ _ _
          exact hB _

end Go.Proofs.YtmmoimemfdbfgaaDoor