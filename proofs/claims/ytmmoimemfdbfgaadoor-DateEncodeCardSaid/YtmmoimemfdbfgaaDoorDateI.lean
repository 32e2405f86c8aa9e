/-
  The contracts of pad and of FormatTime.
-/
import Derived.Test.YtmmoimemfdbfgaaDoorDateH
namespace Go.Proofs.YtmmoimemfdbfgaaDoor
open Go.RowKit

def strLen : Value → Nat
  | .string s => s.size
  | _ => 0

theorem pad_any (v : Int) (j d : Nat) (w : World) (hj : j ≤ 10) (hd : d ≤ 100) (hv : Dig.HasLen (j + 1) v) (h9 : v ≤ 9999) :
    Calls Tryd.prog 33 #[.int .i64 v, .int .i64 d] w fun e w' => e = .returned (.string ⟨(List.replicate (d - (j + 1)) 48 ++ Dig.low (j + 1) v).toArray⟩) ∧ Below w.heap.size w w' := by
  have hl := Dig.low_length (j + 1) v
  go_enter Tryd.func33, Tryd.ntmps33
  go_wp2_with fail
  go_at_call 39
  refine (dec_any j v _ hj hv h9).mono ?_
  rintro e w1 ⟨rfl, hb⟩
  obtain ⟨L, hLe⟩ : ∃ L, L = Dig.low (j + 1) v := ⟨_, rfl⟩
  rw [← hLe] at hl ⊢
  have HL := Lib.hid hl
  have HLE := Lib.hid hLe
  clear hLe
  clear hl hv
  go_wp2
  go_loop [5] (fun t => ∃ M : List UInt8, t = .string ⟨M.toArray⟩ ∧ M.length ≤ max d (j + 1) ∧ ∃ k : Nat, (d ≤ j + 1 → k = 0) ∧ Hid (M = List.replicate k 48 ++ L)) (fun t => d - strLen t)
  case atStart => exact ⟨L, rfl, by have := HL.out; omega, 0, fun _ => rfl, rfl⟩
  case round =>
    obtain ⟨M, rfl, hM, k, hk, hMe⟩ := hrel
    by_cases hlt : M.length < d
    · go_wp2
      go_round
      case rel =>
        refine ⟨48 :: M, ?_, by simp; omega, k + 1, ?_, ?_⟩
        · exact congrArg Value.string (bytes_cat [48] M)
        · intro hh; exfalso; have := HL.out; have h2 : M.length = k + L.length := by rw [hMe.out]; simp
          omega
        · show _ = _
          rw [hMe.out, List.replicate_succ, List.cons_append]
      case measure => simp [strLen, ByteArray.size]; omega
    · have hfin : M = List.replicate (d - (j + 1)) 48 ++ L := by
        have h1 := HL.out
        have h2 : M.length = k + L.length := by rw [hMe.out]; simp
        have hke : k = d - (j + 1) := by
          rcases Nat.lt_or_ge (j + 1) d with q | q
          · omega
          · have := hk q; omega
        rw [hMe.out, hke]
      have HF := Lib.hid hfin
      clear hfin hk
      go_wp2
      go_ret
      exact ⟨by rw [← HLE.out, ← HF.out]; rfl, hb⟩

theorem pad2 (v : Int) (w : World) (h0 : 0 ≤ v) (h1 : v ≤ 99) :
    Calls Tryd.prog 33 #[.int .i64 v, .int .i64 2] w fun e w' => e = .returned (.string ⟨(Dig.low 2 v).toArray⟩) ∧ Below w.heap.size w w' := by
  rcases (by omega : v ≤ 9 ∨ 10 ≤ v) with q | q
  · refine (pad_any v 0 2 w (by omega) (by omega) ⟨h0, q⟩ (by omega)).mono ?_
    rintro e w' ⟨rfl, hb⟩
    refine ⟨?_, hb⟩
    rw [Dig.low_two v h0 q, Dig.low_one v h0 q]; rfl
  · refine (pad_any v 1 2 w (by omega) (by omega) (Dig.has_two v q h1) (by omega)).mono ?_
    rintro e w' ⟨rfl, hb⟩
    exact ⟨rfl, hb⟩

theorem pad4 (v : Int) (w : World) (h0 : 1000 ≤ v) (h1 : v ≤ 9999) :
    Calls Tryd.prog 33 #[.int .i64 v, .int .i64 4] w fun e w' => e = .returned (.string ⟨(Dig.low 4 v).toArray⟩) ∧ Below w.heap.size w w' := by
  refine (pad_any v 3 4 w (by omega) (by omega) (Dig.has_four v h0 h1) (by omega)).mono ?_
  rintro e w' ⟨rfl, hb⟩
  exact ⟨rfl, hb⟩

theorem rformat_bad (t : Int) (w : World) (h : t < 0 ∨ 254033452799 < t) :
    Calls Tryd.prog 19 #[.int .i64 t] w fun e w' => e = .returned (.tuple #[.string ⟨#[]⟩, .int .i64 1]) ∧ Below w.heap.size w w' := by
  go_enter Tryd.func19, Tryd.ntmps19
  go_wp2_with fail
  go_at_call 11
  refine (rcivil_bad t _ h).mono ?_
  rintro e w1 ⟨rfl, hb⟩
  go_wp2
  go_ret2
  exact ⟨rfl, hb.alloc hb.size _⟩

theorem fmt_cat (y m d h n s : Int) : (((((((((((⟨(Dig.low 4 y).toArray⟩ : ByteArray) ++ ⟨#[45]⟩) ++ ⟨(Dig.low 2 m).toArray⟩) ++ ⟨#[45]⟩) ++ ⟨(Dig.low 2 d).toArray⟩) ++ ⟨#[32]⟩) ++ ⟨(Dig.low 2 h).toArray⟩) ++ ⟨#[58]⟩) ++ ⟨(Dig.low 2 n).toArray⟩) ++ ⟨#[58]⟩) ++ ⟨(Dig.low 2 s).toArray⟩)
    = ⟨(Dig.txt y m d h n s 5).toArray⟩ := by
  apply ByteArray.ext
  simp [Dig.txt, Dig.sep, Dig.fld]

set_option maxHeartbeats 1000000 in
theorem rformat_good (t : Int) (w : World) (t0 : 0 ≤ t) (t1 : t ≤ 254033452799) :
    Calls Tryd.prog 19 #[.int .i64 t] w (FormatPost t w) := by
  go_enter Tryd.func19, Tryd.ntmps19
  go_wp2_with fail
  go_at_call 11
  refine (rcivil_good t _ t0 t1).mono ?_
  rintro e w1 ⟨y, m, d, h, n, s, rfl, v, hsec, hb⟩
  have hcs := date_cells y m d h n s w1
  have c0 := fun e => (hcs e).1
  have c1 := fun e => (hcs e).2.1
  have c2 := fun e => (hcs e).2.2.1
  have c3 := fun e => (hcs e).2.2.2.1
  have c4 := fun e => (hcs e).2.2.2.2.1
  have c5 := fun e => (hcs e).2.2.2.2.2
  have hB : ∀ e : Ext (w1.alloc (dateBlock y m d h n s)), Below w.heap.size w e.out := fun e => hb.trans ((box_below w1 _ e).mono hb.size)
  have hfin : ∀ w', Below w.heap.size w w' → FormatPost t w (.returned (.tuple #[.string ⟨(Dig.txt y m d h n s 5).toArray⟩, .int .i64 0])) w' := fun w' hb => ⟨y, m, d, h, n, s, v, hsec, rfl, hb⟩
  obtain ⟨y1, y2, m1, m2, d1, d2, h1, h2, n1, n2, s1, s2⟩ := v
  have md := Cal.mlen_bd y m
  have l4 : (Dig.low 4 y).length ≤ 4 := by rw [Dig.low_length]; omega
  have lm : (Dig.low 2 m).length ≤ 2 := by rw [Dig.low_length]; omega
  have ld : (Dig.low 2 d).length ≤ 2 := by rw [Dig.low_length]; omega
  have lh : (Dig.low 2 h).length ≤ 2 := by rw [Dig.low_length]; omega
  have ln : (Dig.low 2 n).length ≤ 2 := by rw [Dig.low_length]; omega
  have ls : (Dig.low 2 s).length ≤ 2 := by rw [Dig.low_length]; omega
  have HF := Lib.hid hfin
  clear hcs hfin hsec hb
  go_wp2_with fail
  change Code.wp _ _ _ _ (w1.alloc (dateBlock y m d h n s))
  generalize w1.alloc (dateBlock y m d h n s) = W at *
  refine wp_region_self (by kernel_rfl) (by kernel_rfl) ?_
  repeat (go_big_quiet_step (fail))
  go_big_quiet_step ((go_at_call 33; exact ext_of (pad4 y _ (by omega) (by omega))))
  repeat (go_big_quiet_step (fail))
  go_big_quiet_step ((go_at_call 33; exact ext_of (pad2 m _ (by omega) (by omega))))
  repeat (go_big_quiet_step (fail))
  go_big_quiet_step ((go_at_call 33; exact ext_of (pad2 d _ (by omega) (by omega))))
  repeat (go_big_quiet_step (fail))
  go_big_quiet_step ((go_at_call 33; exact ext_of (pad2 h _ (by omega) (by omega))))
  repeat (go_big_quiet_step (fail))
  go_big_quiet_step ((go_at_call 33; exact ext_of (pad2 n _ (by omega) (by omega))))
  repeat (go_big_quiet_step (fail))
  go_big_quiet_step ((go_at_call 33; exact ext_of (pad2 s _ (by omega) (by omega))))
  repeat (go_big_quiet_step (fail))
  refine wpQuiet_nil ?_
  rintro _ ⟨e1, rfl⟩
  go_wp2
  go_ret2
  have := HF.out e1.out (hB e1)
  rw [← fmt_cat] at this
  exact this

end Go.Proofs.YtmmoimemfdbfgaaDoor
