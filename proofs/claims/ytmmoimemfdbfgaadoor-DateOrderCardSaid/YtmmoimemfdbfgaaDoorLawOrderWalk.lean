/-
  The walk of DateOrder: it returns true.
-/
import Derived.Test.YtmmoimemfdbfgaaDoorLawCivilWalk
import Derived.Test.YtmmoimemfdbfgaaDoorDateLex
import Derived.WalkLawsBesides
namespace Go.Proofs.YtmmoimemfdbfgaaDoor
open Go.RowKit

theorem format_at {x y m d h n s : Int} (w : World) (ht : Tab w) (v : Cal.Vld y m d h n s) (hs : Cal.sec y m d h n s = x) :
    Calls Tryd.prog 18 #[.int .i64 x] w fun e w' => e = .returned (.tuple #[.string ⟨(Dig.txt y m d h n s 5).toArray⟩, .int .i64 0]) ∧ Below w.heap.size w w' := by
  have hb := Cal.sec_bd v
  rw [hs] at hb
  refine (format_good x w ht hb.1 hb.2).mono ?_
  rintro e w' ⟨y', m', d', h', n', s', v', hs', rfl, hb⟩
  obtain ⟨rfl, rfl, rfl, rfl, rfl, rfl⟩ := Cal.sec_inj v' v (hs'.trans hs.symm)
  exact ⟨rfl, hb⟩

set_option maxHeartbeats 1000000 in
theorem law_order (t u k j d : Int) (w : World) (ht : Tab w) (hk0 : 0 ≤ k) (hk1 : k ≤ 65535) (hj0 : 0 ≤ j) (hj1 : j ≤ 65535) (hd0 : -128 ≤ d) (hd1 : d ≤ 127) :
    Calls Tryd.prog 6 #[.int .i64 t, .int .i64 u, .int .u16 k, .int .u16 j, .int .i8 d] w fun e w' => e = .returned (.bool true) ∧ Below w.heap.size w w' := by
  go_enter Tryd.func6, Tryd.ntmps6
  go_wp2_with fail
  go_at_call 9
  refine (near_any t k d _ hk0 hk1 hd0 hd1).mono ?_
  rintro e w1 ⟨x, rfl, hb1⟩
  obtain ⟨e1, rfl⟩ := (Ext.self w).next hb1
  clear hb1
  go_wp2_with fail
  go_at_call 9
  refine (near_any u j d _ hj0 hj1 hd0 hd1).mono ?_
  rintro e w2 ⟨z, rfl, hb2⟩
  obtain ⟨e2, rfl⟩ := e1.next hb2
  clear hb2
  have hT : ∀ e : Ext w, Tab e.out := fun e => ht.ext ht.size e
  by_cases hx : 0 ≤ x ∧ x ≤ 254033452799
  · obtain ⟨y, m, dd, h, n, s, v, hs, _⟩ := civil_both_good x hx.1 hx.2
    go_wp2_with fail
    go_at_call 18
    refine (format_at _ (hT _) v hs).mono ?_
    rintro e w3 ⟨rfl, hb3⟩
    obtain ⟨e3, rfl⟩ := e2.next hb3
    clear hb3
    by_cases hz : 0 ≤ z ∧ z ≤ 254033452799
    · obtain ⟨y', m', d', h', n', s', v', hs', _⟩ := civil_both_good z hz.1 hz.2
      have f1 : decide (x < z) = Op.bytesLess (Dig.txt y m dd h n s 5) (Dig.txt y' m' d' h' n' s' 5) := by
        rw [Lex.text_less v v', decide_eq_decide, ← hs, ← hs']; exact Lex.sec_lt v v'
      have f2 : (x == z) = (Dig.txt y m dd h n s 5 == Dig.txt y' m' d' h' n' s' 5) := by
        rw [Lex.text_eq v v', Bool.eq_iff_iff, beq_iff_eq, decide_eq_true_eq, ← hs, ← hs']
        constructor
        · exact fun e => Cal.sec_inj v v' e
        · rintro ⟨rfl, rfl, rfl, rfl, rfl, rfl⟩; rfl
      go_wp2_with fail
      go_at_call 18
      refine (format_at _ (hT _) v' hs').mono ?_
      rintro e w4 ⟨rfl, hb4⟩
      obtain ⟨e4, rfl⟩ := e3.next hb4
      clear hb4 v v' hs hs' hx hz
      generalize Dig.txt y m dd h n s 5 = A at *
      generalize Dig.txt y' m' d' h' n' s' 5 = B at *
      have g1 : (decide (x < z) == Op.bytesLess A B) = true := by rw [f1]; simp
      have g2 : ((x == z) == (A == B)) = true := by rw [f2]; simp
      clear f1 f2
      go_wp2_with fail
      go_at_call 13
      refine (awake_any _ (hT _)).mono ?_
      rintro e w5 ⟨rfl, hb5⟩
      obtain ⟨e5, rfl⟩ := e4.next hb5
      clear hb5 hT
      go_wp2
      go_ret
      exact ⟨rfl, e5.bel⟩
    · clear v hs hx
      have hl := Dig.txt_length y m dd h n s 5
      generalize Dig.txt y m dd h n s 5 = A at *
      have hne : A.isEmpty = false := by cases A; simp at hl; rfl
      clear hl
      go_wp2_with fail
      go_at_call 18
      refine (format_bad z _ (by omega)).mono ?_
      rintro e w4 ⟨rfl, hb4⟩
      obtain ⟨e4, rfl⟩ := e3.next hb4
      clear hb4 hz
      go_wp2_with fail
      go_at_call 13
      refine (awake_any _ (hT _)).mono ?_
      rintro e w5 ⟨rfl, hb5⟩
      obtain ⟨e5, rfl⟩ := e4.next hb5
      clear hb5 hT
      go_wp2
      go_ret
      exact ⟨rfl, e5.bel⟩
  · go_wp2_with fail
    go_at_call 18
    refine (format_bad x _ (by omega)).mono ?_
    rintro e w3 ⟨rfl, hb3⟩
    obtain ⟨e3, rfl⟩ := e2.next hb3
    clear hb3 hx
    by_cases hz : 0 ≤ z ∧ z ≤ 254033452799
    · obtain ⟨y', m', d', h', n', s', v', hs', _⟩ := civil_both_good z hz.1 hz.2
      go_wp2_with fail
      go_at_call 18
      refine (format_at _ (hT _) v' hs').mono ?_
      rintro e w4 ⟨rfl, hb4⟩
      obtain ⟨e4, rfl⟩ := e3.next hb4
      clear hb4 hz v' hs'
      go_wp2_with fail
      go_at_call 13
      refine (awake_any _ (hT _)).mono ?_
      rintro e w5 ⟨rfl, hb5⟩
      obtain ⟨e5, rfl⟩ := e4.next hb5
      clear hb5 hT
      go_wp2
      go_ret
      exact ⟨rfl, e5.bel⟩
    · go_wp2_with fail
      go_at_call 18
      refine (format_bad z _ (by omega)).mono ?_
      rintro e w4 ⟨rfl, hb4⟩
      obtain ⟨e4, rfl⟩ := e3.next hb4
      clear hb4 hz
      go_wp2_with fail
      go_at_call 13
      refine (awake_any _ (hT _)).mono ?_
      rintro e w5 ⟨rfl, hb5⟩
      obtain ⟨e5, rfl⟩ := e4.next hb5
      clear hb5 hT
      go_wp2
      go_ret
      exact ⟨rfl, e5.bel⟩

end Go.Proofs.YtmmoimemfdbfgaaDoor
