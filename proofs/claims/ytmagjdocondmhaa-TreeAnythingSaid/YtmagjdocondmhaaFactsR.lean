/-
  A region that draws its order, whatever its operations turn: every operation by itself, out of the facts of those it waits for; the facts stay true under a relation R between worlds, which every operation keeps to, and I holds of every world on the way.
-/
import Derived.Test.YtmagjdocondmhaaFactsH
namespace Go.Proofs.Ytmagjdocondmhaa
open Go Go.RowKit
section
variable {P : Program}
theorem wp_region_rel {id : Nat} {Q : Exit → Act → World → Prop} {a : Act} {w : World} {l : List Oper} (n : Nat) (R : World → World → Prop) (I : World → Prop) (Φ : Nat → Value → World → Prop) (hm : P.follows .mixedOrders = true) (hB : factsB l.toArray n = true)
    (hsz : (l.take n).all (fun o => match o.dst with | some d => decide (d < a.tmps.size) | none => true) = true)
    (hR : ∀ w w', Below w.heap.size w w' → R w w') (hst : ∀ i v w w', Φ i v w → R w w' → Φ i v w') (hI0 : I { w with drawn := w.drawn + 1 })
    (hstep : ∀ i o, i < n → l[i]? = some o → ∀ (x : Nat → Value) (w' : World), I w' → NeedsB .any (fun j => Φ j (x j) w') (fun _ => none) i o.after.toList →
      wpList P l.toArray (Fin1 (Said o.dst a.defers fun v w'' => Φ i v w'' ∧ R w' w'' ∧ I w'')) [o] (putFrom 0 (l.take n) a x) w')
    (hend : ∀ (x : Nat → Value) (w' : World), I w' → (∀ j, j < n → Φ j (x j) w') → wpList P l.toArray Q (l.drop n) (putFrom 0 (l.take n) a x) w') : (Code.region id l.toArray true).wp P Q a w := by
  refine wp_region_factsH n (fun _ => none) (fun _ => true) (fun j x w => Φ j (x j) w) (fun _ w' => I w') (fun _ w1 w2 => R w1 w2 ∧ I w2) hI0 hm hB hsz ?_ (fun i x w w' h hb => hst i (x i) w w' h (hR _ _ hb)) ?_ ?_ ?_ ?_ ?_
  · intro j oj x y w1 _ _ hxy _ h
    show Φ j (y j) w1
    rw [← hxy]; exact h
  · intro d i w1 w2 _ hb; cases hb
  · intro d i oi w1 w2 _ _ _ _ _ hg; exact hg.2
  · intro b ob j x d w1 w2 _ _ _ _ _ _ _ _ _ hφ hg
    exact hst _ _ _ _ hφ hg.1
  · intro i o hi ho d x w1 _ _ _ hI hN
    have h := hstep i o hi ho x w1 hI hN
    simp only [if_true, upd]
    exact h
  · intro d x w1 _ hI hf
    exact hend x w1 hI fun j hj => hf j hj fun c hc => by cases hc
/-- whether the j-th operation waits for the m-th, through others -/
def waitsB (l : List Oper) (m : Nat) : Nat → Nat → Bool
  | 0, j => j == m
  | f + 1, j => j == m || (match l[j]? with | some o => o.after.toList.any (fun e => Region.binds .any e && waitsB l m f e.on) | none => false)
theorem waits_done {l : List Oper} {d : Nat → Bool} {m : Nat} (hcl : Closed l d) : ∀ f j, waitsB l m f j = true → d j = true → d m = true
  | 0, j, h, hd => by
    have : j = m := by simpa [waitsB] using h
    rw [← this]; exact hd
  | f + 1, j, h, hd => by
    unfold waitsB at h
    rw [Bool.or_eq_true] at h
    rcases h with h | h
    · have : j = m := by simpa using h
      rw [← this]; exact hd
    · split at h
      · rename_i o ho
        rw [List.any_eq_true] at h
        obtain ⟨e, he, h⟩ := h
        rw [Bool.and_eq_true] at h
        exact waits_done hcl f e.on h.2 (hcl j o ho hd e (by simpa using he) h.1)
      · cases h
end
end Go.Proofs.Ytmagjdocondmhaa
