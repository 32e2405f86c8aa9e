/-
  append to a slice that the call owns, from whatever source.
-/
import Derived.Test.YtmmoimemfdbfgaaTail
import Derived.Maps.AppendAt
import Derived.Laws.AppendOwnNone
import Derived.OwnWalk
namespace Go.Proofs.Ytmmoimemfdbfgaa
open Go Go.RowKit

/-- a value that is appended: m elements, their cells news -/
inductive SrcV (w : World) (size : Nat) : Value → Nat → List Value → Prop
  | nil : SrcV w size (.slice none 0 0) 0 []
  | ro (ad : Addr) (m c : Nat) (news : List Value) (hl : news.length = m * size) (hnews : ∀ (j : Nat) u, news[j]? = some u → w.cell? (ad.add j) = some u) (h1 : ∀ u ∈ news, u.oneCell' = true) : SrcV w size (.slice (some ad) m c) m news
theorem SrcV.cells {w w' : World} {size : Nat} {v : Value} {m : Nat} {news : List Value} (h : SrcV w size v m news) (hc : ∀ a u, w.cell? a = some u → w'.cell? a = some u) : SrcV w' size v m news := by
  cases h with
  | nil => exact .nil
  | ro ad m c news hl hnews h1 => exact .ro ad m c news hl (fun j u hj => hc _ _ (hnews j u hj)) h1
theorem SrcV.below {w w' : World} {size : Nat} {v : Value} {m : Nat} {news : List Value} (h : SrcV w size v m news) (hb : Below w.heap.size w w') : SrcV w' size v m news :=
  h.cells fun a _ hu => (hb.cell (p := a) (World.block_lt_of_cell? w a hu)).trans hu

/-- what is known behind an append -/
structure Apd (w : World) (base : Nat) (e : TypeId) (size : Nat) (v : Value) (n m : Nat) (xs news : List Value) (v' : Value) (w' : World) : Prop where
  own : w'.ownsRow base e size v' (n + m) (xs ++ news)
  grown : w.grownBy w' v.ownBlock
  nil : v' = .slice none 0 0 ↔ v = .slice none 0 0 ∧ m = 0
  blk : v'.ownBlock = v.ownBlock ∨ v'.ownBlock = some w.heap.size

theorem wpList_append_any {P : Program} {w : World} {ops : Array Oper} {rest : List Oper} {o : Oper} {a : Act} {Q : Exit → Act → World → Prop} (hgd : o.guard = none) (s x : Operand) (t : TypeId)
    (ho : o.op = .call { callee := .builtin .append, args := #[s, x], argTypes := #[t, t] })
    (base : Nat) (e : TypeId) (i : TypeInfo) (z : Value) (size bytes : Nat) (ht : P.underlying t = some (.slice e)) (hi : P.info? e = some i) (hz : i.zero = some z)
    (hsize : i.size = size) (hby : i.bytes = bytes) (hzs : z.cells.size = size) (hsz : 0 < size)
    (v : Value) (n : Nat) (xs : List Value) (hs : a.eval s = v) (hown : w.ownsRow base e size v n xs)
    (xv : Value) (m : Nat) (news : List Value) (hx : a.eval x = xv) (hsrc : SrcV w size xv m news)
    (h63 : n + m ≤ maxLen) (hbytes : (n + m) * bytes ≤ 140737488355328) (hbase : base ≤ w.heap.size)
    (h : ∀ v' w', Apd w base e size v n m xs news v' w' → wpList P ops Q rest (a.put o.dst v') w') : wpList P ops Q (o :: rest) a w := by
  cases hsrc with
  | nil =>
    refine wpList_append_own_none hgd s x t ho base e i size ht hi v n xs hs hown hx (h v w ⟨by simpa using hown, ⟨rfl, rfl, rfl, Nat.le_refl _, fun _ _ _ => rfl⟩, by simp, .inl rfl⟩)
  | ro ad m c news hl hnews h1 =>
    refine wpList_plain hgd fun K hK => ?_
    obtain ⟨v', w', hr, h2, h3, h4, h5⟩ := run_append_own_at (P := P) w base t o.type e i z size bytes ht hi hz hsize hby hzs hsz v n xs hown ad m c news hl hnews h1 h63 hbytes hbase
    unfold Oper.wp execOp
    simp only [ho, resolve, invoke, builtin, Sem.run_bind, Sem.run_pure, Result.andThen_ok, List.map_toArray, List.map_cons, List.map_nil, hs, hx, hr]
    exact hK _ _ (h v' w' ⟨h2, h3, h4, h5⟩)

end Go.Proofs.Ytmmoimemfdbfgaa
