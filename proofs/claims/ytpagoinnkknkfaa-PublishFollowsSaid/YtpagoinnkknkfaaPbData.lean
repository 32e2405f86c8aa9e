/-
  Publish in plain Lean: folding, names, changes, Follow; sorting by insertion.
-/
/-
  Publish's values in memory: attributes, names, changes, entries; read only, so they stay under whatever new memory.
-/
import Derived.ProofKit
import Derived.Test.YtpagoinnkknkfaaSlc
namespace Go.Proofs.Ytpagoinnkknkfaa.Pb
set_option linter.unusedVariables false
set_option linter.unusedSimpArgs false

abbrev B := List UInt8
def low (c : UInt8) : UInt8 := if 65 ≤ c ∧ c ≤ 90 then c + 32 else c
/-- the program's Fold, and the reference's -/
def foldP : B → B → Bool → B
  | [], out, _ => out
  | c :: s, out, gap => if c = 32 then foldP s out (decide (0 < out.length)) else foldP s ((if gap then out ++ [32] else out) ++ [low c]) false
def foldR : B → B → B
  | [], out => out
  | c :: s, out => if low c ≠ 32 ∨ (0 < out.length ∧ out.getLast? ≠ some 32) then foldR s (out ++ [low c]) else foldR s out
def strip (b : B) : B := if b.getLast? = some 32 then b.dropLast else b
theorem low_blank (c : UInt8) : low c = 32 ↔ c = 32 := by
  unfold low
  split
  · rename_i h
    constructor
    · intro e
      have e2 : (c + 32).toNat = 32 := by rw [e]; rfl
      have h1 := UInt8.le_iff_toNat_le.1 h.1
      have h2 := UInt8.le_iff_toNat_le.1 h.2
      rw [UInt8.toNat_add] at e2
      simp at h1 h2 e2
      omega
    · intro e; subst e; exact absurd h.1 (by decide)
  · exact Iff.rfl
theorem strip_snoc (b : B) (c : UInt8) : strip (b ++ [c]) = if c = 32 then b else b ++ [c] := by
  unfold strip
  simp only [List.getLast?_append, List.getLast?_singleton, Option.some_or, Option.some.injEq, List.dropLast_concat]
theorem fold_same : ∀ (s out : B) (gap : Bool), out.getLast? ≠ some 32 → (gap = true → out ≠ []) → strip (foldR s (if gap then out ++ [32] else out)) = foldP s out gap
  | [], out, gap, h1, h2 => by
    rw [foldR, foldP]
    cases gap with
    | true => rw [if_pos rfl, strip_snoc, if_pos rfl]
    | false => rw [if_neg (by simp)]; unfold strip; rw [if_neg h1]
  | c :: s, out, gap, h1, h2 => by
    rw [foldR, foldP]
    by_cases hc : c = 32
    · have hl : low c = 32 := (low_blank c).2 hc
      rw [if_pos hc]
      cases gap with
      | true =>
        have hne := h2 rfl
        have hp : decide (0 < out.length) = true := by rw [decide_eq_true_eq]; exact List.length_pos_iff.2 hne
        simp only [reduceIte]
        rw [hp, if_neg (by simp [hl])]
        have := fold_same s out true h1 h2
        rwa [if_pos rfl] at this
      | false =>
        simp only [Bool.false_eq_true, reduceIte]
        by_cases he : out = []
        · subst he
          rw [if_neg (by simp [hl])]
          have := fold_same s [] false h1 (fun h => by cases h)
          rw [if_neg (by simp)] at this
          exact this
        · have hp : decide (0 < out.length) = true := by rw [decide_eq_true_eq]; exact List.length_pos_iff.2 he
          rw [hp, if_pos (.inr ⟨List.length_pos_iff.2 he, h1⟩), hl]
          have := fold_same s out true h1 (fun _ => he)
          rwa [if_pos rfl] at this
    · have hl : low c ≠ 32 := fun h => hc ((low_blank c).1 h)
      rw [if_neg hc, if_pos (.inl hl)]
      have := fold_same s ((if gap then out ++ [32] else out) ++ [low c]) false (by simp [hl]) (fun h => by cases h)
      rw [if_neg (by simp)] at this
      exact this
theorem fold_eq (s : B) : strip (foldR s []) = foldP s [] false := by
  have := fold_same s [] false (by simp) (fun h => by cases h)
  rwa [if_neg (by simp)] at this

/-- a change -/
structure Ch where
  s : Int
  t : Int
  r : Int
  v : Int
def lastOf (l : List Ch) (x : Int) : Option Ch := l.reverse.find? (fun c => c.s == x)
def wasR (l : List Ch) (x : Int) : Int := l.foldl (fun w c => if c.s = x then c.r else w) 8
theorem was_find (x : Int) : ∀ l : List Ch, (l.foldr (fun c w => if c.s = x then c.r else w) 8) = ((l.find? (fun c => c.s == x)).map (·.r)).getD 8
  | [] => rfl
  | c :: l => by
    rw [List.foldr_cons, List.find?_cons]
    by_cases h : c.s = x
    · rw [if_pos h, beq_iff_eq.2 h]; rfl
    · rw [if_neg h, beq_eq_false_iff_ne.2 h]; exact was_find x l
theorem was_eq (l : List Ch) (x : Int) : wasR l x = ((lastOf l x).map (·.r)).getD 8 := by
  unfold wasR lastOf
  rw [← was_find, List.foldr_reverse]
def permitted (a b : Int) : Bool := if a = 6 then decide (b ≠ 6) else if a = 8 then decide (b ≠ 8) else false
/-- what both Follow ask first, in their order: the error, or 0 -/
def followH (l : List Ch) (c : Ch) : Int :=
  if c.s < 1 ∨ 4611686018427387904 < c.s then 21
  else if c.r < 0 ∨ c.r = 7 ∨ 10 < c.r then 1
  else if c.t < 0 ∨ 254033452799 < c.t ∨ (∃ x, l.getLast? = some x ∧ c.t < x.t) then 12
  else if c.v < -1 ∨ c.t < c.v ∨ (c.r = 8 ∧ c.v ≠ -1) then 12
  else 0
def stateP (l : List Ch) (c : Ch) : Bool := match lastOf l c.s with | none => !decide (c.r = 8) | some x => permitted x.r c.r
def stateR (l : List Ch) (c : Ch) : Bool := !((decide (wasR l c.s ≠ 6) && decide (wasR l c.s ≠ 8)) || (decide (wasR l c.s = 6) && decide (c.r = 6)) || (decide (wasR l c.s = 8) && decide (c.r = 8)))
theorem state_eq (l : List Ch) (c : Ch) : stateR l c = stateP l c := by
  unfold stateR stateP
  rw [was_eq]
  cases lastOf l c.s with
  | none => simp
  | some x =>
    simp only [Option.map_some, Option.getD_some, permitted]
    by_cases h6 : x.r = 6
    · simp [h6]
    · by_cases h8 : x.r = 8
      · simp [h8]
      · simp [h6, h8]

/-- an attribute; a name has one in each of its parts -/
structure Attr where
  ty : B
  k : Int
  val : B
abbrev Nm := List Attr
def attrK (a : Attr) : B × B := (a.ty, foldP a.val [] false)
/-- an entry -/
structure En where
  s : Int
  t : Int
  r : Int
  v : Int
  iss : Nm
def keyE (e : En) : Int × List (B × B) := (e.s, e.iss.map attrK)
def about (a b : En) : Bool := decide (keyE a = keyE b)
theorem about_refl (a : En) : about a a = true := by simp [about]
theorem about_symm {a b : En} (h : about a b = true) : about b a = true := by simp [about] at h ⊢; exact h.symm
theorem about_trans {a b c : En} (h : about a b = true) (h' : about b c = true) : about a c = true := by simp [about] at h h' ⊢; exact h.trans h'
def findE (l : List En) (e : En) : Option En := l.find? (fun x => about x e)
/-- those that no entry ahead of them is about -/
def firstA : List En → List En → List En
  | _, [] => []
  | pre, e :: l => if (findE pre e).isSome then firstA (pre ++ [e]) l else e :: firstA (pre ++ [e]) l
def firstE (l : List En) : List En := firstA [] l
theorem find_none {l : List En} {e : En} : findE l e = none ↔ ∀ x ∈ l, about x e = false := by
  unfold findE; rw [List.find?_eq_none]; simp
theorem find_firstA (e : En) : ∀ (l pre : List En), findE pre e = none → findE (firstA pre l) e = findE l e
  | [], pre, h => rfl
  | a :: l, pre, h => by
    rw [firstA]
    have hn := find_none.1 h
    by_cases hs : (findE pre a).isSome
    · rw [if_pos hs]
      have hae : about a e = false := by
        cases hq : about a e with
        | false => rfl
        | true =>
          unfold findE at hs
          rw [List.find?_isSome] at hs
          obtain ⟨x, hx, hxa⟩ := hs
          have := about_trans hxa hq
          rw [hn x hx] at this; cases this
      have h2 : findE (pre ++ [a]) e = none := find_none.2 fun x hx => by
        rw [List.mem_append, List.mem_singleton] at hx
        rcases hx with hx | rfl
        · exact hn x hx
        · exact hae
      rw [find_firstA e l _ h2]
      unfold findE
      rw [List.find?_cons, hae]
    · rw [if_neg hs]
      unfold findE
      rw [List.find?_cons, List.find?_cons]
      cases hq : about a e with
      | true => rfl
      | false =>
        have h2 : findE (pre ++ [a]) e = none := find_none.2 fun x hx => by
          rw [List.mem_append, List.mem_singleton] at hx
          rcases hx with hx | rfl
          · exact hn x hx
          · exact hq
        exact find_firstA e l _ h2
theorem find_first (l : List En) (e : En) : findE (firstE l) e = findE l e := find_firstA e l [] rfl
/-- the reference's sort: by insertion from the right -/
def insR (out : List En) (e : En) : List En := (out.reverse.dropWhile (fun x => decide (e.s < x.s))).reverse ++ e :: (out.reverse.takeWhile (fun x => decide (e.s < x.s))).reverse
def sortE (l : List En) : List En := l.foldl insR []
def otherE (o e : En) : Bool := decide (o.t ≠ e.t) || decide (o.r ≠ e.r) || decide (o.v ≠ e.v)
def chg (old : List En) (e : En) : Bool := match findE old e with | none => true | some o => otherE o e
def gone (t : Int) (e : En) : En := ⟨e.s, t, 8, -1, e.iss⟩
def diffE (old now : List En) (t : Int) : List En := sortE ((firstE now).filter (chg old) ++ ((firstE old).filter (fun e => (findE now e).isNone)).map (gone t))
theorem chg_first (old : List En) (e : En) : chg (firstE old) e = chg old e := by unfold chg; rw [find_first]
def dupE (l : List En) : Bool := decide ((firstE l).length < l.length)
def combE (base delta : List En) : List En × Int :=
  if dupE base || dupE delta then ([], 10) else if base.any (fun e => decide (e.r = 8)) then ([], 7)
  else (sortE (base.filter (fun e => (findE delta e).isNone) ++ delta.filter (fun e => decide (e.r ≠ 8))), 0)
def mergeE (l : List En) : List En × Int := if dupE l then ([], 10) else (sortE l, 0)
theorem insR_perm (out : List En) (e : En) : (insR out e).Perm (e :: out) := by
  unfold insR
  refine List.perm_middle.trans (List.Perm.cons _ ?_)
  rw [← List.reverse_append, List.takeWhile_append_dropWhile, List.reverse_reverse]
theorem sort_perm (l : List En) : (sortE l).Perm l := by
  have h : ∀ (l out : List En), (l.foldl insR out).Perm (out ++ l) := by
    intro l
    induction l with
    | nil => intro out; simp
    | cons e l ih =>
      intro out
      rw [List.foldl_cons]
      refine (ih _).trans ?_
      refine (List.Perm.append_right l (insR_perm out e)).trans ?_
      rw [List.cons_append]
      exact List.perm_middle.symm
  have := h l []
  rw [List.nil_append] at this
  exact this
theorem firstA_le : ∀ (l pre : List En), (firstA pre l).length ≤ l.length
  | [], _ => Nat.le_refl _
  | a :: l, pre => by
    rw [firstA]; split
    · have := firstA_le l (pre ++ [a]); simp; omega
    · have := firstA_le l (pre ++ [a]); simp; omega
theorem firstA_full : ∀ (l pre : List En), (firstA pre l).length = l.length ↔ (l.map keyE).Nodup ∧ ∀ x ∈ l, findE pre x = none
  | [], _ => by simp [firstA]
  | a :: l, pre => by
    rw [firstA]
    by_cases hs : (findE pre a).isSome
    · rw [if_pos hs]
      have := firstA_le l (pre ++ [a])
      constructor
      · intro h; simp at h; omega
      · rintro ⟨-, h⟩
        rw [h a (by simp)] at hs; cases hs
    · rw [if_neg hs, List.length_cons, List.length_cons, Nat.add_right_cancel_iff, firstA_full l (pre ++ [a]), List.map_cons, List.nodup_cons]
      have hn : findE pre a = none := by simpa using hs
      constructor
      · rintro ⟨h1, h2⟩
        refine ⟨⟨fun hm => ?_, h1⟩, fun x hx => ?_⟩
        · rw [List.mem_map] at hm
          obtain ⟨x, hx, he⟩ := hm
          have := find_none.1 (h2 x hx) a (by simp)
          simp [about] at this
          exact this he.symm
        · rcases List.mem_cons.1 hx with rfl | hx
          · exact hn
          · exact find_none.2 fun y hy => find_none.1 (h2 x hx) y (by simp [hy])
      · rintro ⟨⟨h1, h2⟩, h3⟩
        refine ⟨h2, fun x hx => find_none.2 fun y hy => ?_⟩
        rw [List.mem_append, List.mem_singleton] at hy
        rcases hy with hy | rfl
        · exact find_none.1 (h3 x (by simp [hx])) y hy
        · cases hq : about y x with
          | false => rfl
          | true =>
            simp [about] at hq
            exact absurd (List.mem_map.2 ⟨x, hx, hq.symm⟩) h1
theorem dup_iff (l : List En) : dupE l = false ↔ (l.map keyE).Nodup := by
  unfold dupE
  have h1 := firstA_le l []
  have h2 := firstA_full l []
  rw [decide_eq_false_iff_not]
  unfold firstE
  constructor
  · intro h
    exact (h2.1 (by omega)).1
  · intro h
    have := h2.2 ⟨h, fun x _ => rfl⟩
    omega
/-- whether something occurs twice does not hang on the order -/
theorem dup_perm {l l' : List En} (h : l.Perm l') : dupE l = dupE l' := by
  have := (h.map keyE).nodup_iff
  cases h1 : dupE l with
  | false => rw [eq_comm, dup_iff, ← this, ← dup_iff]; exact h1
  | true =>
    cases h2 : dupE l' with
    | true => rfl
    | false => rw [dup_iff, ← this, ← dup_iff, h1] at h2; cases h2
theorem merge_sorted (l : List En) : dupE (sortE l) = dupE l := dup_perm (sort_perm l)
/-- the reference's way to ask it -/
def dupR (l : List En) : Bool := (List.range l.length).any fun i => match l[i]? with | some e => decide (l.findIdx (fun x => about x e) ≠ i) | none => false
theorem dupR_eq (l : List En) : dupR l = dupE l := by
  suffices key : dupR l = false ↔ dupE l = false by
    cases h1 : dupR l with
    | false => rw [key.1 h1]
    | true =>
      cases h2 : dupE l with
      | true => rfl
      | false => rw [key.2 h2] at h1; cases h1
  rw [dup_iff]
  unfold dupR
  rw [List.any_eq_false]
  constructor
  · intro h
    rw [List.nodup_iff_pairwise_ne, List.pairwise_iff_getElem]
    intro i j hi hj hij he
    simp only [List.length_map] at hi hj
    simp only [List.getElem_map] at he
    have h1 := h j (List.mem_range.2 hj)
    rw [List.getElem?_eq_getElem hj] at h1
    simp only [ne_eq, decide_not, Bool.not_eq_true, Bool.not_eq_false', decide_eq_true_eq] at h1
    have h2 : l.findIdx (fun x => about x l[j]) ≤ i := by
      apply Nat.le_of_not_lt; intro hlt
      have := List.not_of_lt_findIdx hlt
      simp [about, he] at this
    omega
  · intro h i hi
    rw [List.mem_range] at hi
    rw [List.getElem?_eq_getElem hi]
    simp only [ne_eq, decide_not, Bool.not_eq_true, Bool.not_eq_false', decide_eq_true_eq]
    rw [List.nodup_iff_pairwise_ne, List.pairwise_iff_getElem] at h
    rw [List.findIdx_eq hi]
    refine ⟨by simp [about], fun j hj => ?_⟩
    have := h j i (by simpa using Nat.lt_trans hj hi) (by simpa using hi) hj
    simp only [List.getElem_map] at this
    simp [about, this]
end Go.Proofs.Ytpagoinnkknkfaa.Pb

namespace Go.Proofs.Ytpagoinnkknkfaa.Pb
open Go Go.RowKit Go.Proofs.Ytpagoinnkknkfaa.Slc
set_option linter.unusedVariables false
set_option linter.unusedSimpArgs false

def bstr (b : B) : ByteArray := ⟨b.toArray⟩
theorem bstr_size (b : B) : (bstr b).size = b.length := rfl
theorem bstr_inj {a b : B} (h : bstr a = bstr b) : a = b := by
  unfold bstr at h
  have := congrArg (fun x => x.data.toList) h
  simpa using this
theorem bstr_back (x : ByteArray) : bstr x.data.toList = x := by unfold bstr; simp
/-- an attribute's cells -/
def encA (a : Attr) : List Value := [.string (bstr a.ty), .int .i64 a.k, .string (bstr a.val)]
theorem encA_ok : Enc 3 encA := ⟨fun _ => rfl, fun x u hu => by simp [encA] at hu; rcases hu with rfl | rfl | rfl <;> rfl, by omega⟩
/-- a slice's value -/
structure Sl where
  ad : Option Addr
  n : Nat
  c : Nat
def Sl.val (s : Sl) : Value := .slice s.ad s.n s.c
def encV1 (u : Sl) : List Value := [u.val]
theorem encV1_ok : Enc 1 encV1 := ⟨fun _ => rfl, fun x u hu => by simp [encV1] at hu; subst hu; rfl, by omega⟩
/-- a name: a slice of slices of one attribute each -/
def NameAt (w : World) (v : Value) (n : Nm) : Prop :=
  ∃ vs : List Sl, Rd w encV1 v vs ∧ ∃ hl : vs.length = n.length, ∀ i (h : i < n.length), Rd w encA (vs[i]'(by omega)).val [n[i]]
theorem NameAt.below {w w' : World} {v : Value} {n : Nm} (h : NameAt w v n) (hb : Below w.heap.size w w') : NameAt w' v n := by
  obtain ⟨vs, h1, hl, h2⟩ := h
  exact ⟨vs, h1.below hb, hl, fun i hi => (h2 i hi).below hb⟩
/-- a change's cells -/
def encC (c : Ch) : List Value := [.int .i64 c.s, .int .i64 c.t, .int .i64 c.r, .int .i64 c.v]
theorem encC_ok : Enc 4 encC := ⟨fun _ => rfl, fun x u hu => by simp [encC] at hu; rcases hu with rfl | rfl | rfl | rfl <;> rfl, by omega⟩
/-- an entry, and its issuer's slice in memory -/
structure Et where
  e : En
  u : Sl
def encE (x : Et) : List Value := [.int .i64 x.e.s, .int .i64 x.e.t, .int .i64 x.e.r, .int .i64 x.e.v, x.u.val]
theorem encE_ok : Enc 5 encE := ⟨fun _ => rfl, fun x u hu => by simp [encE] at hu; rcases hu with rfl | rfl | rfl | rfl | rfl <;> rfl, by omega⟩
def entV (x : Et) : Value := .agg #[.int .i64 x.e.s, .int .i64 x.e.t, .int .i64 x.e.r, .int .i64 x.e.v, x.u.val]
/-- a name that is short enough -/
def Nm.Ok (n : Nm) : Prop := n.length ≤ 1000 ∧ ∀ a ∈ n, a.val.length ≤ 1000000
def EtAt (w : World) (x : Et) : Prop := NameAt w x.u.val x.e.iss ∧ Nm.Ok x.e.iss
theorem EtAt.below {w w' : World} {x : Et} (h : EtAt w x) (hb : Below w.heap.size w w') : EtAt w' x := ⟨h.1.below hb, h.2⟩
/-- a slice of entries that can be read -/
structure EL (w : World) (v : Value) (l : List Et) : Prop where
  rd : Rd w encE v l
  at_ : ∀ x ∈ l, EtAt w x
theorem EL.below {w w' : World} {v : Value} {l : List Et} (h : EL w v l) (hb : Below w.heap.size w w') : EL w' v l := ⟨h.rd.below hb, fun x hx => (h.at_ x hx).below hb⟩
theorem EL.nil (w : World) : EL w (.slice none 0 0) [] := ⟨Rd.nil w, fun x hx => by cases hx⟩
/-- the entries themselves -/
abbrev ens (l : List Et) : List En := l.map (·.e)
theorem EL.cells {w : World} {ad : Option Addr} {n c : Nat} {l : List Et} (h : EL w (.slice ad n c) l) : n = l.length ∧ ∀ (W : World), Below w.heap.size w W → ∀ k (hk : k < l.length), ∃ b o, ad = some ⟨b, o, none⟩ ∧ b < w.heap.size ∧ W.cell? ⟨b, o + k * 5, none⟩ = some (.int .i64 (l[k]).e.s) ∧ W.cell? ⟨b, o + k * 5 + 1, none⟩ = some (.int .i64 (l[k]).e.t) ∧ W.cell? ⟨b, o + k * 5 + 2, none⟩ = some (.int .i64 (l[k]).e.r) ∧ W.cell? ⟨b, o + k * 5 + 3, none⟩ = some (.int .i64 (l[k]).e.v) ∧ W.cell? ⟨b, o + k * 5 + 4, none⟩ = some (l[k]).u.val := by
  obtain ⟨ad', c', hv, -⟩ := h.rd.form
  simp only [Value.slice.injEq] at hv
  refine ⟨hv.2.1, fun W hW k hk => ?_⟩
  obtain ⟨b, o, c, hv', _, hlt, hc⟩ := h.rd.cells encE_ok (by omega)
  simp only [Value.slice.injEq] at hv'
  have q := hc W (fun k' hk' => hW.block k' (h.rd.lt k' hk')) k hk
  exact ⟨b, o, hv'.1, hlt, q 0 _ (by omega) rfl, q 1 _ (by omega) rfl, q 2 _ (by omega) rfl, q 3 _ (by omega) rfl, q 4 _ (by omega) rfl⟩
def findT (l : List Et) (e : En) : Option Et := l.find? (fun x => about x.e e)
theorem findT_e (l : List Et) (e : En) : (findT l e).map (·.e) = findE (ens l) e := by
  unfold findT findE ens; rw [List.find?_map]; rfl
theorem findT_mem {l : List Et} {e : En} {x : Et} (h : findT l e = some x) : x ∈ l := List.mem_of_find?_eq_some h
theorem findT_some (l : List Et) (e : En) : (findT l e).isSome = (findE (ens l) e).isSome := by rw [← findT_e]; simp
/-- the issuers' values are slices -/
theorem NameAt.one {w : World} {v : Value} {n : Nm} (h : NameAt w v n) : v.oneCell' = true := by
  obtain ⟨vs, h1, -⟩ := h
  rcases h1 with ⟨rfl, -⟩ | ⟨b, o, c, rfl, -⟩ <;> rfl
end Go.Proofs.Ytpagoinnkknkfaa.Pb
