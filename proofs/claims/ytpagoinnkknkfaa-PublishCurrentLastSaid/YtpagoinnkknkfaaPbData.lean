/-
  Publish's values in memory: attributes, names, changes, entries; read only, so they stay under whatever new memory.
-/
import Derived.Test.YtpagoinnkknkfaaSlc
import Derived.Test.YtpagoinnkknkfaaPbPlain
namespace Go.Proofs.Ytpagoinnkknkfaa.Pb
open Go Go.RowKit Go.Proofs.Ytpagoinnkknkfaa.Slc
set_option linter.unusedVariables false
set_option linter.unusedSimpArgs false

def bstr (b : B) : ByteArray := ⟨b.toArray⟩
theorem bstr_size (b : B) : (bstr b).size = b.length := rfl
theorem bstr_inj {a b : B} (h : bstr a = bstr b) : a = b := by
  unfold bstr at h
  have := congrArg (fun x => x.data.toList) h
  simpa using this
theorem bstr_back (x : ByteArray) : bstr x.data.toList = x := by unfold bstr; simp
/-- an attribute's cells -/
def encA (a : Attr) : List Value := [.string (bstr a.ty), .int .i64 a.k, .string (bstr a.val)]
theorem encA_ok : Enc 3 encA := ⟨fun _ => rfl, fun x u hu => by simp [encA] at hu; rcases hu with rfl | rfl | rfl <;> rfl, by omega⟩
/-- a slice's value -/
structure Sl where
  ad : Option Addr
  n : Nat
  c : Nat
def Sl.val (s : Sl) : Value := .slice s.ad s.n s.c
def encV1 (u : Sl) : List Value := [u.val]
theorem encV1_ok : Enc 1 encV1 := ⟨fun _ => rfl, fun x u hu => by simp [encV1] at hu; subst hu; rfl, by omega⟩
/-- a name: a slice of slices of one attribute each -/
def NameAt (w : World) (v : Value) (n : Nm) : Prop :=
  ∃ vs : List Sl, Rd w encV1 v vs ∧ ∃ hl : vs.length = n.length, ∀ i (h : i < n.length), Rd w encA (vs[i]'(by omega)).val [n[i]]
theorem NameAt.below {w w' : World} {v : Value} {n : Nm} (h : NameAt w v n) (hb : Below w.heap.size w w') : NameAt w' v n := by
  obtain ⟨vs, h1, hl, h2⟩ := h
  exact ⟨vs, h1.below hb, hl, fun i hi => (h2 i hi).below hb⟩
/-- a change's cells -/
def encC (c : Ch) : List Value := [.int .i64 c.s, .int .i64 c.t, .int .i64 c.r, .int .i64 c.v]
theorem encC_ok : Enc 4 encC := ⟨fun _ => rfl, fun x u hu => by simp [encC] at hu; rcases hu with rfl | rfl | rfl | rfl <;> rfl, by omega⟩
/-- an entry, and its issuer's slice in memory -/
structure Et where
  e : En
  u : Sl
def encE (x : Et) : List Value := [.int .i64 x.e.s, .int .i64 x.e.t, .int .i64 x.e.r, .int .i64 x.e.v, x.u.val]
theorem encE_ok : Enc 5 encE := ⟨fun _ => rfl, fun x u hu => by simp [encE] at hu; rcases hu with rfl | rfl | rfl | rfl | rfl <;> rfl, by omega⟩
def entV (x : Et) : Value := .agg #[.int .i64 x.e.s, .int .i64 x.e.t, .int .i64 x.e.r, .int .i64 x.e.v, x.u.val]
/-- a name that is short enough -/
def Nm.Ok (n : Nm) : Prop := n.length ≤ 1000 ∧ ∀ a ∈ n, a.val.length ≤ 1000000
def EtAt (w : World) (x : Et) : Prop := NameAt w x.u.val x.e.iss ∧ Nm.Ok x.e.iss
theorem EtAt.below {w w' : World} {x : Et} (h : EtAt w x) (hb : Below w.heap.size w w') : EtAt w' x := ⟨h.1.below hb, h.2⟩
/-- a slice of entries that can be read -/
structure EL (w : World) (v : Value) (l : List Et) : Prop where
  rd : Rd w encE v l
  at_ : ∀ x ∈ l, EtAt w x
theorem EL.below {w w' : World} {v : Value} {l : List Et} (h : EL w v l) (hb : Below w.heap.size w w') : EL w' v l := ⟨h.rd.below hb, fun x hx => (h.at_ x hx).below hb⟩
theorem EL.nil (w : World) : EL w (.slice none 0 0) [] := ⟨Rd.nil w, fun x hx => by cases hx⟩
/-- the entries themselves -/
abbrev ens (l : List Et) : List En := l.map (·.e)
theorem EL.cells {w : World} {ad : Option Addr} {n c : Nat} {l : List Et} (h : EL w (.slice ad n c) l) : n = l.length ∧ ∀ (W : World), Below w.heap.size w W → ∀ k (hk : k < l.length), ∃ b o, ad = some ⟨b, o, none⟩ ∧ b < w.heap.size ∧ W.cell? ⟨b, o + k * 5, none⟩ = some (.int .i64 (l[k]).e.s) ∧ W.cell? ⟨b, o + k * 5 + 1, none⟩ = some (.int .i64 (l[k]).e.t) ∧ W.cell? ⟨b, o + k * 5 + 2, none⟩ = some (.int .i64 (l[k]).e.r) ∧ W.cell? ⟨b, o + k * 5 + 3, none⟩ = some (.int .i64 (l[k]).e.v) ∧ W.cell? ⟨b, o + k * 5 + 4, none⟩ = some (l[k]).u.val := by
  obtain ⟨ad', c', hv, -⟩ := h.rd.form
  simp only [Value.slice.injEq] at hv
  refine ⟨hv.2.1, fun W hW k hk => ?_⟩
  obtain ⟨b, o, c, hv', _, hlt, hc⟩ := h.rd.cells encE_ok (by omega)
  simp only [Value.slice.injEq] at hv'
  have q := hc W (fun k' hk' => hW.block k' (h.rd.lt k' hk')) k hk
  exact ⟨b, o, hv'.1, hlt, q 0 _ (by omega) rfl, q 1 _ (by omega) rfl, q 2 _ (by omega) rfl, q 3 _ (by omega) rfl, q 4 _ (by omega) rfl⟩
def findT (l : List Et) (e : En) : Option Et := l.find? (fun x => about x.e e)
theorem findT_e (l : List Et) (e : En) : (findT l e).map (·.e) = findE (ens l) e := by
  unfold findT findE ens; rw [List.find?_map]; rfl
theorem findT_mem {l : List Et} {e : En} {x : Et} (h : findT l e = some x) : x ∈ l := List.mem_of_find?_eq_some h
theorem findT_some (l : List Et) (e : En) : (findT l e).isSome = (findE (ens l) e).isSome := by rw [← findT_e]; simp
/-- the issuers' values are slices -/
theorem NameAt.one {w : World} {v : Value} {n : Nm} (h : NameAt w v n) : v.oneCell' = true := by
  obtain ⟨vs, h1, -⟩ := h
  rcases h1 with ⟨rfl, -⟩ | ⟨b, o, c, rfl, -⟩ <;> rfl
end Go.Proofs.Ytpagoinnkknkfaa.Pb
