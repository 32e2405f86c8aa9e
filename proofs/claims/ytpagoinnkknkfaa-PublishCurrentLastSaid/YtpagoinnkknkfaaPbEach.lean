/-
  copies.Entries.
-/
import Derived.Test.YtpagoinnkknkfaaPbCopyN
namespace Go.Proofs.Ytpagoinnkknkfaa.Pb
open Go Go.RowKit Go.Proofs.Ytpagoinnkknkfaa.Slc
set_option linter.unusedVariables false
set_option linter.unusedSimpArgs false

/-- an owned entry's five cells are stored to -/
theorem EO.set5 {w : World} {B : Nat} {v : Value} {l : List Et} (h : EO w B v l) (k : Nat) (hk : k < l.length) (x : Et) (hx : EtIn w (fun b => v.ownBlock ≠ some b) x) :
    ∃ g cap, v = .slice (some ⟨g, 0, none⟩) l.length cap ∧ B ≤ g ∧ g < w.heap.size ∧ (∀ i, w.frozen? ⟨g, i, none⟩ = false) ∧
      EO (((((w.setCell ⟨g, k * 5, none⟩ (.int .i64 x.e.s)).setCell ⟨g, k * 5 + 1, none⟩ (.int .i64 x.e.t)).setCell ⟨g, k * 5 + 2, none⟩ (.int .i64 x.e.r)).setCell ⟨g, k * 5 + 3, none⟩ (.int .i64 x.e.v)).setCell ⟨g, k * 5 + 4, none⟩ x.u.val) B v (l.set k x) := by
  have h0 := h.own
  obtain ⟨g, cap, rfl, hB, hg, hf, h1, -⟩ := h0.set1 encE_ok k 0 hk (by omega) (.int .i64 x.e.s) ⟨⟨x.e.s, (l[k]).e.t, (l[k]).e.r, (l[k]).e.v, (l[k]).e.iss⟩, (l[k]).u⟩ rfl
  obtain ⟨g1, c1, hv1, -, -, -, h2, -⟩ := h1.set1 encE_ok k 1 (by simpa using hk) (by omega) (.int .i64 x.e.t) ⟨⟨x.e.s, x.e.t, (l[k]).e.r, (l[k]).e.v, (l[k]).e.iss⟩, (l[k]).u⟩ (by rw [List.getElem_set_self]; rfl)
  simp only [List.length_set, Value.slice.injEq, Option.some.injEq, Addr.mk.injEq] at hv1
  obtain rfl := hv1.1.1
  rw [List.set_set] at h2
  obtain ⟨g2, c2, hv2, -, -, -, h3, -⟩ := h2.set1 encE_ok k 2 (by simpa using hk) (by omega) (.int .i64 x.e.r) ⟨⟨x.e.s, x.e.t, x.e.r, (l[k]).e.v, (l[k]).e.iss⟩, (l[k]).u⟩ (by rw [List.getElem_set_self]; rfl)
  simp only [List.length_set, Value.slice.injEq, Option.some.injEq, Addr.mk.injEq] at hv2
  obtain rfl := hv2.1.1
  rw [List.set_set] at h3
  obtain ⟨g3, c3, hv3, -, -, -, h4, -⟩ := h3.set1 encE_ok k 3 (by simpa using hk) (by omega) (.int .i64 x.e.v) ⟨⟨x.e.s, x.e.t, x.e.r, x.e.v, (l[k]).e.iss⟩, (l[k]).u⟩ (by rw [List.getElem_set_self]; rfl)
  simp only [List.length_set, Value.slice.injEq, Option.some.injEq, Addr.mk.injEq] at hv3
  obtain rfl := hv3.1.1
  rw [List.set_set] at h4
  obtain ⟨g4, c4, hv4, -, -, -, h5, -⟩ := h4.set1 encE_ok k 4 (by simpa using hk) (by omega) x.u.val x (by rw [List.getElem_set_self]; rfl)
  simp only [List.length_set, Value.slice.injEq, Option.some.injEq, Addr.mk.injEq] at hv4
  obtain rfl := hv4.1.1
  rw [List.set_set] at h5
  refine ⟨g, cap, rfl, hB, hg, hf, h5, fun y hy => ?_⟩
  have hy' : EtIn w (fun b => (Value.slice (some ⟨g, 0, none⟩) l.length cap).ownBlock ≠ some b) y := by
    rcases List.mem_or_eq_of_mem_set hy with q | rfl
    · exact h.nm y q
    · exact hx
  refine hy'.keep (by simp) fun b hb _ => ?_
  have hne : b ≠ g := fun e => hb (by rw [e]; rfl)
  iterate 5 rw [heap_setCell_other _ _ _ _ (by exact hne)]
theorem ens_set (l : List Et) (k : Nat) (hk : k < l.length) (x : Et) (h : x.e = (l[k]).e) : ens (l.set k x) = ens l := by
  apply List.ext_getElem?
  intro i
  simp only [ens, List.getElem?_map, List.getElem?_set]
  by_cases e : k = i
  · subst e; simp [hk, h]
  · simp [e]

set_option maxRecDepth 10000 in
set_option maxHeartbeats 4000000 in
theorem each_any (w : World) (v : Value) (l : List Et) (hl : EL w v l) (hn : l.length ≤ 1000000) :
    Calls Try.prog 72 #[v, .func (.func 46) #[] #[]] w fun e w' => ∃ v' l', e = .returned v' ∧ EO w' w.heap.size v' l' ∧ ens l' = ens l ∧ Below w.heap.size w w' := by
  have hclone := cloneE_any w v l hl.rd hn
  have HAT := Bx.mk hl.at_
  clear hl
  go_enter Try.func72, Try.ntmps72
  go_wp2_with fail
  go_at_call 89
  refine hclone.mono ?_
  rintro e w1 ⟨v1, rfl, hown1, hb1⟩
  obtain ⟨a1, c1, rfl, -⟩ := hown1.rd.form
  have HEO := Bx.mk (show EO w1 w.heap.size (.slice a1 l.length c1) l from ⟨hown1, fun x hx => by
    refine EtIn.mono (S := fun k => k < w.heap.size) ((EtIn.of (HAT.out x hx)).keep hb1.size fun k hk _ => hb1.block k hk) fun k _ hk e => ?_
    have := (hown1.lt k e).1; omega⟩)
  have HB1 := Bx.mk hb1
  clear hown1 hb1 hclone
  go_wp2
  go_loopw [11] (fun i wr => ∃ (k : Nat) (xs : List Et), k ≤ l.length ∧ i = .int .i64 k ∧ Bx (xs.length = l.length ∧ ens xs = ens l ∧ EO wr w.heap.size (.slice a1 l.length c1) xs ∧ Below w.heap.size w wr)) (fun i _ => l.length - (intOf i).toNat)
  case atStart => exact ⟨0, l, by omega, rfl, ⟨rfl, rfl, HEO.out, HB1.out⟩⟩
  case round =>
    obtain ⟨k, xs, hk, rfl, hq⟩ := hrel
    by_cases hlt : k < l.length
    · obtain ⟨hxl, hen, heo, hbw⟩ := hq.out
      have hkx : k < xs.length := by omega
      obtain ⟨g, cap, hgv, hgB, hgl, hgf, -⟩ := heo.set5 k hkx xs[k] (heo.nm _ (List.getElem_mem hkx))
      simp only [Value.slice.injEq] at hgv
      obtain ⟨rfl, -, rfl⟩ := hgv
      have k0 := Own.cell encE_ok heo.own k hkx 0 (by omega) _ rfl
      have k1 := Own.cell encE_ok heo.own k hkx 1 (by omega) _ rfl
      have k2 := Own.cell encE_ok heo.own k hkx 2 (by omega) _ rfl
      have k3 := Own.cell encE_ok heo.own k hkx 3 (by omega) _ rfl
      have k4 := Own.cell encE_ok heo.own k hkx 4 (by omega) _ rfl
      rw [Nat.add_zero] at k0
      obtain ⟨z, hz⟩ : ∃ z, z = xs[k] := ⟨_, rfl⟩
      rw [← hz] at k0 k1 k2 k3 k4
      have hBA := Bx.mk (show Below wr.heap.size wr (wr.alloc (encBox z)) from (Below.refl _ _).alloc (Nat.le_refl _) _)
      have hzat : EtAt wr z := by rw [hz]; exact (heo.nm _ (List.getElem_mem hkx)).at_
      have hcall := copyE_any (wr.alloc (encBox z)) z (hzat.below hBA.out)
      have HEO2 := Bx.mk heo
      have HQ := Bx.mk hq.out
      have HZ := Bx.mk hz
      have HZE := Bx.mk (show ∀ u : Sl, entV ⟨z.e, u⟩ = .agg #[.int .i64 z.e.s, .int .i64 z.e.t, .int .i64 z.e.r, .int .i64 z.e.v, u.val] from fun u => rfl)
      have hzv : entV z = .agg #[.int .i64 z.e.s, .int .i64 z.e.t, .int .i64 z.e.r, .int .i64 z.e.v, z.u.val] := rfl
      rw [hzv] at hcall
      unfold encBox at hcall hBA
      have hU1 : ∃ a n c, z.u.val = .slice a n c := ⟨_, _, _, rfl⟩
      have HSZ := Bx.mk (show w.heap.size ≤ wr.heap.size from hbw.size)
      clear hxl hen heo hbw hq hz hzv hzat
      generalize z.u.val = U1 at *
      obtain ⟨ua, un, uc, rfl⟩ := hU1
      have HSV := Bx.mk (⟨rfl, rfl, rfl, rfl⟩ : z.e.s = z.e.s ∧ z.e.t = z.e.t ∧ z.e.r = z.e.r ∧ z.e.v = z.e.v)
      generalize hS : z.e.s = S at k0 k1 k2 k3 k4 hcall hBA HZE
      generalize hT : z.e.t = T at k0 k1 k2 k3 k4 hcall hBA HZE
      generalize hR : z.e.r = R at k0 k1 k2 k3 k4 hcall hBA HZE
      generalize hV : z.e.v = V at k0 k1 k2 k3 k4 hcall hBA HZE
      have HSS := Bx.mk (show z.e.s = S ∧ z.e.t = T ∧ z.e.r = R ∧ z.e.v = V from ⟨hS, hT, hR, hV⟩)
      clear hS hT hR hV HSV
      go_wp2_with fail
      go_at_call 46
      refine hcall.mono ?_
      rintro e w2 ⟨u, rfl, hnm, hb2⟩
      rw [HZE.out]
      have hb2' : Below wr.heap.size wr w2 := hBA.out.trans (hb2.mono (by simp))
      have hsz2 : wr.heap.size < w2.heap.size := by have := hb2.size; simp at this; omega
      have HEO3 := Bx.mk (show ∃ g' cap', Value.slice (some ⟨g, 0, none⟩) l.length c1 = .slice (some ⟨g', 0, none⟩) xs.length cap' ∧ _ ∧ _ ∧ _ ∧ _ from
        (HEO2.out.below hb2').set5 k hkx ⟨z.e, u⟩ ⟨hnm.mono fun b _ hb e => by
          simp only [Value.ownBlock, Option.some.injEq] at e
          have : (wr.alloc (.cells #[.int .i64 S, .int .i64 T, .int .i64 R, .int .i64 V, .slice ua un uc] 44)).heap.size ≤ b := hb
          simp at this; omega, by rw [HZ.out]; exact (HEO2.out.nm _ (List.getElem_mem hkx)).2⟩)
      have j0 := (hb2'.cell (p := ⟨g, k * 5, none⟩) hgl).trans k0
      have j1 := (hb2'.cell (p := ⟨g, k * 5 + 1, none⟩) hgl).trans k1
      have j2 := (hb2'.cell (p := ⟨g, k * 5 + 2, none⟩) hgl).trans k2
      have j3 := (hb2'.cell (p := ⟨g, k * 5 + 3, none⟩) hgl).trans k3
      have j4 := (hb2'.cell (p := ⟨g, k * 5 + 4, none⟩) hgl).trans k4
      have fr : ∀ i, w2.frozen? ⟨g, i, none⟩ = false := fun i => (hb2'.frozen (p := ⟨g, i, none⟩) hgl).trans (hgf i)
      obtain ⟨va, vn, vc⟩ := u
      simp only [Sl.val] at HEO3 ⊢
      have HFIN := Bx.mk (show xs.length = l.length ∧ ens (xs.set k ⟨z.e, ⟨va, vn, vc⟩⟩) = ens l ∧ EO (((((w2.setCell ⟨g, k * 5, none⟩ (.int .i64 S)).setCell ⟨g, k * 5 + 1, none⟩ (.int .i64 T)).setCell ⟨g, k * 5 + 2, none⟩ (.int .i64 R)).setCell ⟨g, k * 5 + 3, none⟩ (.int .i64 V)).setCell ⟨g, k * 5 + 4, none⟩ (.slice va vn vc)) w.heap.size (.slice (some ⟨g, 0, none⟩) l.length c1) (xs.set k ⟨z.e, ⟨va, vn, vc⟩⟩) ∧ Below w.heap.size w (((((w2.setCell ⟨g, k * 5, none⟩ (.int .i64 S)).setCell ⟨g, k * 5 + 1, none⟩ (.int .i64 T)).setCell ⟨g, k * 5 + 2, none⟩ (.int .i64 R)).setCell ⟨g, k * 5 + 3, none⟩ (.int .i64 V)).setCell ⟨g, k * 5 + 4, none⟩ (.slice va vn vc)) from by
        obtain ⟨g', cap', hv', -, -, -, h5⟩ := HEO3.out
        simp only [Value.slice.injEq, Option.some.injEq, Addr.mk.injEq] at hv'
        obtain ⟨⟨hgg, -⟩, -⟩ := hv'
        subst hgg
        simp only [HSS.out.1, HSS.out.2.1, HSS.out.2.2.1, HSS.out.2.2.2] at h5
        refine ⟨HQ.out.1, ?_, h5, ?_⟩
        · rw [ens_set xs k hkx _ (by rw [HZ.out]), HQ.out.2.1]
        · have h0 := HQ.out.2.2.2.trans (hb2'.mono HSZ.out)
          exact ((((h0.setCell (p := ⟨g, k * 5, none⟩) hgB _).setCell (p := ⟨g, k * 5 + 1, none⟩) hgB _).setCell (p := ⟨g, k * 5 + 2, none⟩) hgB _).setCell (p := ⟨g, k * 5 + 3, none⟩) hgB _).setCell (p := ⟨g, k * 5 + 4, none⟩) hgB _)
      have hgl2 : g < w2.heap.size := by omega
      clear HEO3 hnm hb2 hb2' hcall k0 k1 k2 k3 k4 hgf
      go_wp2
      go_roundw
      case rel => exact ⟨k + 1, xs.set k ⟨z.e, ⟨va, vn, vc⟩⟩, by omega, by go_num, ⟨by rw [List.length_set]; exact HFIN.out.1, HFIN.out.2.1, HFIN.out.2.2.1, HFIN.out.2.2.2⟩⟩
      case measure => simp [intOf]; omega
    · obtain rfl : k = l.length := by omega
      have HF := Bx.mk hq.out
      clear hq
      go_wp2
      go_ret
      exact ⟨_, xs, rfl, HF.out.2.2.1, HF.out.2.1, HF.out.2.2.2⟩

theorem entries_any (w : World) (v : Value) (l : List Et) (hl : EL w v l) (hn : l.length ≤ 1000000) :
    Calls Try.prog 62 #[v] w fun e w' => ∃ v' l', e = .returned v' ∧ EO w' w.heap.size v' l' ∧ ens l' = ens l ∧ Below w.heap.size w w' := by
  have hc := each_any w v l hl hn
  go_enter Try.func62, Try.ntmps62
  go_wp2_with fail
  go_at_call 72
  refine hc.mono ?_
  rintro e w1 ⟨v1, l1, rfl, h1, h2, h3⟩
  have H := Bx.mk (And.intro h1 (And.intro h2 h3))
  clear h1 h2 h3 hc
  go_wp2
  go_ret
  exact ⟨_, l1, rfl, H.out.1, H.out.2.1, H.out.2.2⟩
end Go.Proofs.Ytpagoinnkknkfaa.Pb
