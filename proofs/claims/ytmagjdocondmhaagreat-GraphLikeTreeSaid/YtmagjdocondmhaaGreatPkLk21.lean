/- packed -/
import Derived.Test.YtmagjdocondmhaaGreatPkLk20
set_option linter.unusedVariables false
set_option linter.unusedSimpArgs false
set_option maxRecDepth 100000
set_option maxHeartbeats 64000000
namespace Go.Proofs.YtmagjdocondmhaaGreat.Tr.Gr
open Go Go.RowKit Slc St Mp Tr Rg
section
variable {t : List Nd} {g : List (List Vx)} {D : Nat}
theorem isX_iff {n : Nd} : isX ((D + 1 : Nat) : Int) n = true ↔ n.pol = anyP /\ n.d = ((D + 1 : Nat) : Int) := by
 unfold isX spec;rw [Bool.and_eq_true, Bool.and_eq_true, decide_eq_true_eq, decide_eq_true_eq, decide_eq_true_eq];exact ⟨fun h => h.1, fun h => ⟨h, by omega⟩⟩
theorem lk_resX (V : VT t ((D + 1 : Nat) : Int)) (hR : RT t (fun _ => True) g (D + 1)) (hg : gvalidB g = true) (ps : List B) (hps : ps ≠ [] /\ anyP ∉ ps) (hln : ∀ l ∈ g, l.length <= 100000)
  (hX : (t.any (isX ((D + 1 : Nat) : Int))) = true) (hl : (keepP t (resM t ((D + 1 : Nat) : Int) ps)).length + (resMore t (keepP t (resM t ((D + 1 : Nat) : Int) ps)) ((D + 1 : Nat) : Int) ps).length <= 2048)
  (hst : 0 <= fndP (wanG ps g (g.length - 1))[D + 1]! anyP) (RW : RT t (fun i => (dnM t (rresC t ps false) t.length)[i]! = true) (wanG ps g (g.length - 1)) (D + 1)) (PW : PV (wanG ps g (g.length - 1)))
  (hsub : ∀ k p, lkV (wanG ps g (g.length - 1)) k p -> lkV g k p) :
  RT (sortT (keepP t (resM t ((D + 1 : Nat) : Int) ps) ++ resMore t (keepP t (resM t ((D + 1 : Nat) : Int) ps)) ((D + 1 : Nat) : Int) ps)) (fun _ => True) (gresG g ps) (D + 1) /\ PV (gresG g ps) := by
 have hgl := hR.len;have hPG := gvalid_pg hg hln;have hO := (valid_pv hg).ord;have hVO := (res_vs V ps hps).1;have hmk := res_marks V ps;have hthas := fun {s : B} (hs : s ∈ ps) (ha : s ≠ anyP) => there_has hPG hO hs ha
 have hgr : gresG g ps = (wanG ps g (g.length - 1)).set (D + 1) (resL (hasG ps g (g.length - 1)) (fndP (wanG ps g (g.length - 1))[D]! anyP) (delL (wanG ps g (g.length - 1))[D + 1]! (fndP (wanG ps g (g.length - 1))[D + 1]! anyP).toNat) (setB ps)) := by
  unfold gresG
  rw [if_neg (by
   rintro (h | h | h)
   ·omega
   ·exact hps.1 (List.length_eq_zero_iff.1 h)
   ·exact hps.2 h), if_neg (by
   rintro (h | h)
   ·omega
   ·rw [show g.length - 1 = D + 1 by omega] at h hst; omega)]
  rw [show g.length - 2 = D by omega, show g.length - 1 = D + 1 by omega]
 rw [hgr];have hWl : (wanG ps g (g.length - 1)).length = D + 2 := by rw [wanG_len]; exact hgl
 rw [resL_skip];generalize hhas : hasG ps g (g.length - 1) = has at *;generalize hW : wanG ps g (g.length - 1) = W at *;obtain ⟨ab, hab⟩ : ∃ ab, ab = fndP W[D]! anyP := ⟨_, rfl⟩
 obtain ⟨dl, hdl⟩ : ∃ dl, dl = delL W[D + 1]! (fndP W[D + 1]! anyP).toNat := ⟨_, rfl⟩
 obtain ⟨ks, hks⟩ : ∃ ks, ks = (setB ps).filter fun p => !decide (p ∈ has) := ⟨_, rfl⟩
 rw [<- hab, <- hdl, <- hks];have hdf : dl = (W[D + 1]!).filter fun v => !decide (v.pol = anyP) := by rw [hdl]; exact delL_filt (PW.ord _) hst
 have hod : OrdP dl := by rw [hdf]; exact (PW.ord _).filter _
 have hksm : ∀ p, p ∈ ks ↔ p ∈ ps /\ p ∉ has := fun p => by
  rw [hks, List.mem_filter, setB_mem]; simp
 have hany : ∀ p ∈ ps, p ≠ anyP := fun p hp e => hps.2 (e ▸ hp)
 obtain ⟨out, hout⟩ : ∃ out, out = keepP t (resM t ((D + 1 : Nat) : Int) ps) := ⟨_, rfl⟩
 rw [<- hout] at hl hVO |-
 -- the graph without the deepest special vertex
 have hdlk : ∀ q p, lkN W[D]! dl q p ↔ lkE W D q p /\ p ≠ anyP := fun q p => by
  rw [hdf];unfold lkN lkE;constructor
  ·rintro ⟨v, hv, rfl, h⟩;obtain ⟨h1, h2⟩ := List.mem_filter.1 hv;exact ⟨⟨v, h1, rfl, h⟩, by simpa using h2⟩
  ·rintro ⟨⟨v, hv, rfl, h⟩, h2⟩;exact ⟨v, List.mem_filter.2 ⟨hv, by simpa using h2⟩, rfl, h⟩
 have hm : ∀ i, i < t.length -> ((resM t ((D + 1 : Nat) : Int) ps)[i]! = true ↔ ((dnM t (rresC t ps false) t.length)[i]! = true /\ ¬ (t[i]!.pol = anyP /\ t[i]!.d = ((D + 1 : Nat) : Int)))) := fun i hi => by
  rw [hmk i hi, Bool.and_eq_true, Bool.not_eq_true', <- Bool.not_eq_true, isX_iff]
 have R1 : RT t (fun i => (resM t ((D + 1 : Nat) : Int) ps)[i]! = true) (W.set (D + 1) dl) (D + 1) := by
  refine ⟨by rw [zL]; exact hWl, fun p hp => ?_, fun i hi hq => ?_, fun i hi hq hp => ?_, fun i hi hq p hp => ?_⟩
  ·unfold lkV at hp;rw [set_at2 (by omega), if_neg (by omega)] at hp;obtain ⟨a, b, c⟩ := RW.rt p hp;exact ⟨a, (hm 0 a).2 ⟨b, by have := (V.root a).1; omega⟩, c⟩
  ·obtain ⟨h1, h2⟩ := (hm i hi).1 hq;have h3 := RW.vx i hi h1;unfold lkV at h3 |-;rw [set_at2 (by omega)];by_cases e : t[i]!.d.toNat = D + 1
   ·rw [if_pos e, hdf];rw [e] at h3;obtain ⟨v, hv, hvp⟩ := h3;refine ⟨v, List.mem_filter.2 ⟨hv, ?_⟩, hvp⟩;rw [hvp];have : ¬ t[i]!.pol = anyP := fun q => h2 ⟨q, by omega⟩
    simpa using this
   ·rw [if_neg e]; exact h3
  ·obtain ⟨h1, h2⟩ := (hm i hi).1 hq;obtain ⟨a, b, b'⟩ := V.vs.up1 hi hp;have hle := V.le i hi;obtain ⟨h3, h4⟩ := RW.up i hi h1 hp;refine ⟨(hm _ (by omega)).2 ⟨h3, by omega⟩, (set_ed (by omega) _ _ _).2 ?_⟩;by_cases e : t[t[i]!.p.toNat]!.d.toNat = D
   ·rw [e] at h4;exact .inl ⟨e, (hdlk _ _).2 ⟨h4, fun q => h2 ⟨q, by omega⟩⟩⟩
   ·exact .inr ⟨e, h4⟩
  ·obtain ⟨h1, h2⟩ := (hm i hi).1 hq;rcases (set_ed (by omega) _ _ _).1 hp with ⟨e, h3⟩ | ⟨e, h3⟩
   ·obtain ⟨h4, h5⟩ := (hdlk _ _).1 h3;obtain ⟨j, a, a', b, rfl⟩ := RW.dn i hi h1 p (by rw [e]; exact h4);exact ⟨j, a, (hm j a).2 ⟨a', fun q => h5 q.1⟩, b, rfl⟩
   ·obtain ⟨j, a, a', b, c⟩ := RW.dn i hi h1 p h3;obtain ⟨k1, k2, k3⟩ := V.vs.up1 a (by omega);rw [show t[j]!.p.toNat = i by omega] at k2 k3;have hle := V.le j a;have h0 := V.vs.d0 i hi;exact ⟨j, a, (hm j a).2 ⟨a', by omega⟩, b, c⟩
 have RO : RT out (fun _ => True) (W.set (D + 1) dl) (D + 1) := by rw [hout]; exact R1.keep V.vs fun i _ => Iff.rfl
 obtain ⟨A, L, hAL, VA, hA, hL, hg2⟩ := hVO.split (D := ((D + 1 : Nat) : Int)) (by omega);have hLd : ∀ n ∈ L, n.d = ((D + 1 : Nat) : Int) := fun n hn => (hg2 n hn).d
 rw [hAL] at RO hVO;have hsl : (W.set (D + 1) dl).length = D + 2 := by rw [zL]; exact hWl
 have RI := RO.init hVO hA hLd;have hlast := fun {i : Nat} (hi : i < A.length) (hd : A[i]!.d = (D : Int)) (p : B) => RO.last hVO hA hLd hi hd p
 have e1 : (W.set (D + 1) dl)[D]! = W[D]! := by rw [set_at2 (by omega), if_neg (by omega)]
 have e2 : (W.set (D + 1) dl)[D + 1]! = dl := by rw [set_at2 (by omega), if_pos rfl]
 rw [e1, e2] at hlast
 -- the deepest special node that stays
 obtain ⟨I, hI⟩ : ∃ I, I = idxP out fun n => spec n && decide (n.d = ((D + 1 : Nat) : Int) - 1) := ⟨_, rfl⟩
 have alo : ∀ i, i < A.length -> out[i]! = A[i]! := fun i hi => by rw [hAL]; exact app_lo hi
 have hone : ∀ i j, i < A.length -> j < A.length -> A[i]!.d = (D : Int) -> A[j]!.d = (D : Int) -> A[i]!.pol = anyP -> A[j]!.pol = anyP -> i = j := fun i j hi hj h1 h2 h3 h4 => by
  have hol : A.length <= out.length := by rw [hAL, List.length_append]; omega
  have ki := keepP_from t (resM t ((D + 1 : Nat) : Int) ps) (j := i) (by rw [<- hout]; omega);have kj := keepP_from t (resM t ((D + 1 : Nat) : Int) ps) (j := j) (by rw [<- hout]; omega);rw [<- hout] at ki kj;obtain ⟨i', a1, a2, a3, a4⟩ := ki;obtain ⟨j', b1, b2, b3, b4⟩ := kj;rw [alo i hi] at a4;rw [alo j hj] at b4;rw [a4] at h1 h3;rw [b4] at h2 h4;have h1' : t[i']!.d = (D : Int) := h1;have h2' : t[j']!.d = (D : Int) := h2;have := V.one i' j' a1 b1 (by omega) h3 h4;rw [<- a3, <- b3, this]
 have hIs : ∃ I' : Nat, I = (I' : Int) /\ I' < A.length /\ A[I']!.d = (D : Int) /\ A[I']!.pol = anyP := by
  obtain ⟨x, hx, hsx⟩ := any_at.1 hX;obtain ⟨hs1, hs2⟩ := isX_iff.1 hsx
  have hx0 : 0 < x := by
   rcases Nat.eq_zero_or_pos x with q | q
   ·subst q; have := (V.root hx).1; omega
   ·exact q
  have hxp := V.par x hx0 hx;have hxd := V.dd x hx0 hx;have hxs := (V.sp x hx0 hx hs1).1;unfold pn at hxd hxs;generalize hP : t[x]!.p.toNat = P at hxd hxs;have hPl : P < t.length := by omega
  have hPm : (resM t ((D + 1 : Nat) : Int) ps)[P]! = true := (hm P hPl).2 ⟨res_spec V ps P hPl hxs, by omega⟩;have hmem : kpN (resM t ((D + 1 : Nat) : Int) ps) t[P]! ∈ out := by rw [hout]; exact keep_mem.2 ⟨P, hPl, hPm, rfl⟩
  have hI0 : 0 <= I := by
   rcases Int.lt_or_le I 0 with q | q
   ·exfalso
    rw [hI] at q;obtain ⟨k, hk, hke⟩ := mem_at.1 hmem;have := idxP_none q k hk;rw [hke] at this;have hs : spec (kpN (resM t ((D + 1 : Nat) : Int) ps) t[P]!) = true := spec_iff.2 hxs
    have hd : (kpN (resM t ((D + 1 : Nat) : Int) ps) t[P]!).d = ((D + 1 : Nat) : Int) - 1 := by
     show t[P]!.d = _
     omega
    rw [hs, zT hd] at this
    cases this
   ·exact q
  rw [hI] at hI0;obtain ⟨I', h1, h2, h3, -⟩ := idxP_some hI0;rw [Bool.and_eq_true, decide_eq_true_eq, spec_iff] at h3
  have hIA : I' < A.length := by
   rcases Nat.lt_or_ge I' A.length with q | q
   ·exact q
   ·have : out[I']! ∈ L := by
     rw [hAL, app_hi q];rw [hAL, List.length_append] at h1;exact mem_at.2 ⟨I' - A.length, by omega, rfl⟩
    have := hLd _ this;omega
  rw [alo I' hIA] at h3;exact ⟨I', by rw [hI]; exact h2, hIA, by omega, h3.1⟩
 obtain ⟨I', hII, hIA, hId, hIp⟩ := hIs;obtain ⟨S, hS⟩ : ∃ S, S = insL L (resMore t out ((D + 1 : Nat) : Int) ps) := ⟨_, rfl⟩
 have hmoreM : ∀ x, x ∈ resMore t out ((D + 1 : Nat) : Int) ps ↔ ∃ p, (p ∈ ps /\ haveK t ((D + 1 : Nat) : Int) ps p t.length = false) /\ x = newN ((D + 1 : Nat) : Int) (I' : Nat) p := fun x => by
  unfold resMore;rw [<- hI, hII];constructor
  ·intro h;obtain ⟨p, hp, rfl⟩ := List.mem_map.1 h;rw [List.mem_filter, setB_mem] at hp;exact ⟨p, ⟨hp.1, by simpa using hp.2⟩, rfl⟩
  ·rintro ⟨p, ⟨h1, h2⟩, rfl⟩;exact List.mem_map.2 ⟨p, List.mem_filter.2 ⟨setB_mem.2 h1, by simpa using h2⟩, rfl⟩
 have hsort : sortT (out ++ resMore t out ((D + 1 : Nat) : Int) ps) = A ++ S := by
  have hsrt : Srt ltT out := by rw [hAL]; exact hVO.lt.srt
  rw [sort_ins hsrt, hAL, insL_lo hA _ _ fun x h => by
   rw [<- hAL] at h;obtain ⟨p, -, rfl⟩ := (hmoreM x).1 h
   rfl]
  rw [hS, hAL]
 have hmem : ∀ x, x ∈ S ↔ x ∈ L \/ x ∈ resMore t out ((D + 1 : Nat) : Int) ps := fun x => by rw [hS, insL_mem]
 -- what is there already
 have hhv : ∀ p, p ∈ ps -> (haveK t ((D + 1 : Nat) : Int) ps p t.length = true ↔ p ∈ has) := fun p hp => by
  have h1 := hthas hp (hany p hp);rw [show g.length - 1 = D + 1 by omega] at h1;have h2 : p ∈ has ↔ thN W p (D + 1) = true := by rw [h1, decide_eq_true_eq]
  rw [h2, thN_iff PW];unfold haveK;rw [List.any_eq_true];constructor
  ·rintro ⟨i, hi, h⟩;rw [List.mem_range] at hi;simp only [Bool.and_eq_true, decide_eq_true_eq, Bool.not_eq_true', spec_iff] at h
   obtain ⟨h3, h4, h5, h6, h7, h8⟩ := h;have h3' := ((hm i hi).1 h3).1;obtain ⟨a, b, b'⟩ := V.vs.up1 hi h4;have hle := V.le i hi;have h9 := (RW.up i hi h3' h4).2;unfold pn at h5;rw [h5, h8] at h9;exact ⟨_, by omega, h9⟩
  ·rintro ⟨d, hd, h⟩
   have hv : lkV W d anyP := by
    obtain ⟨v, -, -, j, -, hj, hq⟩ := h;exact ⟨_, mem_lv hj, hq⟩
   obtain ⟨i, hi, hid, hiq⟩ := hR.surj V.vs hg d (by omega) anyP (hsub d anyP hv);obtain ⟨c, hc, hcm, hcp, hcq⟩ := RW.dn i hi (res_spec V ps i hi hiq) p (by rw [hid, Int.toNat_natCast, hiq]; exact h);refine ⟨c, List.mem_range.2 hc, ?_⟩;have hcs : spec t[c]! = false := by unfold spec; rw [hcq]; exact zF (hany p hp)
   have hps2 : spec (pn t t[c]!) = true := by unfold pn; rw [show t[c]!.p.toNat = i by omega]; exact spec_iff.2 hiq
   have hrm : (dnM t (resC t ((D + 1 : Nat) : Int) ps) t.length)[c]! = true := (hm c hc).2 ⟨hcm, fun q => hany p hp (hcq.symm.trans q.1)⟩;rw [hrm, hps2, hcs, hcq, zT hp, zT (show t[c]!.p >= 0 by omega)];simp
 have habs : 0 <= ab := by
  have h1 := RI.vx I' hIA trivial;rw [hId, Int.toNat_natCast, hIp] at h1;unfold lkV at h1;rw [take_lo (by omega) (by omega), e1] at h1;rw [hab]; exact fndP_iff.2 h1
 obtain ⟨a0, ha0, hae, hap, -⟩ := fndP_some (l := W[D]!) (p := anyP) (by rw [<- hab]; exact habs);rw [<- hab] at hae
 have hgs : W.set (D + 1) (resL [] ab dl ks) = (W.set (D + 1) dl).take (D + 1) ++ [resL [] ab dl ks] := by
  rw [<- set_end hsl, List.set_set]
 have VA' : VS A (D : Int) := ⟨VA.root, VA.par, VA.dd, fun i hi => by have := hA _ (mem_at.2 ⟨i, hi, rfl⟩); omega, VA.lt, VA.asc, VA.sp, VA.ns⟩;constructor
 ·rw [hsort, hgs];refine RI.snoc VA' (fun x hx' => ?_) fun i hi hd p => ?_
  ·rcases (hmem x).1 hx' with h | h
   ·have G := hg2 x h;exact ⟨G.d, G.p0, G.p1, by have := G.pd; omega⟩
   ·obtain ⟨p, -, rfl⟩ := (hmoreM x).1 h;exact ⟨rfl, by show (0 : Int) <= (I' : Int); omega, by show (I' : Int) < _; omega, by unfold newN; simp only [Int.toNat_natCast]; exact hId⟩
  ·rw [take_lo (by omega) (by omega), e1];have hold := hlast hi hd p;have hiI : i = I' ↔ A[i]!.pol = anyP := ⟨fun e => by rw [e]; exact hIp, fun h => hone i I' hi hIA hd hId h hIp⟩;constructor
   ·rintro ⟨x, hx', hxp, hxq⟩;rcases (hmem x).1 hx' with h | h
    ·obtain ⟨v, hv, hvp, j, hj1, hj2, hj3⟩ := hold.1 ⟨x, h, hxp, hxq⟩;obtain ⟨u, hu, hup, hux⟩ := (resL_pp (ab := ab) ks hod).2 (.inl ⟨v, hv, hvp, hj1⟩);exact ⟨u, hu, hup, j, hux, hj2, hj3⟩
    ·obtain ⟨p', ⟨h1, h2⟩, rfl⟩ := (hmoreM x).1 h;have hp' : p' = p := hxq;subst hp';have hii : i = I' := by have : (I' : Int) = (i : Int) := hxp; omega
     have hnh : p' ∉ has := fun q => by
      rw [(hhv p' h1).2 q] at h2; cases h2
     obtain ⟨u, hu, hup, hux⟩ := (resL_pp (ab := ab) ks hod).2 (.inr ⟨(hksm p').2 ⟨h1, hnh⟩, rfl⟩);rw [hae] at hux;exact ⟨u, hu, hup, a0, hux, ha0, by rw [hap, hiI.1 hii]⟩
   ·rintro ⟨u, hu, hup, j, hj1, hj2, hj3⟩;rcases (resL_pp (ab := ab) ks hod).1 ⟨u, hu, hup, hj1⟩ with ⟨v, hv, hvp, hvx⟩ | ⟨h1, h2⟩
    ·obtain ⟨x, hx', hxp, hxq⟩ := hold.2 ⟨v, hv, hvp, j, hvx, hj2, hj3⟩;exact ⟨x, (hmem x).2 (.inl hx'), hxp, hxq⟩
    ·obtain ⟨h3, h4⟩ := (hksm p).1 h1;have hja : j = a0 := (by omega);rw [hja, hap] at hj3;have hii := hiI.2 hj3.symm
     have hnh : haveK t ((D + 1 : Nat) : Int) ps p t.length = false := by
      cases q : haveK t ((D + 1 : Nat) : Int) ps p t.length with
      | false => rfl
      | true => exact absurd ((hhv p h3).1 q) h4
     exact ⟨_, (hmem _).2 (.inr ((hmoreM _).2 ⟨p, ⟨h3, hnh⟩, rfl⟩)), by show (I' : Int) = (i : Int); omega, rfl⟩
 ·refine PW.setLast (k := D) (by omega) (resL_ord ks hod) (resL_fit ⟨habs, by omega⟩ ks ?_ hod (fun v hv => ?_) fun p hp => ?_)
  ·rw [hks];exact (asc_nodup (setB_asc ps)).filter _
  ·rw [hdf] at hv;exact PW.fit D (by omega) v (List.mem_filter.1 hv).1
  ·obtain ⟨h1, h2⟩ := (hksm p).1 hp;refine ⟨hany p h1, fun v hv hvp hvx => h2 ?_⟩;have h3 := hthas h1 (hany p h1);rw [show g.length - 1 = D + 1 by omega] at h3;have h4 : thN W p (D + 1) = true := (thN_iff PW).2 ⟨D, by omega, v, by rw [hdf] at hv; exact (List.mem_filter.1 hv).1, hvp, a0, by rw [<- hae]; exact hvx, ha0, hap⟩;rw [h3, decide_eq_true_eq] at h4;exact h4
theorem lk_res (V : VT t ((D + 1 : Nat) : Int)) (h : LK t g (D + 1)) (hg : gvalidB g = true) (ps : List B) (hln : ∀ l ∈ g, l.length <= 100000) :
  (gresP g ps).2 = 0 /\ ((resP t ((D + 1 : Nat) : Int) ps).2 = 2 \/ ((resP t ((D + 1 : Nat) : Int) ps).2 = 0 /\ LK (resP t ((D + 1 : Nat) : Int) ps).1 (gresP g ps).1 (D + 1) /\ VT (resP t ((D + 1 : Nat) : Int) ps).1 ((D + 1 : Nat) : Int) /\ gvalidB (gresP g ps).1 = true)) := by
 have hv := (valid_iff t ((D + 1 : Nat) : Int)).2 V;have hD := V.dep;have e0 : gresP g ps = (pruneG (gresG g ps), 0) := by unfold gresP; rw [hg]; rfl
 rw [e0];refine ⟨rfl, ?_⟩;rcases h with ⟨rfl, rfl⟩ | ⟨h1, h2, hR⟩
 ·have e1 : resP [] ((D + 1 : Nat) : Int) ps = ([], 0) := by
   unfold resP;rw [hv];simp only [Bool.not_true, Bool.false_eq_true, if_false]
   split
   ·rfl
   ·rfl
  have e2 : gresG [] ps = [] := by unfold gresG; rw [if_pos (.inl rfl)]
  rw [e1, e2];exact .inr ⟨rfl, .inl ⟨rfl, rfl⟩, V, rfl⟩
 have hgl := hR.len;have P := valid_pv hg;by_cases hf : (ps.isEmpty || decide (anyP ∈ ps)) = true
 ·have e1 : resP t ((D + 1 : Nat) : Int) ps = (pruneP t ((D + 1 : Nat) : Int), 0) := by
   unfold resP;rw [hv];simp only [Bool.not_true, Bool.false_eq_true, if_false]
   rw [if_pos hf]
  have e2 : gresG g ps = g := by
   unfold gresG;rw [Bool.or_eq_true, List.isEmpty_iff, decide_eq_true_eq] at hf
   rw [if_pos (by
    rcases hf with q | q
    ·exact .inr (.inl (by rw [q]; rfl))
    ·exact .inr (.inr q))]
  rw [e1, e2];exact .inr ⟨rfl, hR.prune V.vs P, V.vs.prune hD V.len, prune_valid P⟩
 have hps : ps ≠ [] /\ anyP ∉ ps := by
  simp only [Bool.or_eq_true, List.isEmpty_iff, decide_eq_true_eq, not_or] at hf
  exact hf
 have hPG := gvalid_pg hg hln;have hWe := wan_eq hPG P.ord (by omega) ps;have PC := P.cut ps (g.length - 1);have hcl : (r1G ps g (g.length - 1)).length = D + 2 := by rw [r1G_len]; exact hgl
 have PW : PV (wanG ps g (g.length - 1)) := by rw [hWe]; exact fwdG_pv PC _ (.inl (by omega))
 have RW : RT t (fun i => (dnM t (rresC t ps false) t.length)[i]! = true) (wanG ps g (g.length - 1)) (D + 1) := by
  rw [hWe];have hc : RT t (fun i => (dnM t (rresC t ps false) t.length)[i]! = true) (r1G ps g (g.length - 1)) (D + 1) := RT.cut V hR P ps;exact hc.fwd V.vs PC _ (.inl (by omega))
 have hsub : ∀ k p, lkV (wanG ps g (g.length - 1)) k p -> lkV g k p := fun k p hk => by
  rw [hWe] at hk;obtain ⟨v, hv', rfl⟩ := hk;obtain ⟨u, hu, hup, -⟩ := (fwdG_sub (r1G ps g (g.length - 1)) k (g.length - 1) (.inl (by omega))).2 v hv';by_cases hkl : k < g.length
  ·have e := r1G_pols ps g (g.length - 1) hkl;have : u.pol ∈ (g[k]!).map (·.pol) := by rw [<- e]; exact List.mem_map.2 ⟨u, hu, rfl⟩
   obtain ⟨y, hy, hyp⟩ := List.mem_map.1 this;exact ⟨y, hy, by rw [hup]; exact hyp⟩
  ·rw [getElem!_neg _ k (by rw [r1G_len]; exact hkl)] at hu
   cases hu
 have hVO := res_vs V ps hps
 have hstar : t.any (isX ((D + 1 : Nat) : Int)) = true ↔ 0 <= fndP (wanG ps g (g.length - 1))[D + 1]! anyP := by
  constructor
  ·intro hX;obtain ⟨x, hx, hsx⟩ := any_at.1 hX;obtain ⟨hs1, hs2⟩ := isX_iff.1 hsx;have := RW.vx x hx (res_spec V ps x hx hs1);rw [hs1, hs2, Int.toNat_natCast] at this;exact fndP_iff.2 this
  ·intro hs;obtain ⟨i, hi, hd, hq⟩ := hR.surj V.vs hg (D + 1) (zR _) anyP (hsub _ _ (fndP_iff.1 hs));exact any_at.2 ⟨i, hi, isX_iff.2 ⟨hq, hd⟩⟩
 by_cases hX : t.any (isX ((D + 1 : Nat) : Int)) = true
 ·have hst := hstar.1 hX;by_cases hl : (keepP t (resM t ((D + 1 : Nat) : Int) ps)).length + (resMore t (keepP t (resM t ((D + 1 : Nat) : Int) ps)) ((D + 1 : Nat) : Int) ps).length > 2048
  ·left
   unfold resP;rw [hv];simp only [Bool.not_true, Bool.false_eq_true, if_false]
   rw [if_neg hf];have hX' : (t.any fun n => spec n && decide (n.d = ((D + 1 : Nat) : Int)) && decide (((D + 1 : Nat) : Int) > 0)) = true := hX;rw [hX', if_pos rfl, if_pos hl]
  ·right
   have e1 : resP t ((D + 1 : Nat) : Int) ps = (pruneP (sortT (keepP t (resM t ((D + 1 : Nat) : Int) ps) ++ resMore t (keepP t (resM t ((D + 1 : Nat) : Int) ps)) ((D + 1 : Nat) : Int) ps)) ((D + 1 : Nat) : Int), 0) := by
    unfold resP;rw [hv];simp only [Bool.not_true, Bool.false_eq_true, if_false]
    rw [if_neg hf];have hX' : (t.any fun n => spec n && decide (n.d = ((D + 1 : Nat) : Int)) && decide (((D + 1 : Nat) : Int) > 0)) = true := hX;rw [hX', if_pos rfl, if_neg hl]
   rw [e1];obtain ⟨hRT, hPV⟩ := lk_resX V hR hg ps hps hln hX (by omega) hst RW PW hsub;have VK := hVO.2 hX
   have hlen : (sortT (keepP t (resM t ((D + 1 : Nat) : Int) ps) ++ resMore t (keepP t (resM t ((D + 1 : Nat) : Int) ps)) ((D + 1 : Nat) : Int) ps)).length <= 2048 := by
    have := fold_length (lt := ltT) (keepP t (resM t ((D + 1 : Nat) : Int) ps) ++ resMore t (keepP t (resM t ((D + 1 : Nat) : Int) ps)) ((D + 1 : Nat) : Int) ps) [];unfold sortT srtL;rw [this, List.length_append];simp only [List.length_nil]
    omega
   exact ⟨rfl, hRT.prune VK hPV, VK.prune hD hlen, prune_valid hPV⟩
 ·right
  have hXf : t.any (isX ((D + 1 : Nat) : Int)) = false := by simpa using hX
  have e1 : resP t ((D + 1 : Nat) : Int) ps = (pruneP (keepP t (resM t ((D + 1 : Nat) : Int) ps)) ((D + 1 : Nat) : Int), 0) := by
   unfold resP;rw [hv];simp only [Bool.not_true, Bool.false_eq_true, if_false]
   rw [if_neg hf];have hX' : (t.any fun n => spec n && decide (n.d = ((D + 1 : Nat) : Int)) && decide (((D + 1 : Nat) : Int) > 0)) = false := hXf;rw [hX'];simp only [Bool.false_eq_true, if_false]
  have e2 : gresG g ps = wanG ps g (g.length - 1) := by
   unfold gresG
   rw [if_neg (by
    rintro (h | h | h)
    ·omega
    ·exact hps.1 (List.length_eq_zero_iff.1 h)
    ·exact hps.2 h), if_pos (.inr (by
    rw [show g.length - 1 = D + 1 by omega] at hstar |-;rcases Int.lt_or_le (fndP (wanG ps g (D + 1))[D + 1]! anyP) 0 with q | q
    ·exact q
    ·exact absurd (hstar.2 q) hX))]
  rw [e1, e2]
  have hM : ∀ i, i < t.length -> ((resM t ((D + 1 : Nat) : Int) ps)[i]! = true ↔ (dnM t (rresC t ps false) t.length)[i]! = true) := fun i hi => by
   rw [res_marks V ps i hi]
   have : isX ((D + 1 : Nat) : Int) t[i]! = false := by
    cases q : isX ((D + 1 : Nat) : Int) t[i]! with
    | false => rfl
    | true => exact absurd (any_at.2 ⟨i, hi, q⟩) hX
   rw [this]; simp
  exact ⟨rfl, (RW.keep V.vs hM).prune hVO.1 PW, hVO.1.prune hD (by have := res_len V ps; have := V.len; omega), prune_valid PW⟩
theorem lk_pol (V : VT t ((D + 1 : Nat) : Int)) (h : LK t g (D + 1)) (hg : gvalidB g = true) : polP t ((D + 1 : Nat) : Int) = gpolP g := by
 have hv := (valid_iff t ((D + 1 : Nat) : Int)).2 V;unfold polP gpolP;rw [hv, hg];simp only [Bool.not_true, Bool.false_eq_true, if_false, if_true]
 rcases h with ⟨rfl, rfl⟩ | ⟨h1, h2, hR⟩
 ·rfl
 have hgl := hR.len;have P := valid_pv hg;refine setB_congr fun x => ?_
 have hL : x ∈ polK t ((D + 1 : Nat) : Int) t.length ↔ ∃ i, i < t.length /\ polC t ((D + 1 : Nat) : Int) t[i]! = true /\ t[i]!.pol = x := by
  unfold polK;rw [List.mem_map];constructor
  ·rintro ⟨i, hi, rfl⟩;rw [List.mem_filter, List.mem_range] at hi;exact ⟨i, hi.1, hi.2, rfl⟩
  ·rintro ⟨i, h1, h2, rfl⟩;exact ⟨i, List.mem_filter.2 ⟨List.mem_range.2 h1, h2⟩, rfl⟩
 have hRr : x ∈ polL g g.length ↔ ∃ k, k < D + 1 /\ lkE g k anyP x /\ (x ≠ anyP \/ k = D) := by
  unfold polL;rw [List.mem_flatMap];constructor
  ·rintro ⟨k, hk, hx⟩;rw [List.mem_range] at hk;by_cases h0 : k = 0
   ·rw [if_pos h0] at hx; cases hx
   ·rw [if_neg h0] at hx;obtain ⟨v, hv', rfl⟩ := List.mem_map.1 hx;obtain ⟨hv1, hv2⟩ := List.mem_filter.1 hv';unfold polV at hv2;simp only [Bool.and_eq_true, decide_eq_true_eq, Bool.or_eq_true, Bool.not_eq_true'] at hv2
    obtain ⟨⟨h3, h4⟩, h5⟩ := hv2;obtain ⟨k', rfl⟩ : ∃ k', k = k' + 1 := ⟨k - 1, by omega⟩
    rw [Nat.add_sub_cancel] at h3 h4;obtain ⟨j, hj, he, hjp, -⟩ := fndP_some h3;rw [he] at h4;refine ⟨k', by omega, ⟨v, hv1, rfl, j, h4, hj, hjp⟩, ?_⟩;rcases h5 with h5 | h5
    ·left
     unfold specV at h5;exact of_decide_eq_false h5
    ·right; omega
  ·rintro ⟨k, hk, ⟨v, hv', rfl, j, hj, hjl, hq⟩, h3⟩;refine ⟨k + 1, List.mem_range.2 (by omega), ?_⟩;rw [if_neg (by omega)];refine List.mem_map.2 ⟨v, List.mem_filter.2 ⟨hv', ?_⟩, rfl⟩;unfold polV;rw [Nat.add_sub_cancel];have he := (fndP_is (P.ord k) hjl anyP).2 hq;rw [he];simp only [Bool.and_eq_true, decide_eq_true_eq, Bool.or_eq_true, Bool.not_eq_true']
   refine ⟨⟨by omega, hj⟩, ?_⟩;rcases h3 with h3 | h3
   ·left; unfold specV; exact zF h3
   ·right; omega
 rw [hL, hRr];constructor
 ·rintro ⟨i, hi, hc, rfl⟩;obtain ⟨h3, h4, h5⟩ := polC_iff.1 hc;obtain ⟨a, b, b'⟩ := V.vs.up1 hi h3;have hle := V.le i hi;have h6 := (hR.up i hi trivial h3).2;unfold pn at h4;rw [spec_iff.1 h4] at h6;refine ⟨_, by omega, h6, ?_⟩;rcases h5 with h5 | h5
  ·left; unfold spec at h5; exact of_decide_eq_false h5
  ·right; omega
 ·rintro ⟨k, hk, he, h3⟩
  have hv' : lkV g k anyP := by
   obtain ⟨v, -, -, j, -, hj, hq⟩ := he;exact ⟨_, mem_lv hj, hq⟩
  obtain ⟨i, hi, hid, hiq⟩ := hR.surj V.vs hg k (by omega) anyP hv';obtain ⟨c, hc, -, hcp, hcq⟩ := hR.dn i hi trivial x (by rw [hid, Int.toNat_natCast, hiq]; exact he);obtain ⟨a, b, b'⟩ := V.vs.up1 hc (by omega);rw [show t[c]!.p.toNat = i by omega] at b b';refine ⟨c, hc, polC_iff.2 ⟨by omega, by unfold pn; rw [show t[c]!.p.toNat = i by omega]; exact spec_iff.2 hiq, ?_⟩, hcq⟩;rcases h3 with h3 | h3
  ·left; unfold spec; rw [hcq]; exact zF h3
  ·right; omega
end
end Go.Proofs.YtmagjdocondmhaaGreat.Tr.Gr
namespace Go.Proofs.YtmagjdocondmhaaGreat.Tr
open Go Go.RowKit Slc St Mp
attribute [local go_sem] Oper.semAt_some
theorem grown_below {w w' : World} {g : Option Nat} (h : Below w.heap.size w w') : w.grownBy w' g := ⟨h.os, h.tape, h.output, h.size, fun k hk _ => h.block k hk⟩
theorem deck_keep {W0 : World} {v : Value} {zs : List Int} {w w' : World} {g B : Nat} (h : Deck W0 v zs w g) (hb : Below B w w') (hg : g < B) (hB : W0.heap.size <= B) : Deck W0 v zs w' g := by
 obtain ⟨k, hk, hc⟩ := h.c1;exact ⟨h.ints, h.bel.trans (hb.mono hB), h.ge, (hb.cell (p := ⟨g, 0, none⟩) hg).trans h.c0, ⟨k, hk, (hb.cell (p := ⟨g, 1, none⟩) hg).trans hc⟩, fun k => (hb.frozen (p := ⟨g, k, none⟩) hg).trans (h.fr k), Nat.lt_of_lt_of_le h.lt hb.size, fun j s e => h.ns j s ((hb.cell (p := ⟨g, j, none⟩) hg).symm.trans e)⟩
theorem own_grown {α : Type} {w w' : World} {B z g : Nat} {t : TypeId} {enc : α -> List Value} {v : Value} {l : List α} (h : Slc.Own w B t z enc v l) (hg : w.grownBy w' (some g)) (hgB : g < B) : Slc.Own w' B t z enc v l :=
 h.keep fun k hk hlt => hg.block k hlt (by simp only [ne_eq, zO]; intro e; have := (h.lt k hk).1; omega)
theorem rd_deck {W0 : World} {v u : Value} {zs : List Int} {w w' : World} {g : Nat} {l : List B} (h : Rd w encS u l) (hd : Deck W0 v zs w g) (hg : w.grownBy w' (some g)) : Rd w' encS u l := by
 rcases h with h | ⟨b, o, c, rfl, hlt, hc, hcell⟩
 ·exact .inl h
 ·refine .inr ⟨b, o, c, rfl, by have := hg.size; omega, hc, fun j x hj => ?_⟩
  have hne : b ≠ g := by
   rintro rfl;have h1 := hcell j x hj
   have hx : ∃ s, x = .string s := by
    have := List.mem_of_getElem? hj;rw [List.mem_flatMap] at this;obtain ⟨y, -, hy⟩ := this;simp [encS] at hy
    exact ⟨_, hy⟩
   obtain ⟨s, rfl⟩ := hx;exact hd.ns _ _ h1
  rw [<- hcell j x hj];have := hg.block b hlt (by simp only [ne_eq, zO]; exact hne);unfold World.cell?;rw [this]
theorem TO.deck {W0 : World} {v tv : Value} {zs : List Int} {w w' : World} {g Bk : Nat} {l : List Nt} (h : TO w Bk tv l) (hd : Deck W0 v zs w g) (hg : w.grownBy w' (some g)) (hgB : g < Bk) : TO w' Bk tv l :=
 ⟨own_grown h.own hg hgB, fun x hx => ⟨⟨rd_deck (h.nm x hx).1.1 hd hg, (h.nm x hx).1.2⟩, (h.nm x hx).2⟩⟩
structure MSt {α : Type} (t : TypeId) (z : Nat) (enc : α -> List Value) (W0 : World) (v : Value) (zs : List Int) (w : World) (g : Nat) (hv : Value) (out : List α) (wr : World) : Prop where
 own : Slc.Own wr w.heap.size t z enc hv out
 dk : Deck W0 v zs wr g
 gr : w.grownBy wr (some g)
section
variable {α : Type} {t : TypeId} {z : Nat} {enc : α -> List Value} {W0 : World} {v : Value} {zs : List Int} {w : World} {g : Nat} {hv : Value} {out : List α} {wr w' : World}
theorem MSt.below (h : MSt t z enc W0 v zs w g hv out wr) (hb : Below wr.heap.size wr w') : MSt t z enc W0 v zs w g hv out w' :=
 ⟨h.own.below hb, h.dk.below hb, h.gr.trans (grown_below hb)⟩
theorem MSt.grow (h : MSt t z enc W0 v zs w g hv out wr) (hg : wr.grownBy w' (some g)) (hd : Deck W0 v zs w' g) (hgl : g < w.heap.size) : MSt t z enc W0 v zs w g hv out w' :=
 ⟨own_grown h.own hg hgl, hd, h.gr.trans hg⟩
theorem MSt.apd {a b : Nat} {xs news : List Value} {m : List α} {v' : Value} (h : MSt t z enc W0 v zs w g hv out wr) (hgl : g < w.heap.size) (hw0 : W0.heap.size <= w.heap.size) (hx : xs = out.flatMap enc) (hy : news = m.flatMap enc) (ha : a = out.length) (hb : b = m.length) (h' : Apd wr w.heap.size t z hv a b xs news v' w') : MSt t z enc W0 v zs w g v' (out ++ m) w' := by
 have hbb : Below w.heap.size wr w' := (Below.refl _ _).grown h'.grown h.gr.size fun k hk => (h.own.lt k hk).1
 exact ⟨h.own.apd hx hy ha hb h', deck_keep h.dk hbb hgl hw0, ⟨hbb.os.trans h.gr.os, hbb.tape.trans h.gr.tape, hbb.output.trans h.gr.output, Nat.le_trans h.gr.size hbb.size, fun k hk hne => (hbb.block k hk).trans (h.gr.block k hk hne)⟩⟩
end
theorem policy_any (w : World) (m : Nat) (hm : m < 9) : Calls Tryz.prog 35 #[.int .i64 m] w fun e w' => ∃ p : B, e = .returned (.string (bstr p)) /\ p.length <= 100 /\ Below w.heap.size w w' := by
 have hb : ∀ x, Below w.heap.size w (w.alloc x) := fun x => (Below.refl _ _).alloc (zR _) _
 have HB := Bx.mk hb;clear hb;obtain rfl | rfl | rfl | rfl | rfl | rfl | rfl | rfl | rfl : m = 0 \/ m = 1 \/ m = 2 \/ m = 3 \/ m = 4 \/ m = 5 \/ m = 6 \/ m = 7 \/ m = 8 := by omega
 all_goals
  clear hm;go_enter Tryz.func35, Tryz.ntmps35;go_wp2_with fail
  go_ret
 ·exact ⟨[49, 46, 50, 46, 51, 46, 49], rfl, by decide, HB.out _⟩
 ·exact ⟨[49, 46, 50, 46, 51, 46, 50], rfl, by decide, HB.out _⟩
 ·exact ⟨[49, 46, 50, 46, 51, 46, 51], rfl, by decide, HB.out _⟩
 ·exact ⟨[49, 46, 50, 46, 51, 46, 52], rfl, by decide, HB.out _⟩
 ·exact ⟨[49, 46, 50, 46, 51, 46, 53], rfl, by decide, HB.out _⟩
 ·exact ⟨[50, 46, 57, 57, 57, 46, 49], rfl, by decide, HB.out _⟩
 ·exact ⟨[50, 46, 57, 57, 57, 46, 50], rfl, by decide, HB.out _⟩
 ·exact ⟨[49, 46, 50, 46, 51], rfl, by decide, HB.out _⟩
 ·exact ⟨anyP, rfl, by decide, HB.out _⟩
theorem info_map2 : (Tryz.prog.info? 49).map (fun i => (i.zero, i.size, i.bytes)) = some (some (.agg #[.string ⟨#[]⟩, .string ⟨#[]⟩]), 2, 32) := by kernel_rfl
theorem und_maps : Tryz.prog.underlying 40 = some (.slice 49) := by kernel_rfl
theorem src_map (w : World) (x y : B) : SrcV (w.alloc (.cells #[.string (bstr x), .string (bstr y)] 49)) 2 (.slice (some ⟨w.heap.size, 0, none⟩) 1 1) 1 ([(x, y)].flatMap encP) := src_new encP_ok (heap_alloc_new _ _)
theorem policies_any (W0 : World) (v : Value) (zs : List Int) (w : World) (g n : Nat) (h : Deck W0 v zs w g) (hn : n <= 1000) :
  Calls Tryz.prog 22 #[.pointer (some ⟨g, 0, none⟩), .int .i64 n] w fun e w' => ∃ (rv : Value) (out : List B), e = .returned rv /\ MSt 9 1 encS W0 v zs w g rv out w' /\ out.length <= n /\ ∀ p ∈ out, p.length <= 100 := by
 obtain ⟨i0, hi0, hz0, hz1, hz2⟩ := info_parts info_str;have hgl := h.lt;have hw0 := h.bel.size;have hnx := next_any W0 v zs w g ((n : Int) + 1) h (by omega) (by omega);go_enter Tryz.func22, Tryz.ntmps22;go_wp2_with fail
 refine hnx.mono ?_;rintro e w1 ⟨r, rfl, a1, b1, hD1, hg1⟩;have HS1 := Bx.mk (show MSt 9 1 encS W0 v zs w g (.slice none 0 0) [] w1 from ⟨Slc.Own.nil _ _, hD1, hg1⟩);clear hnx hD1 hg1 h;go_wp2_with fail
 go_loopw [5, 6] (fun hv i wr => ∃ (k : Int) (out : List B), 0 <= k /\ i = .int .i64 k /\ out.length + k <= n /\ Bx (MSt 9 1 encS W0 v zs w g hv out wr) /\ Bx (∀ p ∈ out, p.length <= 100)) (fun _ i _ => (intOf i).toNat)
 case atStart => exact ⟨r, [], a1, rfl, by simp; omega, HS1, ⟨fun p hp => by cases hp⟩⟩
 case round =>
  clear HS1;obtain ⟨k, out, hk, rfl, hlen, hS, hP⟩ := hrel;obtain ⟨av, cv, rfl, -⟩ := hS.out.own.rd.form;by_cases hlt : 0 < k
  ·have tk : decide (k > 0) = true := zT hlt;have tk2 : decide (0 < k) = true := zT hlt;have hwk : IntKind.i64.wrap (k - 1) = k - 1 := IntWalk.i64_in _ (by omega);obtain ⟨W2, hW2⟩ : ∃ W2, W2 = wr.alloc (.cells #[.int .i64 0, .int .i64 1, .int .i64 2, .int .i64 3, .int .i64 8] 3) := ⟨_, rfl⟩
   have hb2 : Below wr.heap.size wr W2 := by rw [hW2]; exact (Below.refl _ _).alloc (zR _) _
   have hq2 : W2.heap[wr.heap.size]? = some (.cells #[.int .i64 0, .int .i64 1, .int .i64 2, .int .i64 3, .int .i64 8] 3 (0, 0)) := by rw [hW2]; exact heap_alloc_new _ _
   have HS2 := Bx.mk (hS.out.below hb2);have hnx := next_any W0 v zs W2 g 5 HS2.out.dk (by omega) (by omega);have hsz : w.heap.size <= wr.heap.size := hS.out.gr.size;have HQ2 := Bx.mk hq2;clear hb2 hq2;go_upto_if 20 with fail
   rw [<- hW2];clear hW2;refine hnx.mono ?_;rintro e w3 ⟨r3, rfl, a3, b3, hD3, hg3⟩;clear hnx;have HS3 := Bx.mk (HS2.out.grow hg3 hD3 hgl);have hq3 := (hg3.block wr.heap.size (lt_of_some HQ2.out) (by simp only [ne_eq, zO]; omega)).trans HQ2.out;obtain ⟨m, rfl⟩ : ∃ m : Nat, r3 = (m : Int) := ⟨r3.toNat, by omega⟩
   obtain ⟨c, hc9, hx⟩ : ∃ c : Nat, c < 9 /\ w3.cell? ⟨wr.heap.size, m, none⟩ = some (.int .i64 (c : Int)) := by
    have hm5 : m = 0 \/ m = 1 \/ m = 2 \/ m = 3 \/ m = 4 := (by omega);rcases hm5 with rfl | rfl | rfl | rfl | rfl
    ·exact ⟨0, by omega, cell_of_row _ _ 0 _ _ _ hq3⟩
    ·exact ⟨1, by omega, cell_of_row _ _ 1 _ _ _ hq3⟩
    ·exact ⟨2, by omega, cell_of_row _ _ 2 _ _ _ hq3⟩
    ·exact ⟨3, by omega, cell_of_row _ _ 3 _ _ _ hq3⟩
    ·exact ⟨8, by omega, cell_of_row _ _ 4 _ _ _ hq3⟩
   have hm5 : m < 5 := by omega
   have hpl := policy_any w3 c hc9;clear hD3 hg3 hq3 HS2 HQ2 a3 b3;go_upto_if 20 with fail
   go_at_call 35;refine hpl.mono ?_;rintro e w4 ⟨p, rfl, hp, hb4⟩;clear hpl;have HS4 := Bx.mk (HS3.out.below hb4);have HS5 := Bx.mk (HS4.out.below ((Below.refl w4.heap.size w4).alloc (zR _) (.cells #[.string (bstr p)] 9)))
   have HP5 := Bx.mk (show ∀ q ∈ out ++ [p], q.length <= 100 from fun q hq => by
    rcases List.mem_append.1 hq with e | e
    ·exact hP.out q e
    ·rw [zS] at e; subst e; exact hp)
   have HSRC := Bx.mk (src_str w4 p);have hm1 : out.length + 1 <= maxLen := by unfold maxLen; omega
   have hm2 : (out.length + 1) * 16 <= 140737488355328 := by omega
   have hbz : w.heap.size <= (w4.alloc (.cells #[.string (bstr p)] 9)).heap.size := HS5.out.gr.size;clear hb4 hx HS3 hc9 hm5 hp;go_wp2_with (at_builtin; refine wpList_append_any rfl _ _ _ rfl w.heap.size 9 i0 _ 1 16 und_strs hi0 hz0 hz1 hz2 rfl (by decide) _ out.length (out.flatMap encS) rfl HS5.out.own _ 1 ([p].flatMap encS) rfl HSRC.out hm1 hm2 hbz ?_)
   intro v9 w9 hapd;have HS9 := Bx.mk (HS5.out.apd (m := [p]) hgl hw0 rfl rfl rfl rfl hapd);clear hapd hm1 hm2 hbz HS5 HS4;go_wp2_with fail
   go_roundw
   case rel => exact ⟨k - 1, out ++ [p], by omega, by go_num, by simp; omega, HS9, HP5⟩
   case measure => simp [intOf]; omega
  ·go_wp2_with fail
   go_ret;exact ⟨_, rfl, out, hS.out, by omega, hP.out⟩
theorem mappings_any (W0 : World) (v : Value) (zs : List Int) (w : World) (g n : Nat) (h : Deck W0 v zs w g) (hn : n <= 1000) :
  Calls Tryz.prog 25 #[.pointer (some ⟨g, 0, none⟩), .int .i64 n] w fun e w' => ∃ (rv : Value) (out : List (B × B)), e = .returned rv /\ MSt 49 2 encP W0 v zs w g rv out w' /\ out.length <= n + 1 /\ ∀ p ∈ out, p.1.length <= 100 /\ p.2.length <= 100 := by
 obtain ⟨i0, hi0, hz0, hz1, hz2⟩ := info_parts info_map2;have hgl := h.lt;have hw0 := h.bel.size;have hnx := next_any W0 v zs w g ((n : Int) + 1) h (by omega) (by omega);go_enter Tryz.func25, Tryz.ntmps25;go_wp2_with fail
 refine hnx.mono ?_;rintro e w1 ⟨r, rfl, a1, b1, hD1, hg1⟩;have HS1 := Bx.mk (show MSt 49 2 encP W0 v zs w g (.slice none 0 0) [] w1 from ⟨Slc.Own.nil _ _, hD1, hg1⟩);clear hnx hD1 hg1 h;go_wp2_with fail
 go_loopw [5, 6] (fun hv i wr => ∃ (k : Int) (out : List (B × B)), 0 <= k /\ i = .int .i64 k /\ out.length + k <= n /\ Bx (MSt 49 2 encP W0 v zs w g hv out wr) /\ Bx (∀ p ∈ out, p.1.length <= 100 /\ p.2.length <= 100)) (fun _ i _ => (intOf i).toNat)
 case atStart => exact ⟨r, [], a1, rfl, by simp; omega, HS1, ⟨fun p hp => by cases hp⟩⟩
 case round =>
  clear HS1;obtain ⟨k, out, hk, rfl, hlen, hS, hP⟩ := hrel;obtain ⟨av, cv, rfl, -⟩ := hS.out.own.rd.form;by_cases hlt : 0 < k
  ·have tk : decide (k > 0) = true := zT hlt;have tk2 : decide (0 < k) = true := zT hlt;have hwk : IntKind.i64.wrap (k - 1) = k - 1 := IntWalk.i64_in _ (by omega);have hnx := next_any W0 v zs wr g 4 hS.out.dk (by omega) (by omega);go_upto_if 20 with fail
   refine hnx.mono ?_;rintro e w3 ⟨r3, rfl, a3, b3, hD3, hg3⟩;clear hnx;have HS3 := Bx.mk (hS.out.grow hg3 hD3 hgl);obtain ⟨m, rfl⟩ : ∃ m : Nat, r3 = (m : Int) := ⟨r3.toNat, by omega⟩
   have hpl := policy_any w3 m (by omega);clear hD3 hg3 hS a3 b3;go_upto_if 20 with fail
   go_at_call 35;refine hpl.mono ?_;rintro e w4 ⟨p, rfl, hp, hb4⟩;clear hpl;have HS4 := Bx.mk (HS3.out.below hb4);have hnx := next_any W0 v zs w4 g 4 HS4.out.dk (by omega) (by omega);clear hb4 HS3;go_upto_if 20 with fail
   refine hnx.mono ?_;rintro e w5 ⟨r5, rfl, a5, b5, hD5, hg5⟩;clear hnx;have HS5 := Bx.mk (HS4.out.grow hg5 hD5 hgl);obtain ⟨m2, rfl⟩ : ∃ m : Nat, r5 = (m : Int) := ⟨r5.toNat, by omega⟩
   have hpl := policy_any w5 m2 (by omega);clear hD5 hg5 HS4 a5 b5;go_upto_if 20 with fail
   go_at_call 35;refine hpl.mono ?_;rintro e w6 ⟨p2, rfl, hp2, hb6⟩;clear hpl;have HS6 := Bx.mk (HS5.out.below hb6);have HS7 := Bx.mk (HS6.out.below ((Below.refl w6.heap.size w6).alloc (zR _) (.cells #[.string (bstr p), .string (bstr p2)] 49)))
   have HP7 := Bx.mk (show ∀ q ∈ out ++ [(p, p2)], q.1.length <= 100 /\ q.2.length <= 100 from fun q hq => by
    rcases List.mem_append.1 hq with e | e
    ·exact hP.out q e
    ·rw [zS] at e; subst e; exact ⟨hp, hp2⟩)
   have HSRC := Bx.mk (src_map w6 p p2);have hm1 : out.length + 1 <= maxLen := by unfold maxLen; omega
   have hm2 : (out.length + 1) * 32 <= 140737488355328 := by omega
   have hbz : w.heap.size <= (w6.alloc (.cells #[.string (bstr p), .string (bstr p2)] 49)).heap.size := HS7.out.gr.size;clear hb6 HS5 hp hp2;go_wp2_with (at_builtin; refine wpList_append_any rfl _ _ _ rfl w.heap.size 49 i0 _ 2 32 und_maps hi0 hz0 hz1 hz2 rfl (by decide) _ out.length (out.flatMap encP) rfl HS7.out.own _ 1 ([(p, p2)].flatMap encP) rfl HSRC.out hm1 hm2 hbz ?_)
   intro v9 w9 hapd;have HS9 := Bx.mk (HS7.out.apd (m := [(p, p2)]) hgl hw0 rfl rfl rfl rfl hapd);clear hapd hm1 hm2 hbz HS7 HS6;go_wp2_with fail
   go_roundw
   case rel => exact ⟨k - 1, out ++ [(p, p2)], by omega, by go_num, by simp; omega, HS9, HP7⟩
   case measure => simp [intOf]; omega
  ·have hnx := next_any W0 v zs wr g 12 hS.out.dk (by omega) (by omega);go_wp2_with fail
   refine hnx.mono ?_;rintro e w3 ⟨r3, rfl, a3, b3, hD3, hg3⟩;clear hnx;have HS3 := Bx.mk (hS.out.grow hg3 hD3 hgl);clear hD3 hg3;by_cases h1 : r3 = 1
   ·have t1 : (r3 == 1) = true := by simp [h1]
    have hpl := policy_any w3 0 (by omega);clear a3 b3;go_wp2_with fail
    go_at_call 35;refine hpl.mono ?_;rintro e w6 ⟨p2, rfl, hp2, hb6⟩;clear hpl;have HS6 := Bx.mk (HS3.out.below hb6);have HS7 := Bx.mk (HS6.out.below ((Below.refl w6.heap.size w6).alloc (zR _) (.cells #[.string (bstr anyP), .string (bstr p2)] 49)))
    have HP7 := Bx.mk (show ∀ q ∈ out ++ [(anyP, p2)], q.1.length <= 100 /\ q.2.length <= 100 from fun q hq => by
     rcases List.mem_append.1 hq with e | e
     ·exact hP.out q e
     ·rw [zS] at e; subst e; exact ⟨(by decide : anyP.length <= 100), hp2⟩)
    have HSRC := Bx.mk (src_map w6 anyP p2);have hm1 : out.length + 1 <= maxLen := (by unfold maxLen; omega);have hm2 : (out.length + 1) * 32 <= 140737488355328 := (by omega);have hbz : w.heap.size <= (w6.alloc (.cells #[.string (bstr anyP), .string (bstr p2)] 49)).heap.size := HS7.out.gr.size;clear hb6 HS3 hp2;go_wp2_with (at_builtin; refine wpList_append_any rfl _ _ _ rfl w.heap.size 49 i0 _ 2 32 und_maps hi0 hz0 hz1 hz2 rfl (by decide) _ out.length (out.flatMap encP) rfl HS7.out.own _ 1 ([(anyP, p2)].flatMap encP) rfl HSRC.out hm1 hm2 hbz ?_)
    intro v9 w9 hapd;have HS9 := Bx.mk (HS7.out.apd (m := [(anyP, p2)]) hgl hw0 rfl rfl rfl rfl hapd);clear hapd hm1 hm2 hbz HS7 HS6;go_wp2_with fail
    go_ret;exact ⟨_, out ++ [(anyP, p2)], rfl, HS9.out, by simp; omega, HP7.out⟩
   ·have t1 : (r3 == 1) = false := by simp [h1]
    go_wp2_with fail
    go_ret;exact ⟨_, out, rfl, HS3.out, by omega, hP.out⟩
end Go.Proofs.YtmagjdocondmhaaGreat.Tr
namespace Go.Proofs.YtmagjdocondmhaaGreat.Tr.Gr
open Go Go.RowKit Slc St Mp Tr Rg
structure SB (G : List (List Vx)) (n c : Nat) : Prop where
 len : G.length <= n + 1
 lev : ∀ l ∈ G, l.length <= c /\ ∀ v ∈ l, v.ex.length <= 5
 lst : (allJ G[G.length - 1]! (G[G.length - 1]!).length).length <= c
theorem SB.at_ {G : List (List Vx)} {n c : Nat} (h : SB G n c) (k : Nat) : (G[k]!).length <= c /\ ∀ v ∈ G[k]!, v.ex.length <= 5 := by
 by_cases hk : k < G.length
 ·rw [getElem!_pos G k hk]; exact h.lev _ (zM hk)
 ·rw [getElem!_neg G k hk]; exact ⟨Nat.zero_le _, fun v hv => by cases hv⟩
theorem SB.mono {G : List (List Vx)} {n c n' c' : Nat} (h : SB G n c) (hn : n <= n') (hc : c <= c') : SB G n' c' := ⟨by have := h.len; omega, fun l hl => ⟨by have := (h.lev l hl).1; omega, (h.lev l hl).2⟩, by have := h.lst; omega⟩
theorem SB.nil (n c : Nat) : SB [] n c := ⟨Nat.zero_le _, (fun l hl => by cases hl), Nat.zero_le _⟩
theorem SB.root : SB rootG 0 1 := ⟨by show 1 <= 1; omega, (fun l hl => by
 unfold rootG at hl;rw [zS] at hl;subst hl;refine ⟨by show 1 <= 1; omega, fun v hv => ?_⟩;rw [zS] at hv;subst hv
 show 1 <= 5
 omega), by show 1 <= 1; omega⟩
theorem allJ_flat (l : List Vx) : ∀ k, k <= l.length -> allJ l k = (l.take k).flatMap (·.ex)
 | 0, _ => rfl
 | k + 1, hk => by
  have e : allJ l (k + 1) = allJ l k ++ (l[k]!).ex := by
   unfold allJ;rw [List.range_succ, List.flatMap_append]; simp
  rw [e, allJ_flat l k (by omega), zA (by omega), List.flatMap_append, getElem!_pos l k (by omega)];simp
theorem allJ_sum (l : List Vx) : (allJ l l.length).length = (l.map fun v => v.ex.length).sum := by
 rw [allJ_flat l l.length (zR _), List.take_length, List.length_flatMap]
theorem sum_le (S : List B) : ∀ (l : List Vx), (∀ v ∈ l, v.ex.length <= 1 \/ (v.pol ∈ S /\ v.ex.length <= 5)) -> (l.map fun v => v.ex.length).sum <= l.length + 4 * (l.filter fun v => decide (v.pol ∈ S)).length
 | [], _ => by simp
 | v :: l, h => by
  have ih := sum_le S l fun u hu => h u (List.mem_cons_of_mem _ hu)
  have hv := h v List.mem_cons_self;rw [List.map_cons, List.sum_cons, List.filter_cons, List.length_cons];by_cases q : v.pol ∈ S
  ·rw [zT q, if_pos rfl, List.length_cons];have : v.ex.length <= 5 := by rcases hv with q | q; omega; exact q.2
   omega
  ·rw [zF q];have : v.ex.length <= 1 := by rcases hv with q' | q'; exact q'; exact absurd q'.1 q
   simp only [Bool.false_eq_true, if_false]
   omega
theorem allJ_le {l : List Vx} {S : List B} (ho : OrdP l) (h : ∀ v ∈ l, v.ex.length <= 1 \/ (v.pol ∈ S /\ v.ex.length <= 5)) : (allJ l l.length).length <= l.length + 4 * S.length := by
 have h1 := sum_le S l h;rw [<- allJ_sum] at h1
 have h2 := nodup_le ((l.filter fun v => decide (v.pol ∈ S)).map (·.pol)) S (by
  unfold List.Nodup;rw [List.pairwise_map]
  exact (ho.filter _).imp fun {a b} q e => by rw [e] at q; exact ltB_irr _ q) (fun x hx => by
  obtain ⟨v, hv, rfl⟩ := List.mem_map.1 hx
  exact of_decide_eq_true (List.mem_filter.1 hv).2)
 rw [List.length_map] at h2;omega
def One (G : List (List Vx)) : Prop := ∀ v ∈ G[G.length - 1]!, v.ex.length <= 1
theorem SB.prune {g : List (List Vx)} {n c : Nat} {S : List B} (hv : gvalidB (pruneG g) = true) (hl : g.length <= n + 1) (h : ∀ (k : Nat), (g[k]!).length + 4 * S.length <= c /\ ∀ v ∈ g[k]!, v.ex.length <= 5) (ho : ∀ v ∈ g[g.length - 1]!, v.ex.length <= 1 \/ v.pol ∈ S) : SB (pruneG g) n c /\ (S = [] -> One (pruneG g)) := by
 rcases pruneG_sub g with e | ⟨e1, e2⟩
 ·rw [e];exact ⟨SB.nil _ _, fun _ v hv => by cases hv⟩
 ·have hx : ∀ v ∈ (pruneG g)[(pruneG g).length - 1]!, v.ex.length <= 1 \/ (v.pol ∈ S /\ v.ex.length <= 5) := fun v hv' => by
   rw [e1] at hv';obtain ⟨u, hu, p1, p2⟩ := (e2 (g.length - 1)).2 v hv';rw [p1, p2];rcases ho u hu with q | q
   ·exact .inl q
   ·exact .inr ⟨q, (h _).2 u hu⟩
  refine ⟨⟨by omega, fun l hm => ?_, ?_⟩, fun hS v hv' => ?_⟩
  ·obtain ⟨k, hk, rfl⟩ := List.getElem_of_mem hm;have hs := e2 k;rw [getElem!_pos _ k hk] at hs;refine ⟨by have := hs.1; have := (h k).1; omega, fun v hv => ?_⟩;obtain ⟨u, hu, -, e⟩ := hs.2 v hv;rw [e]; exact (h k).2 u hu
  ·have h1 := allJ_le ((valid_pv hv).ord ((pruneG g).length - 1)) hx;have h2 := (e2 ((pruneG g).length - 1)).1;have h3 := (h ((pruneG g).length - 1)).1;omega
  ·rcases hx v hv' with q | q
   ·exact q
   ·rw [hS] at q; cases q.1
theorem SB.enter {G : List (List Vx)} {n c : Nat} (h : SB G n c) (hg : gvalidB G = true) (ps : List B) (hp : ps.length <= 4) (cnt : Bool) : SB (genterP G ps cnt).1 (n + 1) (c + 4) /\ One (genterP G ps cnt).1 := by
 have hv := enter_valid hg ps cnt;unfold genterP at hv |-;rw [hg] at hv |-;simp only [if_true] at hv |-
 split
 ·exact ⟨SB.nil _ _, fun v hv => by cases hv⟩
 ·rename_i h0
  rw [if_neg h0] at hv
  have hend : (G ++ [levP G[G.length - 1]! ps cnt])[(G ++ [levP G[G.length - 1]! ps cnt]).length - 1]! = levP G[G.length - 1]! ps cnt := by
   rw [List.length_append, List.length_singleton, Nat.add_sub_cancel]; exact app_end
  have hlev : ∀ v ∈ levP G[G.length - 1]! ps cnt, v.ex.length <= 1 := fun v hv' => by
   unfold levP at hv';obtain ⟨p, -, rfl⟩ := List.mem_map.1 hv';exact zR 1
  have := SB.prune (S := []) (n := n + 1) (c := c + 4) hv (by rw [List.length_append, List.length_singleton]; have := h.len; omega) (fun k => ?_) (by rw [hend]; exact fun v hv' => .inl (hlev v hv'))
  ·exact ⟨this.1, this.2 rfl⟩
  ·show _ + 4 * 0 <= c + 4 /\ _
   by_cases hk : k < G.length
   ·rw [app_lo hk];have := h.at_ k;exact ⟨by omega, this.2⟩
   ·by_cases hk2 : k = G.length
    ·subst hk2;rw [app_end];have h1 := keyL_len G[G.length - 1]! ps cnt;have h2 := h.lst;refine ⟨?_, fun v hv' => by have := hlev v hv'; omega⟩;unfold levP;rw [List.length_map];omega
    ·rw [getElem!_neg _ k (by rw [List.length_append, List.length_singleton]; omega)];exact ⟨by show 0 + 4 * 0 <= c + 4; omega, fun v hv' => by cases hv'⟩
theorem SB.map {G : List (List Vx)} {n c : Nat} (h : SB G n c) (hg : gvalidB G = true) (h1 : One G) (ms : List (B × B)) (hm : ms.length <= 5) (ok : Bool) : SB (gmapP G ms ok).1 n (c + 25) := by
 have hv := map_valid hg ms ok;unfold gmapP at hv |-;split
 ·rename_i h2
  rw [if_pos h2] at hv;split
  ·exact SB.nil _ _
  ·rename_i h0
   rw [if_neg h0] at hv;have ho := (valid_pv hg).ord (G.length - 1);have hs := srcL_len ms
   have hmem : ∀ v ∈ gmapL G ms ok, (v.ex.length <= 1 \/ v.pol ∈ srcL ms) /\ v.ex.length <= 5 := fun v hv' => by
    unfold gmapL at hv';split at hv'
    ·obtain ⟨m1, m2⟩ := mapL_exx (srcL ms) ho hv';by_cases q : v.pol ∈ srcL ms
     ·exact ⟨.inr q, by rw [m1 q]; have := subL_le ms v.pol; omega⟩
     ·have := h1 v (m2 q);exact ⟨.inl this, by omega⟩
    ·have := h1 v (List.mem_filter.1 hv').1;exact ⟨.inl this, by omega⟩
   refine (SB.prune (S := srcL ms) hv (by rw [zL]; exact h.len) (fun k => ?_) ?_).1
   ·by_cases hk : k = G.length - 1
    ·rw [set_at2 (by omega), if_pos hk];refine ⟨?_, fun v hv' => (hmem v hv').2⟩;have hL := (h.at_ (G.length - 1)).1
     have : (gmapL G ms ok).length <= (G[G.length - 1]!).length + 5 := by
      unfold gmapL;split
      ·have := mapL_len ms (fndP G[G.length - 1]! anyP) (fndP G[G.length - 2]! anyP) (srcL ms) G[G.length - 1]!;omega
      ·exact Nat.le_trans (List.length_filter_le _ _) (by omega)
     omega
    ·rw [set_at2 (by omega), if_neg hk];have := h.at_ k;exact ⟨by omega, this.2⟩
   ·rw [zL, set_at2 (by omega), if_pos rfl];exact fun v hv' => (hmem v hv').1
 ·exact SB.nil _ _
structure LI (t : List Nd) (G : List (List Vx)) (k c : Nat) : Prop where
 V : VT t (k : Int)
 val : gvalidB G = true
 lk : LK t G k
 ex : EX t G
 sb : SB G k c
theorem LI.root : LI [⟨0, -1, anyP, [anyP]⟩] rootG 0 1 := by
 have hV : VT [⟨0, -1, anyP, [anyP]⟩] ((0 : Nat) : Int) := (valid_iff _ _).1 (by kernel_rfl);refine ⟨hV, by kernel_rfl, .inr ⟨by simp, by unfold rootG; simp, ⟨rfl, fun p hp => ?_, fun i hi _ => ?_, fun i hi _ hp => ?_, fun i hi _ p hp => ?_⟩⟩, fun n hn v hv hp => ?_, SB.root⟩
 ·obtain ⟨v, hv, rfl⟩ := hp;have hv' : v ∈ [(⟨anyP, [anyP], []⟩ : Vx)] := hv;rw [zS] at hv';subst hv';exact ⟨by simp, trivial, rfl⟩
 ·have h0 : i = 0 := by simp at hi; omega
  subst h0;exact ⟨⟨anyP, [anyP], []⟩, List.mem_singleton.2 rfl, rfl⟩
 ·have h0 : i = 0 := by simp at hi; omega
  subst h0;have hp' : (0 : Int) <= -1 := hp;omega
 ·have h0 : i = 0 := by simp at hi; omega
  subst h0;obtain ⟨v, hv, -⟩ := hp;have hv' : v ∈ ([] : List Vx) := hv
  cases hv'
 ·rw [zS] at hn;subst hn;have hv' : v ∈ [(⟨anyP, [anyP], []⟩ : Vx)] := hv;rw [zS] at hv';subst hv';rfl
theorem LI.mono {t : List Nd} {G : List (List Vx)} {k c c' : Nat} (h : LI t G k c) (hc : c <= c') : LI t G k c' := ⟨h.V, h.val, h.lk, h.ex, h.sb.mono (zR _) hc⟩
theorem LI.enter {t : List Nd} {G : List (List Vx)} {k c : Nat} (h : LI t G k c) (ps : List B) (hp : ps.length <= 4) (cnt : Bool) : (genterP G ps cnt).2 = 0 /\ ((enterP t ((k + 1 : Nat) : Int) ps cnt).2 = 2 \/ ((enterP t ((k + 1 : Nat) : Int) ps cnt).2 = 0 /\ LI (enterP t ((k + 1 : Nat) : Int) ps cnt).1 (genterP G ps cnt).1 (k + 1) (c + 4) /\ One (genterP G ps cnt).1)) := by
 have V' : VT t (((k + 1 : Nat) : Int) - 1) := by rw [show ((k + 1 : Nat) : Int) - 1 = (k : Int) by omega]; exact h.V
 have hv := (valid_iff t (((k + 1 : Nat) : Int) - 1)).2 V'
 have e0 : (genterP G ps cnt).2 = 0 := by
  unfold genterP;rw [h.val, if_pos rfl];split <;> rfl
 refine ⟨e0, ?_⟩;by_cases hl : t.length + (moreE t ((k + 1 : Nat) : Int) ps cnt).length <= 2048
 ·right
  obtain ⟨he, hV, -⟩ := enter_stay V' (by omega) ps cnt hl;obtain ⟨a, b, -⟩ := lk_enter h.V h.lk h.val h.ex ps cnt hl;obtain ⟨s1, s2⟩ := h.sb.enter h.val ps hp cnt;refine ⟨by rw [he], ⟨by rw [he]; exact hV, enter_valid h.val ps cnt, a, b, s1⟩, s2⟩
 ·left
  unfold enterP;rw [zF (by omega), hv];simp only [Bool.not_true, Bool.or_self, Bool.false_eq_true, if_false]
  rw [if_pos (by unfold moreE allE at hl; omega)]
theorem LI.map {t : List Nd} {G : List (List Vx)} {k c : Nat} (h : LI t G (k + 1) c) (h1 : One G) (ms : List (B × B)) (hm : ms.length <= 5) (ok : Bool) : (gmapP G ms ok).2 = 0 /\ ((mapP t ((k + 1 : Nat) : Int) ms ok).2 = 2 \/ ((mapP t ((k + 1 : Nat) : Int) ms ok).2 = 0 /\ LI (mapP t ((k + 1 : Nat) : Int) ms ok).1 (gmapP G ms ok).1 (k + 1) (c + 25))) := by
 have hv := (valid_iff t ((k + 1 : Nat) : Int)).2 h.V
 have hlen : G.length ≠ 1 := by
  rcases h.lk with ⟨-, rfl⟩ | ⟨-, -, hR⟩
  ·simp
  ·have := hR.len; omega
 have e0 : (gmapP G ms ok).2 = 0 := by
  unfold gmapP;rw [h.val, zF hlen];simp only [Bool.not_false, Bool.and_true, if_true]
  split <;> rfl
 refine ⟨e0, ?_⟩;by_cases hl : ok = true -> t.length + (mapMore t ((k + 1 : Nat) : Int) ms).length <= 2048
 ·right
  obtain ⟨a, b, -⟩ := lk_map h.V h.lk h.val h.ex ms ok hl;have s1 := h.sb.map h.val h1 ms hm ok
  have e1 : (mapP t ((k + 1 : Nat) : Int) ms ok).2 = 0 /\ VT (mapP t ((k + 1 : Nat) : Int) ms ok).1 ((k + 1 : Nat) : Int) := by
   cases ok with
   | false => obtain ⟨x, y, -⟩ := map_stay_no h.V (by omega) ms; rw [x]; exact ⟨rfl, y⟩
   | true => obtain ⟨x, y, -⟩ := map_stay h.V (by omega) ms (hl rfl); rw [x]; exact ⟨rfl, y⟩
  exact ⟨e1.1, e1.2, map_valid h.val ms ok, a, b, s1⟩
 ·left
  cases ok with
  | false => exact absurd (fun h => by cases h) hl
  | true =>
   unfold mapP;rw [zF (by omega), hv];simp only [Bool.not_true, Bool.or_self, Bool.false_eq_true, if_false]
   rw [if_pos (by simp only [forall_const] at hl; omega)]
theorem LI.pol {t : List Nd} {G : List (List Vx)} {k c : Nat} (h : LI t G (k + 1) c) : polP t ((k + 1 : Nat) : Int) = gpolP G := lk_pol h.V h.lk h.val
theorem LK.zero {t : List Nd} {G : List (List Vx)} {k : Nat} (h : LK t G k) : t.length = 0 ↔ G.length = 0 := by
 rw [List.length_eq_zero_iff, List.length_eq_zero_iff]; exact h.empty
theorem polP_len {t : List Nd} {E : Int} (hl : t.length <= 2048) : (polP t E).length <= 2048 := by
 unfold polP;split
 ·simp
 ·have h1 := setB_length (polK t E t.length)
  have h2 : (polK t E t.length).length <= t.length := by
   unfold polK;rw [List.length_map];exact Nat.le_trans (List.length_filter_le _ _) (by simp)
  omega
theorem LI.lens {t : List Nd} {l : List Lv} {k c : Nat} (h : LI t (gxs l) k c) : l.length <= k + 1 /\ ∀ L ∈ l, L.vs.length <= c /\ (allJ (vxs L.vs) L.vs.length).length <= 5 * c := by
 refine ⟨by have := h.sb.len; rwa [gxs_len] at this, fun L hL => ?_⟩;have h1 := h.sb.lev (vxs L.vs) (List.mem_map.2 ⟨L, hL, rfl⟩);rw [vxs_len] at h1
 have h2 : (allJ (vxs L.vs) (vxs L.vs).length).length <= 5 * (vxs L.vs).length := by
  rw [allJ_sum]
  have key : ∀ (m : List Vx), (∀ v ∈ m, v.ex.length <= 5) -> (m.map fun v => v.ex.length).sum <= 5 * m.length := by
   intro m
   induction m with
   | nil => intro _; simp
   | cons v m ih =>
    intro hm;have := ih fun u hu => hm u (List.mem_cons_of_mem _ hu)
    have := hm v List.mem_cons_self;rw [List.map_cons, List.sum_cons, List.length_cons];omega
  exact key _ h1.2
 rw [vxs_len] at h2;exact ⟨h1.1, by omega⟩
theorem LI.tlen {t : List Nd} {G : List (List Vx)} {k c : Nat} (h : LI t G k c) : t.length <= 2048 := h.V.len
attribute [local go_sem] Oper.semAt_some
theorem gpol2_any (w : World) (v : Value) (g : List Lv) (h : GQ w v g) (hn : g.length <= 40) (hln : ∀ L ∈ g, L.vs.length <= 2300) :
  Calls Tryz.prog 31 #[v] w fun e w' => ∃ v', e = .returned v' /\ Slc.Own w' w.heap.size 9 1 encS v' (gpolP (gxs g)) /\ Below w.heap.size w w' := by
 have hval := gvalid_q w v g h (by omega) (fun L hL => by have := hln L hL; omega);obtain ⟨ad, c, rfl, -⟩ := h.rd.form;have HQ := Bx.mk h;have HLN := Bx.mk hln;obtain ⟨N, hN⟩ : ∃ N, N = g.length := ⟨_, rfl⟩
 have HN := Bx.mk hN;obtain ⟨R, hR⟩ : ∃ R, R = gpolP (gxs g) := ⟨_, rfl⟩
 rw [<- hR];unfold gpolP at hR;obtain ⟨V, hV⟩ : ∃ V, V = gvalidB (gxs g) := ⟨_, rfl⟩
 rw [<- hV] at hval hR;have HV := Bx.mk hV;have HRR := Bx.mk hR;rw [<- hN] at hn hval |-;clear h hln hN hV hR;go_enter Tryz.func31, Tryz.ntmps31;go_wp2_with fail
 go_at_call 15;refine hval.mono ?_;rintro e w1 ⟨rfl, hb1⟩;clear hval
 cases V with
 | false =>
  have HF := Bx.mk (show R = [] by rw [HRR.out]; rfl);go_wp2_with fail
  go_ret
  exact ⟨_, rfl, by rw [HF.out]; exact Slc.Own.nil _ _, hb1⟩
 | true =>
  have HGL := Bx.mk (HQ.out.gl HV.out.symm (fun L hL => by have := HLN.out L hL; omega));have HRF := Bx.mk (show R = setB (polL (gxs g) N) by rw [HRR.out, if_pos rfl, gxs_len, HN.out]);have HB1 := Bx.mk hb1;have hmm := @run_makeMap Tryz.prog;obtain ⟨W3, hW3⟩ : ∃ W3, W3 = w1.alloc (.map #[] 0) := ⟨_, rfl⟩
  obtain ⟨fm, hfm⟩ : ∃ be, be = w1.heap.size := ⟨_, rfl⟩
  have HFM := Bx.mk (show w.heap.size <= fm by rw [hfm]; exact hb1.size);have HM3 := Bx.mk (show ∃ q, q <= 1 * 2300 /\ OwnF W3 kS rdB edB fm q (exF (polL (gxs g) 1)) by rw [polL_one, exF_nil]; exact ⟨0, by omega, by rw [hW3, hfm]; exact OwnF.made w1 kS rdB edB⟩);have HBA := Bx.mk (show Below w.heap.size w W3 by rw [hW3]; exact hb1.alloc hb1.size _);clear hb1;go_upto_region 4 with fail
  rw [<- hW3, <- hfm];clear hW3 hfm hmm;go_wp2_with fail
  go_loopw [4] (fun i wr => ∃ k : Nat, 1 <= k /\ (k <= N \/ k = 1) /\ i = .int .i64 k /\ Bx (∃ q, q <= k * 2300 /\ OwnF wr kS rdB edB fm q (exF (polL (gxs g) k))) /\ Bx (Below w.heap.size w wr)) (fun i _ => N - (intOf i).toNat)
  case atStart => exact ⟨1, by omega, .inr rfl, rfl, HM3, HBA⟩
  case round =>
   clear HM3 HBA;obtain ⟨k, hk1, hk, rfl, hO, hB⟩ := hrel;by_cases hlt : k < N
   ·have hkl : k < g.length := by rw [<- HN.out]; exact hlt
    have hkl1 : k - 1 < g.length := (by omega);have hgb := HGL.out.below hB.out;obtain ⟨b, o, rfl, -, c0⟩ := HQ.out.at1 wr hB.out k hkl;obtain ⟨b', o', hbe, -, c1⟩ := HQ.out.at1 wr hB.out (k - 1) hkl1;simp only [zO, Addr.mk.injEq, and_true] at hbe
    obtain ⟨rfl, rfl⟩ := hbe;have HVL := Bx.mk (hgb.lv _ (zM hkl));have HVA := Bx.mk (hgb.lv _ (zM hkl1));have hll := HLN.out _ (zM hkl);have hla := HLN.out _ (zM hkl1);have HXL := Bx.mk (gxs_at g k hkl);have HXA := Bx.mk (gxs_at g (k - 1) hkl1);obtain ⟨L, hL⟩ : ∃ L, L = g[k]'hkl := ⟨_, rfl⟩
    obtain ⟨A, hA⟩ : ∃ A, A = g[k - 1]'hkl1 := ⟨_, rfl⟩
    rw [<- hL] at c0 HVL hll HXL;have HLG := Bx.mk (show L ∈ g by rw [hL]; exact zM hkl);rw [<- hA] at c1 HVA hla HXA;obtain ⟨lad, lc, hls, -⟩ := HVL.out.rd.form;obtain ⟨aad, ac, has, -⟩ := HVA.out.rd.form;have HLS := Bx.mk hls;rw [hls] at c0 HVL;rw [has] at c1 HVA;have hfd := find_any wr (.slice aad A.vs.length ac) A.vs HVA.out (by omega) anyP;rw [anyP_str] at hfd;obtain ⟨ST, hST⟩ : ∃ ST, ST = fndP (vxs A.vs) anyP := ⟨_, rfl⟩
    have HST := Bx.mk (show fndP (gxs g)[k - 1]! anyP = ST by rw [HXA.out, hST]);rw [<- hST] at hfd;obtain ⟨M, hM⟩ : ∃ M, M = L.vs.length := ⟨_, rfl⟩
    obtain ⟨AN, hAN⟩ : ∃ M, M = A.vs.length := ⟨_, rfl⟩
    have HM := Bx.mk hM;rw [<- hM] at c0 hll;rw [<- hAN] at c1 hla hfd;clear hL hA hls has hST hM hAN hgb hkl hkl1 HVA;go_wp2_with fail
    go_at_call 50;refine hfd.mono ?_;rintro e w3 ⟨rfl, hb3⟩;have HB3 := Bx.mk hb3;have c0' := (hb3.cell (p := ⟨b, o + k, none⟩) (World.block_lt_of_cell? wr _ c0)).trans c0;have HVL3 := Bx.mk (HVL.out.below hb3);have HBW3 := Bx.mk (hB.out.trans (hb3.mono hB.out.size))
    have HO3 := Bx.mk (show ∃ q, q <= k * 2300 + 0 /\ OwnF w3 kS rdB edB fm q (exF (polM (gxs g) k 0)) by
     rw [polM_zero];obtain ⟨q, h1, h2⟩ := hO.out
     exact ⟨q, by omega, h2.below hb3⟩)
    clear hfd c0 c1 hb3 HVL hO hB;go_wp2_with fail
    clear c0';go_loopw [30] (fun i wr => ∃ j : Nat, j <= M /\ i = .int .i64 j /\ Bx (∃ q, q <= k * 2300 + j /\ OwnF wr kS rdB edB fm q (exF (polM (gxs g) k j))) /\ Bx (Below w3.heap.size w3 wr \/ True) /\ Bx (Below w.heap.size w wr)) (fun i _ => M - (intOf i).toNat)
    case atStart => exact ⟨0, by omega, rfl, HO3, ⟨.inr trivial⟩, HBW3⟩
    case round =>
     clear HO3;obtain ⟨j, hj, rfl, hO, -, hB⟩ := hrel;by_cases hltj : j < M
     ·have hjl : j < L.vs.length := by rw [<- HM.out]; exact hltj
      obtain ⟨bv, ov, rfl, -, c0, c1, c2⟩ := VL.at3 (HGL.out.lv _ HLG.out |> fun q => by rw [HLS.out] at q; exact q) wr hB.out j hjl;have HXA2 := Bx.mk (((HGL.out.lv _ HLG.out).at_ _ (zM hjl)));have HXN := Bx.mk (vxs_at L.vs j hjl);obtain ⟨x, hx⟩ : ∃ x, x = L.vs[j]'hjl := ⟨_, rfl⟩
      rw [<- hx] at c0 c1 c2 HXA2 HXN;simp only [Sl.val] at c1 c2
      have HPS := Bx.mk (polM_succ (gxs g) k j (by rw [HXL.out, vxs_len, <- HM.out]; exact hltj));obtain ⟨R1, hR1⟩ : ∃ R1, R1 = polV (gxs g) k x.n := ⟨_, rfl⟩
      have HPS2 := Bx.mk (show polM (gxs g) k (j + 1) = polM (gxs g) k j ++ if R1 then [x.n.pol] else [] by rw [HPS.out, HXL.out, HXN.out, hR1]);have HRV := Bx.mk (show R1 = ((decide (0 <= ST) && decide (ST ∈ x.n.par)) && (!specV x.n || decide (k = N - 1))) by rw [hR1]; unfold polV; rw [HST.out, gxs_len, HN.out]);have HPL := Bx.mk HXA2.out.2.2.2.1;have HPAL := Bx.mk HXA2.out.2.2.2.2.1;clear hx hjl hR1 HPS;obtain ⟨W4, hW4⟩ : ∃ W4, W4 = wr.alloc (.cells #[.string (bstr x.n.pol), .slice x.u.ad x.u.n x.u.c, .slice x.q.ad x.q.n x.q.c] 65) := ⟨_, rfl⟩
      obtain ⟨q7, hq7⟩ : ∃ q, q = wr.heap.size := ⟨_, rfl⟩
      have HR4 := Bx.mk (show W4.heap[q7]? = some (.cells #[.string (bstr x.n.pol), .slice x.u.ad x.u.n x.u.c, .slice x.q.ad x.q.n x.q.c] 65 (0, 0)) by rw [hW4, hq7]; exact heap_alloc_new _ _);have hba : Below wr.heap.size wr W4 := (by rw [hW4]; exact (Below.refl _ _).alloc (zR _) _);have HB4 := Bx.mk (hB.out.trans (hba.mono hB.out.size));have HO4 := Bx.mk (show ∃ q, q <= k * 2300 + j /\ OwnF W4 kS rdB edB fm q (exF (polM (gxs g) k j)) by obtain ⟨q, h1, h2⟩ := hO.out; exact ⟨q, h1, h2.below hba⟩);have hci := containsI_any W4 x.q.val x.n.par ST (Ri.below HXA2.out.2.1 HB4.out) (by have := HPAL.out; omega);simp only [Sl.val] at hci
      have HSP := Bx.mk (gspec_any x W4);clear hO hB hba;go_upto_region 11 with fail
      rw [<- hW4, <- hq7];clear hW4 hq7 c0 c1 c2;go_cut [53] (fun cc wx => cc = .bool R1 /\ Below W4.heap.size W4 wx)
      case first =>
       have hr4 := HR4.out;have m0 := cell_of_row _ _ 0 _ _ _ hr4;have m1 := cell_of_row _ _ 1 _ _ _ hr4;have m2 := cell_of_row _ _ 2 _ _ _ hr4;simp only [List.getElem?_toArray, List.getElem?_cons_zero, List.getElem?_cons_succ] at m0 m1 m2
       have hsp := HSP.out;unfold verV at hsp;simp only [Sl.val] at hsp
       have hRw := HRV.out;obtain ⟨tc, htc⟩ : ∃ t, t = decide (ST ∈ x.n.par) := ⟨_, rfl⟩
       obtain ⟨ts, hts⟩ : ∃ t, t = specV x.n := ⟨_, rfl⟩
       rw [<- htc] at hci hRw;rw [<- hts] at hsp hRw;clear hr4 htc hts HRV;by_cases hst : 0 <= ST
       ·have t35 : decide (ST >= 0) = true := zT hst;rw [zT hst, Bool.true_and] at hRw;have HH := Bx.mk hRw;clear hRw;go_wp2_with fail
        go_at_call 78;refine hci.mono ?_;rintro e w5 ⟨rfl, rfl⟩;clear hci
        cases tc with
        | false =>
         go_wp2_with fail
         go_meet
         exact ⟨by rw [HH.out]; rfl, Below.refl _ _⟩
        | true =>
         go_wp2_with fail
         go_at_call 41;refine hsp.mono ?_;rintro e w6 ⟨rfl, hb6⟩;clear hsp m0 m1 m2
         cases ts with
         | false =>
          go_wp2_with fail
          go_meet
          exact ⟨by rw [HH.out]; rfl, hb6⟩
         | true =>
          by_cases hkn : k = N - 1
          ·have tk : ((k : Int) == (N : Int) - 1) = true := by simp; omega
           have HH3 := Bx.mk (show R1 = true by rw [HH.out, zT hkn]; rfl);clear hkn;go_wp2_with fail
           go_meet;exact ⟨by rw [HH3.out], hb6⟩
          ·have tk : ((k : Int) == (N : Int) - 1) = false := by simp; omega
           have HH3 := Bx.mk (show R1 = false by rw [HH.out, zF hkn]; rfl);go_wp2_with fail
           go_meet;exact ⟨by rw [HH3.out], hb6⟩
       ·have t35 : decide (ST >= 0) = false := zF hst;have HH := Bx.mk (show R1 = false by rw [hRw, zF hst]; rfl);clear hRw hci hsp;go_wp2_with fail
        go_meet;exact ⟨by rw [HH.out], Below.refl _ _⟩
      case rest =>
      obtain ⟨rfl, hbx⟩ := hcut;have HBX := Bx.mk (HB4.out.trans (hbx.mono HB4.out.size));obtain ⟨q, hq, hop⟩ := HO4.out;have hr5 := (hbx.block q7 (lt_of_some HR4.out)).trans HR4.out;have m0 := cell_of_row _ _ 0 _ _ _ hr5;simp only [List.getElem?_toArray, List.getElem?_cons_zero, List.getElem?_cons_succ] at m0
      cases R1 with
      | true =>
       have hopx := hop.below hbx;obtain ⟨w6, hrun, ho6, hg6⟩ := hopx.putS u_mapSB (by unfold maxLen; omega) (k := x.n.pol) (by have := HPL.out; unfold maxLen; omega) true (.bool true) (rdB_mk _)
       have HO6 := Bx.mk (show ∃ q, q <= k * 2300 + (j + 1) /\ OwnF w6 kS rdB edB fm q (exF (polM (gxs g) k (j + 1))) by
        rw [HPS2.out, if_pos rfl, exF_snoc]; exact ⟨_, by omega, ho6⟩)
       have HB6 := Bx.mk (HBX.out.grown hg6 HBX.out.size fun i hi => by simp only [zO] at hi; have := HFM.out; omega);have hrun' : (Instr.mapUpdate 98 (.map (some fm)) (.string (bstr x.n.pol)) (.bool true)).run Tryz.prog wc = .ok () w6 := hrun;clear hr5 hop hq hbx hopx ho6 hg6 hrun;go_wp2_with fail
       go_roundw
       case rel => exact ⟨j + 1, by omega, by go_num, HO6, ⟨.inr trivial⟩, HB6⟩
       case measure => simp [intOf]; omega
      | false =>
       have HO6 := Bx.mk (show ∃ q, q <= k * 2300 + (j + 1) /\ OwnF wc kS rdB edB fm q (exF (polM (gxs g) k (j + 1))) by
        rw [HPS2.out, if_neg (by simp), List.append_nil]; exact ⟨q, by omega, hop.below hbx⟩)
       clear hr5 hop hq hbx;go_wp2_with fail
       go_roundw
       case rel => exact ⟨j + 1, by omega, by go_num, HO6, ⟨.inr trivial⟩, HBX⟩
       case measure => simp [intOf]; omega
     ·obtain rfl : j = M := by omega
      have HO4 := Bx.mk (show ∃ q, q <= (k + 1) * 2300 /\ OwnF wr kS rdB edB fm q (exF (polL (gxs g) (k + 1))) by
       obtain ⟨q, h1, h2⟩ := hO.out;rw [HM.out, <- vxs_len, <- HXL.out, polM_all _ _ (by omega)] at h2
       exact ⟨q, by omega, h2⟩)
      go_wp2_with fail
      go_roundw
      case rel => exact ⟨k + 1, by omega, .inl (by omega), by go_num, HO4, hB⟩
      case measure => simp [intOf]; omega
   ·obtain ⟨q, hq, hop⟩ := hO.out
    have hPN : polL (gxs g) k = polL (gxs g) N := by
     rcases hk with e | e
     ·rw [show k = N by omega]
     ·subst e;rcases Nat.lt_or_ge 0 N with e1 | e1
      ·rw [show N = 1 by omega]
      ·rw [show N = 0 by omega, polL_one, polL_zero]
    have hsk := sortedTB fm q _ wr hop (by omega) (setB (polL (gxs g) N)) (setB_asc _) (fun p => by
     rw [setB_mem, hPN]; unfold exF
     by_cases e : p ∈ polL (gxs g) N <;> simp [e])
    have hkk := keysTB (some fm) wr;obtain ⟨W6, hW6⟩ : ∃ W6, W6 = wr.alloc (.cells #[.map (some fm)] 98) := ⟨_, rfl⟩
    obtain ⟨kb, hkb⟩ : ∃ kb, kb = wr.heap.size := ⟨_, rfl⟩
    have HKB := Bx.mk hkb;have HB6 := Bx.mk (show Below wr.heap.size wr W6 by rw [hW6]; exact (Below.refl _ _).alloc (zR _) _);have HS6 := Bx.mk (show W6.heap.size = kb + 1 by rw [hW6, hkb]; simp);have HBW := Bx.mk hB.out;rw [<- hW6, <- hkb] at hsk hkk;have hdl : decide ((k : Int) < (N : Int)) = false := zF (by omega);clear hO hop hq hPN hW6 hkb hB;go_wp2_with fail
    go_at_call 79;refine hkk.mono ?_;rintro e w6 ⟨rfl, rfl⟩;clear hkk;go_wp2_with fail
    go_at_call 63;refine hsk.mono ?_;rintro e w7 ⟨sv, rfl, ho7, hb7⟩;obtain ⟨sa, sc, rfl, -⟩ := ho7.rd.form;have hle : w.heap.size <= kb + 1 := (by have := HBW.out.size; have := HKB.out; omega);have HO7 := Bx.mk (show Slc.Own w7 w.heap.size 9 1 encS (.slice sa (setB (polL (gxs g) N)).length sc) R by rw [HRF.out]; exact ho7.mono hle);have HB7 := Bx.mk (show Below w.heap.size w w7 from HBW.out.trans ((HB6.out.mono HBW.out.size).trans (hb7.mono hle)));clear hsk ho7 hb7;go_wp2_with fail
    go_ret;exact ⟨_, rfl, HO7.out, HB7.out⟩
end Go.Proofs.YtmagjdocondmhaaGreat.Tr.Gr
namespace Go.Proofs.YtmagjdocondmhaaGreat.Tr.Gr
open Go Go.RowKit Slc St Mp Tr Rg
theorem PDG.mono {w : World} {Bk U U' : Nat} {g : List Lv} (h : PDG w Bk U g) (hU : U <= U') : PDG w Bk U' g := ⟨h.own, h.ap, h.ab, h.ex, fun L hL x hx k hk => Nat.lt_of_lt_of_le (h.ul L hL x hx k hk) hU⟩
theorem PDG.fr {w w' : World} {Bk U : Nat} {v : Value} {g : List Lv} (h : PDG w Bk U g) (hg : GO w Bk v g) (hf : Fr (GB v g) w w') : PDG w' Bk U g := h.keep fun L hL x hx k hk hkl => hf.block k hkl fun hn => by
 have ho := h.own L hL x hx;rcases hn with hn | ⟨L0, h0, hn⟩
 ·exact own_type ho hg.own (by decide) k hk hn
 ·exact own_type ho (hg.lv L0 h0) (by decide) k hk hn
theorem PDG.sub {w : World} {Bk U : Nat} {g : List Lv} (h : PDG w Bk U g) (n : Nat) (hn : n < g.length) (L' : Lv) (hL : L'.vs.Sublist (g[n]).vs) : PDG w Bk U (g.set n L') := by
 have key : ∀ (j : Nat) (hj : j < (g.set n L').length), ∃ hj' : j < g.length, ((g.set n L')[j]).vs.Sublist (g[j]).vs := by
  intro j hj;have hj' : j < g.length := by simpa using hj
  refine ⟨hj', ?_⟩;rw [List.getElem_set];by_cases e : n = j
  ·rw [if_pos e]; subst e; exact hL
  ·rw [if_neg e]; exact List.Sublist.refl _
 have kl : ∀ L ∈ g.set n L', ∃ L0 ∈ g, L.vs.Sublist L0.vs := fun L hLm => by
  obtain ⟨j, hj, rfl⟩ := List.getElem_of_mem hLm;obtain ⟨hj', hs⟩ := key j hj;exact ⟨g[j], zM hj', hs⟩
 refine ⟨fun L hLm x hx => ?_, fun L hLm => ?_, fun i j hi hj hij x hx y hy => ?_, fun L hLm x hx L2 hL2 y hy => ?_, fun L hLm x hx => ?_⟩
 ·obtain ⟨L0, h0, hs⟩ := kl L hLm;exact h.own L0 h0 x (hs.subset hx)
 ·obtain ⟨L0, h0, hs⟩ := kl L hLm;exact (h.ap L0 h0).sublist hs
 ·obtain ⟨hi', hs⟩ := key i hi;obtain ⟨hj', hs'⟩ := key j hj;exact h.ab i j hi' hj' hij x (hs.subset hx) y (hs'.subset hy)
 ·obtain ⟨L0, h0, hs⟩ := kl L hLm;obtain ⟨L1, h1, hs'⟩ := kl L2 hL2;exact h.ex L0 h0 x (hs.subset hx) L1 h1 y (hs'.subset hy)
 ·obtain ⟨L0, h0, hs⟩ := kl L hLm;exact h.ul L0 h0 x (hs.subset hx)
theorem insT_pair {R : Vt -> Vt -> Prop} {l : List Vt} {x : Vt} (h : l.Pairwise R) (h1 : ∀ y ∈ l, R y x) (h2 : ∀ y ∈ l, R x y) : (insT l x).Pairwise R := by
 unfold insT;have hp : (l.take (plc (vxs l) x.n.pol) ++ l.drop (plc (vxs l) x.n.pol)).Pairwise R := by rw [List.take_append_drop]; exact h
 rw [List.pairwise_append] at hp;obtain ⟨a1, a2, a3⟩ := hp;refine List.pairwise_append.2 ⟨a1, List.pairwise_cons.2 ⟨fun y hy => h2 y (List.mem_of_mem_drop hy), a2⟩, fun a ha b hb => ?_⟩;rcases List.mem_cons.1 hb with rfl | hb
 ·exact h1 a (List.mem_of_mem_take ha)
 ·exact a3 a ha b hb
theorem PDG.ins {w0 w : World} {Bk U : Nat} {g : List Lv} (h : PDG w Bk U g) (hlt : ∀ L ∈ g, ∀ y ∈ L.vs, (∀ k, y.q.val.ownBlock = some k -> k < w0.heap.size) /\ ∀ k, y.u.val.ownBlock = some k -> k < w0.heap.size) (n : Nat) (hn : n < g.length) (L' : Lv) (x : Vt) (hL : L'.vs = insT (g[n]).vs x)
  (hxq : Slc.Own w Bk 3 1 encI x.q.val x.n.par) (hxb : ∀ k, x.q.val.ownBlock = some k -> w0.heap.size <= k) (hxu : ∀ k, x.u.val.ownBlock = some k -> w0.heap.size <= k /\ k < w.heap.size) (hxx : ∀ k, x.q.val.ownBlock = some k -> x.u.val.ownBlock ≠ some k) (hU : U <= w.heap.size) : PDG w Bk w.heap.size (g.set n L') := by
 have key : ∀ (j : Nat) (hj : j < (g.set n L').length), ∃ hj' : j < g.length, ∀ y ∈ ((g.set n L')[j]).vs, y ∈ (g[j]).vs \/ (y = x /\ j = n) := by
  intro j hj;have hj' : j < g.length := by simpa using hj
  refine ⟨hj', fun y hy => ?_⟩;rw [List.getElem_set] at hy;by_cases e : n = j
  ·rw [if_pos e, hL] at hy;subst e;exact (insT_mem hy).imp id fun q => ⟨q, rfl⟩
  ·rw [if_neg e] at hy; exact .inl hy
 have hnew : ∀ L ∈ g, ∀ y ∈ L.vs, QA x y /\ QA y x := fun L hLm y hy =>
  ⟨fun k h1 h2 => by have := hxb k h1; have := (hlt L hLm y hy).1 k h2; omega, fun k h1 h2 => by have := hxb k h2; have := (hlt L hLm y hy).1 k h1; omega⟩
 refine ⟨fun L hLm y hy => ?_, fun L hLm => ?_, fun i j hi hj hij y hy z hz => ?_, fun L hLm y hy L2 hL2 z hz k hk => ?_, fun L hLm y hy k hk => ?_⟩
 ·obtain ⟨j, hj, rfl⟩ := List.getElem_of_mem hLm;obtain ⟨hj', hk⟩ := key j hj;rcases hk y hy with q | ⟨rfl, -⟩
  ·exact h.own _ (zM hj') y q
  ·exact hxq
 ·obtain ⟨j, hj, rfl⟩ := List.getElem_of_mem hLm;obtain ⟨hj', -⟩ := key j hj;rw [List.getElem_set];by_cases e : n = j
  ·rw [if_pos e, hL];exact insT_pair (h.ap _ (zM hn)) (fun y hy => (hnew _ (zM hn) y hy).2) (fun y hy => (hnew _ (zM hn) y hy).1)
  ·rw [if_neg e]; exact h.ap _ (zM hj')
 ·obtain ⟨hi', ki⟩ := key i hi;obtain ⟨hj', kj⟩ := key j hj;rcases ki y hy with q | ⟨ey, ei⟩
  ·rcases kj z hz with r | ⟨ez, ej⟩
   ·exact h.ab i j hi' hj' hij y q z r
   ·rw [ez]; exact (hnew _ (zM hi') y q).2
  ·rcases kj z hz with r | ⟨ez, ej⟩
   ·rw [ey]; exact (hnew _ (zM hj') z r).1
   ·omega
 ·obtain ⟨i, hi, rfl⟩ := List.getElem_of_mem hLm;obtain ⟨j, hj, rfl⟩ := List.getElem_of_mem hL2;obtain ⟨hi', ki⟩ := key i hi;obtain ⟨hj', kj⟩ := key j hj;rcases ki y hy with q | ⟨ey, -⟩
  ·rcases kj z hz with r | ⟨ez, -⟩
   ·exact h.ex _ (zM hi') y q _ (zM hj') z r k hk
   ·rw [ez];intro h2;have := (hlt _ (zM hi') y q).1 k hk;have := (hxu k h2).1;omega
  ·rw [ey] at hk;rcases kj z hz with r | ⟨ez, -⟩
   ·intro h2;have := (hlt _ (zM hj') z r).2 k h2;have := hxb k hk;omega
   ·rw [ez]; exact hxx k hk
 ·obtain ⟨j, hj, rfl⟩ := List.getElem_of_mem hLm;obtain ⟨hj', kj⟩ := key j hj;rcases kj y hy with q | ⟨ey, -⟩
  ·exact Nat.lt_of_lt_of_le (h.ul _ (zM hj') y q k hk) hU
  ·rw [ey] at hk; exact (hxu k hk).2
def RsF (W : World) (Bk gb n nb RN rc i : Nat) (qa : Option Addr) (QN qc : Nat) (par : List Int) (AB : Int) : Nat -> Value -> World -> Prop
 | 0, v, _ => v = .pointer (some ⟨gb, n, none⟩)
 | 1, v, _ => v = .pointer (some ⟨gb, n, none⟩)
 | 2, v, _ => v = .pointer (some ⟨gb, n, none⟩)
 | 3, v, _ => v = .slice (some ⟨nb, 0, none⟩) RN rc
 | 4, v, _ => v = .int .i64 (i : Nat)
 | 5, v, _ => v = .pointer (some ⟨gb, n, none⟩)
 | 6, v, _ => v = .pointer (some ⟨gb, n, none⟩)
 | 7, v, _ => v = .pointer (some ⟨gb, n, none⟩)
 | 8, v, _ => v = .slice (some ⟨nb, 0, none⟩) RN rc
 | 9, v, _ => v = .int .i64 (i : Nat)
 | 10, v, _ => v = .pointer (some ⟨nb, i * 3, none⟩)
 | 11, v, _ => v = .pointer (some ⟨nb, i * 3 + 2, none⟩)
 | 12, v, _ => v = .slice qa QN qc
 | 13, v, _ => v = .int .i64 AB
 | 14, v, w => ∃ b, v = .slice (some ⟨b, 0, none⟩) 1 1 /\ W.heap.size <= b /\ w.heap[b]? = some (.cells #[.int .i64 AB] 3 (0, 0))
 | 15, v, w => (∃ a n c, v = .slice a n c) /\ Slc.Own w Bk 3 1 encI v (par ++ [AB])
 | 16, v, w => ∃ b u, v = .func (.func 112) #[] #[.pointer (some ⟨b, 0, none⟩)] /\ W.heap.size <= b /\ w.heap[b]? = some (.cells #[u] 22 (0, 0)) /\ Slc.Own w Bk 3 1 encI u (par ++ [AB])
 | 17, v, w => (∃ a n c, v = .slice a n c) /\ Slc.Own w W.heap.size 3 1 encI v (srtI (par ++ [AB]))
 | 18, v, _ => v = .pointer (some ⟨nb, i * 3, none⟩)
 | 19, v, _ => v = .pointer (some ⟨nb, i * 3 + 2, none⟩)
 | _, _, _ => True
theorem RsF.below {W : World} {Bk gb n nb RN rc i : Nat} {qa : Option Addr} {QN qc : Nat} {par : List Int} {AB : Int} (j : Nat) (v : Value) (w w' : World) (h : RsF W Bk gb n nb RN rc i qa QN qc par AB j v w) (hb : Below w.heap.size w w') : RsF W Bk gb n nb RN rc i qa QN qc par AB j v w' := by
 match j with
 | 0 | 1 | 2 | 3 | 4 | 5 | 6 | 7 | 8 | 9 | 10 | 11 | 12 | 13 | 18 | 19 => exact h
 | 14 => obtain ⟨b, h1, h2, h3⟩ := h; exact ⟨b, h1, h2, (hb.block b (lt_of_some h3)).trans h3⟩
 | 15 => exact ⟨h.1, h.2.below hb⟩
 | 16 => obtain ⟨b, u, h1, h2, h3, h4⟩ := h; exact ⟨b, u, h1, h2, (hb.block b (lt_of_some h3)).trans h3, h4.below hb⟩
 | 17 => exact ⟨h.1, h.2.below hb⟩
 | _ + 20 => exact trivial
theorem RsF.big {W : World} {Bk gb n nb RN rc i : Nat} {qa : Option Addr} {QN qc : Nat} {par : List Int} {AB : Int} (j : Nat) (v : Value) (w w' : World) (h : RsF W Bk gb n nb RN rc i qa QN qc par AB j v w) (h15 : j ≠ 15) (h16 : j ≠ 16) (ob : Option Nat) (hob : ∀ k, ob = some k -> k < W.heap.size) (hg : w.grownBy w' ob) : RsF W Bk gb n nb RN rc i qa QN qc par AB j v w' := by
 match j with
 | 0 | 1 | 2 | 3 | 4 | 5 | 6 | 7 | 8 | 9 | 10 | 11 | 12 | 13 | 18 | 19 => exact h
 | 14 => obtain ⟨b, h1, h2, h3⟩ := h; exact ⟨b, h1, h2, (hg.block b (lt_of_some h3) (fun e => by have := hob b e.symm; omega)).trans h3⟩
 | 15 => exact absurd rfl h15
 | 16 => exact absurd rfl h16
 | 17 => exact ⟨h.1, h.2.keep fun k hk hkl => hg.block k hkl (fun e => by have := hob k e.symm; have := (h.2.lt k hk).1; omega)⟩
 | _ + 20 => exact trivial
structure RsC (W : World) (ob : Option Nat) (d : Nat -> Bool) (w : World) : Prop where
 gr : W.grownBy w ob
 be : d 15 = false -> Below W.heap.size W w
end Go.Proofs.YtmagjdocondmhaaGreat.Tr.Gr
