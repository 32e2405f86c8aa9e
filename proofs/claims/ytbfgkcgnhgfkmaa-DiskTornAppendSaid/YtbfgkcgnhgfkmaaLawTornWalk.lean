/-
  The walk of DiskTornAppend: it returns true.
-/
import Derived.Test.YtbfgkcgnhgfkmaaDkAwake
import Derived.WalkLawsBesides
namespace Go.Proofs.Ytbfgkcgnhgfkmaa.Dk
open Go Go.Maps Go.RowKit Go.Proofs.Ytbfgkcgnhgfkmaa.Slc
set_option linter.unusedVariables false
set_option linter.unusedSimpArgs false

def tn1 (a : B) : St := ⟨1000, [], [.app [97] a], -1⟩
def tn2 (a : B) : St := ⟨1000, [([97], a)], [], -1⟩
def tn3 (a b : B) : St := ⟨1000, [([97], a)], [.app [97] b], -1⟩
def tn4 (a b c : B) : St := ⟨1000, [([97], a)], [.app [97] b, .app [99] c], -1⟩
theorem tn_1 (a : B) (h : a.length ≤ 300) : ((St.new 1000).append [97] a).1 = tn1 a := by
  have hf : (St.new 1000).fits [97] a.length = true := by
    have : (St.new 1000).files = [] := rfl
    unfold St.fits; rw [this]; simp [total, St.new]; omega
  have h1 : okName [97] = true := by decide
  unfold St.append
  rw [show (St.new 1000).off = false from by decide, hf, h1]
  rfl
theorem tn_2 (a : B) : (tn1 a).sync.1 = tn2 a := rfl
theorem tn_3 (a b : B) (h : a.length + b.length ≤ 300) : ((tn2 a).append [97] b).1 = tn3 a b := by
  have hf : (tn2 a).fits [97] b.length = true := by
    have e : (tn2 a).files = [([97], a)] := rfl
    unfold St.fits; rw [e]; simp [total, tn2]; omega
  have h1 : okName [97] = true := by decide
  unfold St.append
  rw [show (tn2 a).off = false from by simp [St.off, tn2], hf, h1]
  rfl
theorem tn_f (a b : B) : (tn3 a b).files = [([97], a ++ b)] := rfl
theorem tn_4 (a b c : B) (h : a.length + b.length + c.length ≤ 300) : ((tn3 a b).append [99] c).1 = tn4 a b c := by
  have hf : (tn3 a b).fits [99] c.length = true := by
    unfold St.fits; rw [tn_f]; simp [total, tn3]; omega
  have h1 : okName [99] = true := by decide
  unfold St.append
  rw [show (tn3 a b).off = false from by simp [St.off, tn3], hf, h1]
  rfl
theorem tn_5 (a b c : B) (n : Int) (h0 : 0 ≤ n) : ((tn4 a b c).crash 0 n).read [97] = (a ++ b.take (min n b.length).toNat, 0) ∧ ((tn4 a b c).crash 0 n).read [99] = ([], 23) := by
  have hk : keepN (tn4 a b c) 0 = 0 := by unfold keepN; have := Int.natCast_nonneg (tn4 a b c).ops.length; omega
  have e : (tn4 a b c).crash 0 n = ⟨1000, [([97], a ++ b.take (min n b.length).toNat)], [], -1⟩ := by
    unfold St.crash
    rw [hk]
    have : (tn4 a b c).torn 0 n = [([97], a ++ b.take (min n b.length).toNat)] := by
      unfold St.torn
      simp only [tn4, List.getElem?_cons_zero]
      split
      · rfl
      · rename_i hn
        have z : (min n (b.length : Int)).toNat = 0 := by omega
        rw [z]; simp [aps]
    rw [this]; rfl
  rw [e]
  exact ⟨rfl, rfl⟩

theorem bstr_of (a : ByteArray) : ∃ l : B, a = bstr l := ⟨a.data.toList, by cases a; simp [bstr]⟩
theorem bstr_tear (a b : B) (k : Nat) : bstr (a ++ b.take k) = bstr a ++ (bstr b).extract 0 k := by
  apply ByteArray.ext
  apply Array.toList_inj.1
  rw [ByteArray.data_append, ByteArray.data_extract]
  simp [bstr]

set_option maxHeartbeats 2000000 in
set_option maxRecDepth 10000 in
theorem law_torn (a b c : ByteArray) (n : Int) (w : World) (hn0 : -9223372036854775808 ≤ n) (hn1 : n ≤ 9223372036854775807) (ha : a.size ≤ 140737488355328) (hb : b.size ≤ 140737488355328) (hc : c.size ≤ 140737488355328) :
    Calls Try.prog 3 #[.string a, .string b, .string c, .int .i64 n] w fun e w' => e = .returned (.bool true) ∧ Below w.heap.size w w' := by
  obtain ⟨la, rfl⟩ := bstr_of a
  obtain ⟨lb, rfl⟩ := bstr_of b
  obtain ⟨lc, rfl⟩ := bstr_of c
  rw [bstr_size] at ha hb hc
  have HAW := Lib.hid (fun W => awake_any W)
  have za := bstr_size la
  have zb := bstr_size lb
  have zc := bstr_size lc
  by_cases hs : la.length + lb.length + lc.length ≤ 300
  · have HN0 := Lib.hid (new_rep w 1000 (by omega))
    have h10 := new_any 1000 w
    have t1 := tn_1 la (by omega)
    have t3 := tn_3 la lb (by omega)
    have t4 := tn_4 la lb lc hs
    have hla : la.length ≤ 1000000 := by omega
    have hlb : lb.length ≤ 1000000 := by omega
    have hlc : lc.length ≤ 1000000 := by omega
    have hm0 : 0 ≤ n % ((lb.length : Int) + 3) := Int.emod_nonneg _ (by omega)
    have hm1 : n % ((lb.length : Int) + 3) < (lb.length : Int) + 3 := Int.emod_lt_of_pos _ (by omega)
    have HSM := Lib.hid (fun W => small_any n ((lb.length : Int) + 3) W hn0 hn1 (by omega) (by omega))
    generalize n % ((lb.length : Int) + 3) = r at *
    obtain ⟨t5, t6⟩ := tn_5 la lb lc r hm0
    have T1 := Lib.hid t1
    have T3 := Lib.hid t3
    have T4 := Lib.hid t4
    have T5 := Lib.hid t5
    have T6 := Lib.hid t6
    have LA := Lib.hid hla
    have LB := Lib.hid hlb
    have LC := Lib.hid hlc
    have HS := Lib.hid hs
    clear t1 t3 t4 t5 t6 hla hlb hlc
    have OA := Lib.hid (show ∀ l : B, bstr l = bstr l from fun l => rfl)
    generalize hA : bstr la = a at *
    generalize hB : bstr lb = b at *
    generalize hC : bstr lc = c at *
    rw [← za] at ha hs
    rw [← zb] at hb hs hm1 HSM
    rw [← zc] at hc hs
    have EA := Lib.hid hA
    have EB := Lib.hid hB
    have EC := Lib.hid hC
    clear hA hB hC
    have ZB := Lib.hid zb
    clear za zb zc
    go_enter Try.func3, Try.ntmps3
    go_wp2_with fail
    go_at_call 20
    refine h10.mono ?_
    rintro e w0 ⟨rfl, hw0⟩
    rw [← hw0] at HN0
    clear h10 hw0
    generalize hd : w.heap.size = d at *
    have HD := Lib.hid hd
    clear hd
    go_wp2_with fail
    go_at_call 21
    rw [← EA.out]
    refine (HN0.out.append [97] la (by simp) LA.out (by simp [St.new])).mono ?_
    rw [T1.out, EA.out]
    rintro e w1 ⟨rfl, h1⟩
    have HN1 := Lib.hid h1
    clear h1
    generalize ((St.new 1000).append [97] la).2 = e1 at *
    go_wp2_with fail
    go_at_call 22
    refine HN1.out.sync.mono ?_
    rw [tn_2]
    rintro e w2 ⟨rfl, h2⟩
    have HN2 := Lib.hid h2
    clear h2
    generalize (tn1 la).sync.2 = e2 at *
    go_wp2_with fail
    go_at_call 21
    rw [← EB.out]
    refine (HN2.out.append [97] lb (by simp) LB.out (by simp [tn2])).mono ?_
    rw [T3.out, EB.out]
    rintro e w3 ⟨rfl, h3⟩
    have HN3 := Lib.hid h3
    clear h3
    generalize ((tn2 la).append [97] lb).2 = e3 at *
    go_wp2_with fail
    go_at_call 21
    rw [← EC.out]
    refine (HN3.out.append [99] lc (by simp) LC.out (by simp [tn3])).mono ?_
    rw [T4.out, EC.out]
    rintro e w4 ⟨rfl, h4⟩
    have HN4 := Lib.hid h4
    clear h4
    generalize ((tn3 la lb).append [99] lc).2 = e4 at *
    go_wp2_with fail
    go_at_call 23
    refine (HSM.out _).mono ?_
    rintro e w' ⟨rfl, rfl⟩
    go_wp2_with fail
    go_at_call 24
    refine (HN4.out.crash 0 r (by simp [tn4]) ⟨by omega, by omega⟩ ⟨by omega, by omega⟩).mono ?_
    rintro e w5 ⟨rfl, h5⟩
    have HN5 := Lib.hid h5
    clear h5
    go_wp2_with fail
    go_at_call 25
    refine (HN5.out.read [97] (by simp)).mono ?_
    rw [T5.out]
    rintro e w' ⟨rfl, rfl⟩
    simp only [rdV]
    go_wp2_with fail
    go_at_call 25
    refine (HN5.out.read [99] (by simp)).mono ?_
    rw [T6.out]
    rintro e w' ⟨rfl, rfl⟩
    simp only [rdV]
    have XX : bstr (la ++ lb.take (min r (lb.length : Int)).toNat) = a ++ b.extract 0 (min r (b.size : Int)).toNat := by rw [← EA.out, ← EB.out, bstr_size, bstr_tear]
    rw [XX]
    go_wp2_with fail
    go_at_call 19
    refine (HAW.out _).mono ?_
    rintro e w6 ⟨rfl, h6⟩
    have HB6 := Lib.hid ((HN5.out.below h6).bel)
    clear h6
    go_wp2
    go_ret
    exact ⟨rfl, by rw [HD.out]; exact HB6.out⟩
  · have HA := Lib.hid za
    have HB := Lib.hid zb
    have HC := Lib.hid zc
    clear za zb zc
    generalize bstr la = a at *
    generalize bstr lb = b at *
    generalize bstr lc = c at *
    have za := HA.out
    have zb := HB.out
    have zc := HC.out
    have g : (300 : Int) < ((a.size : Int) + b.size) + c.size := by omega
    go_enter Try.func3, Try.ntmps3
    go_wp2_with fail
    go_at_call 19
    refine (HAW.out _).mono ?_
    rintro e w' ⟨rfl, hb⟩
    go_wp2
    go_ret
    exact ⟨rfl, hb⟩

end Go.Proofs.Ytbfgkcgnhgfkmaa.Dk
