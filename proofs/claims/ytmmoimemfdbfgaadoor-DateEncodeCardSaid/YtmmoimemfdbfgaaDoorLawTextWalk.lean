/-
  The walk of DateText: it returns true. (Written by wip/gen/gen_lawtext.py.)
-/
import Derived.Test.YtmmoimemfdbfgaaDoorDateQ
import Derived.Test.YtmmoimemfdbfgaaDoorBytes
import Derived.BigRegion
namespace Go.Proofs.YtmmoimemfdbfgaaDoor
open Go.RowKit
set_option linter.unusedSimpArgs false

theorem byte_u8 (c : ByteArray) (k : Nat) (x : Int) (hx : x = k) (h : k < c.size) (w : World) : (Instr.index 9 (.string c) (.int .u8 x)).run Tryd.prog w = .ok (.int .u8 ((c.data.toList.getD k 0).toNat : Nat)) w := by
  subst hx
  have e : (c.data.toList.getD k 0) = c[k] := by
    rw [List.getD_eq_getElem?_getD, List.getElem?_eq_getElem (by simpa using h)]; rfl
  rw [e]
  simp [Instr.index, run_underlying Tryd.underlying9, go_sem, h]
theorem cut_h (b : ByteArray) (y : Int) (n : Nat) (hy : y = n) (h2 : n ≤ b.size) (w : World) :
    (Instr.slice 9 (.string b) none (some (.int .i64 y)) none).run Tryd.prog w = .ok (.string (b.extract 0 n)) w := by
  subst hy; rw [run_slice_string_h (P := Tryd.prog) (ht := Tryd.underlying9) (h0 := by omega) (h2 := by omega)]; rfl
theorem cut_l (b : ByteArray) (x : Int) (m : Nat) (hx : x = m) (h2 : m ≤ b.size) (w : World) :
    (Instr.slice 9 (.string b) (some (.int .i64 x)) none none).run Tryd.prog w = .ok (.string (b.extract m b.size)) w := by
  subst hx; rw [run_slice_string_l (P := Tryd.prog) (ht := Tryd.underlying9) (h0 := by omega) (h1 := by omega)]; rfl
theorem two_cell (a b : ByteArray) (w : World) (k : Nat) (hk : k < 2) : ∃ x : ByteArray, ∀ e : Ext (w.alloc (.cells #[.string a, .string b] 9)), e.out.cell? ⟨w.heap.size, k, none⟩ = some (.string x) := by
  have hz : w.heap.size < (w.alloc (.cells #[.string a, .string b] 9)).heap.size := by simp
  have : k = 0 ∨ k = 1 := by omega
  rcases this with rfl | rfl
  · exact ⟨a, fun e => by rw [e.cell hz]; rw [World.cell?_alloc_at _ _ _ _ rfl]; rfl⟩
  · exact ⟨b, fun e => by rw [e.cell hz]; rw [World.cell?_alloc_at _ _ _ _ rfl]; rfl⟩
theorem below_ext {W w : World} (hB : Below W.heap.size W w) (o : Obj) (e : Ext (w.alloc o)) : Below W.heap.size W e.out := hB.trans ((box_below w o e).mono hB.size)

set_option maxHeartbeats 2000000 in
set_option maxRecDepth 20000 in
theorem law_text (t k d : Int) (s : ByteArray) (p c : Int) (w : World) (ht : Tab w) (hk0 : 0 ≤ k) (hk1 : k ≤ 65535) (hd0 : -128 ≤ d) (hd1 : d ≤ 127) (hp0 : 0 ≤ p) (hp1 : p ≤ 255) (hc0 : 0 ≤ c) (hc1 : c ≤ 255) :
    Calls Tryd.prog 7 #[.int .i64 t, .int .u16 k, .int .i8 d, .string s, .int .u8 p, .int .u8 c] w fun e w' => e = .returned (.bool true) ∧ Below w.heap.size w w' := by
  have hP := parse_any
  have hPr := rparse_any
  have hA := awake_any
  by_cases h60 : 60 < s.size
  · have t0 : decide (60 < (s.size : Int)) = true := by simp; omega
    clear h60 hP hPr
    go_enter Tryd.func7, Tryd.ntmps7
    go_wp2_with fail
    go_at_call 13
    refine (hA _ ht).mono ?_
    rintro _ w1 ⟨rfl, hB⟩
    go_wp2
    go_ret
    exact ⟨rfl, hB⟩
  · have t0 : decide (60 < (s.size : Int)) = false := by simp; omega
    clear h60
    go_enter Tryd.func7, Tryd.ntmps7
    go_wp2_with fail
    go_at_call 9
    refine (near_any t k d _ hk0 hk1 hd0 hd1).mono ?_
    rintro _ w1 ⟨x, rfl, hB⟩
    by_cases hr : 0 ≤ x ∧ x ≤ 254033452799
    · obtain ⟨T, hsz, p1, p2, hF⟩ := format_both_good x hr.1 hr.2
      have hFl := hF.left
      have hFr := hF.right
      have HPT := hP T
      rw [p1, p2] at HPT
      obtain ⟨j, hj, hjl⟩ : ∃ j : Nat, p % (T.size : Int) = j ∧ j < 19 := by
        have e : (T.size : Int) = 19 := by omega
        rw [e]; exact ⟨(p % 19).toNat, by omega, by omega⟩
      obtain ⟨m, hm, hml⟩ : ∃ m : Nat, c % 13 = m ∧ m < 13 := ⟨(c % 13).toNat, by omega, by omega⟩
      have x1 := cut_h T (p % (T.size : Int)) j hj (by omega)
      have x2 := cut_l T (p % (T.size : Int) + 1) (j + 1) (by omega) (by omega)
      have x3 := byte_u8 ⟨#[48, 49, 50, 51, 52, 53, 54, 55, 56, 57, 45, 58, 32]⟩ m (c % 13) hm (by show m < 13; exact hml)
      have q1 : IntKind.i64.wrap (p % (T.size : Int) + 1) = p % (T.size : Int) + 1 := IntWalk.i64_in _ (by omega)
      have z0 : 0 < T.size := by omega
      have z1 : (T.extract 0 j).size ≤ 19 := by rw [ByteArray.size_extract]; omega
      have z2 : (T.extract (j + 1) T.size).size ≤ 19 := by rw [ByteArray.size_extract]; omega
      generalize T.extract 0 j = X1 at *
      generalize T.extract (j + 1) T.size = X2 at *
      generalize ((⟨#[48, 49, 50, 51, 52, 53, 54, 55, 56, 57, 45, 58, 32]⟩ : ByteArray).data.toList.getD m 0) = by1 at *
      have hby := UInt8.toNat_lt by1
      clear hF p1 p2 hm hml hj hjl hsz hr
      go_wp2_with fail
      go_at_call 18
      refine (hFl _ (ht.below hB)).mono ?_
      rintro _ w2 ⟨rfl, hb⟩
      have hB := hB.trans (hb.mono hB.size)
      clear hb hFl
      go_wp2_with fail
      go_at_call 19
      refine (hFr _).mono ?_
      rintro _ w3 ⟨rfl, hb⟩
      have hB := hB.trans (hb.mono hB.size)
      clear hb hFr
      go_wp2_with fail
      have hcv := By.back_self w3.drew #[.int .u8 (by1.toNat : Nat)] [by1] w3.heap.size 1 rfl rfl rfl (by omega)
      change (convert _ _ _).run _ (w3.alloc (.cells #[.int .u8 (by1.toNat : Nat)] 5)).drew = .ok _ (w3.alloc (.cells #[.int .u8 (by1.toNat : Nat)] 5)).drew at hcv
      have z3 : (⟨[by1].toArray⟩ : ByteArray).size = 1 := rfl
      generalize (⟨[by1].toArray⟩ : ByteArray) = C1 at *
      have a1 := fun W : World => run_string_add_sum (P := Tryd.prog) W X1 C1 (by omega)
      have a2 := fun W : World => run_string_add_sum (P := Tryd.prog) W (X1 ++ C1) X2 (by rw [ByteArray.size_append]; omega)
      generalize X1 ++ C1 = X3 at *
      generalize hD : X3 ++ X2 = D at *
      have hBr : Below w.heap.size w (w3.alloc (.cells #[.int .u8 (by1.toNat : Nat)] 5)).drew := (hB.alloc hB.size _).drew
      clear hD z1 z2 z3 hB
      go_region
      all_goals
        generalize (w3.alloc (.cells #[.int .u8 (by1.toNat : Nat)] 5)).drew = w4 at *
        clear hcv a1 a2 x1 x2 x3 q1
        go_wp2_with fail
        go_at_call 20
        refine (HPT _ (ht.below hBr)).mono ?_
        rintro _ w5 ⟨rfl, hb⟩
        have hB := hBr.trans (hb.mono hBr.size)
        clear hb hBr HPT
        go_wp2_with fail
        have hcell := two_cell s D w5
        have hB0 := below_ext hB (.cells #[.string s, .string D] 9)
        obtain ⟨e0, he0⟩ : ∃ e : Ext (w5.alloc (.cells #[.string s, .string D] 9)), w5.alloc (.cells #[.string s, .string D] 9) = e.out := ⟨Ext.self _, rfl⟩
        have hTab : ∀ e : Ext (w5.alloc (.cells #[.string s, .string D] 9)), Tab e.out := fun e => ht.below (hB0 e)
        rw [he0]; clear he0 hB ht
        generalize w5.alloc (.cells #[.string s, .string D] 9) = W at *
        go_loopw [92] (fun i wr => ∃ j : Nat, j ≤ 2 ∧ i = .int .i64 j ∧ ∃ e : Ext W, wr = e.out) (fun i _ => 2 - (intOf i).toNat)
        case atStart => exact ⟨0, by omega, rfl, e0, rfl⟩
        case round =>
          obtain ⟨j, hj, rfl, e1, rfl⟩ := hrel
          by_cases hlt : j < 2
          · obtain ⟨z, hz⟩ := hcell j hlt
            have hPl := hP z
            have hPm := hPr z
            clear hcell hP hPr hA
            generalize parV z = V at *
            generalize parE z = E at *
            go_wp2_with fail
            go_at_call 20
            refine (hPl _ (hTab _)).mono ?_
            rintro _ w6 ⟨rfl, hb⟩
            obtain ⟨e2, rfl⟩ := e1.next hb
            clear hb hPl
            go_wp2_with fail
            go_at_call 21
            refine (hPm _).mono ?_
            rintro _ w7 ⟨rfl, hb⟩
            obtain ⟨e3, rfl⟩ := e2.next hb
            clear hb hPm
            go_wp2
            go_roundw
            case rel => exact ⟨j + 1, by omega, by go_num, e3, rfl⟩
            case measure => simp [intOf]; omega
          · clear hP hPr hcell
            go_wp2_with fail
            go_at_call 13
            refine (hA _ (hTab _)).mono ?_
            rintro _ w6 ⟨rfl, hb⟩
            obtain ⟨e2, rfl⟩ := e1.next hb
            clear hb
            go_wp2
            go_ret
            exact ⟨rfl, hB0 e2⟩
    · have hF := format_both_bad x hr
      have hFl := hF.left
      have hFr := hF.right
      clear hF hr
      go_wp2_with fail
      go_at_call 18
      refine (hFl _ (ht.below hB)).mono ?_
      rintro _ w2 ⟨rfl, hb⟩
      have hB := hB.trans (hb.mono hB.size)
      clear hb hFl
      go_wp2_with fail
      go_at_call 19
      refine (hFr _).mono ?_
      rintro _ w3 ⟨rfl, hb⟩
      have hB := hB.trans (hb.mono hB.size)
      clear hb hFr
      go_wp2_with fail
      have hcell := two_cell s s w3
      have hB0 := below_ext hB (.cells #[.string s, .string s] 9)
      obtain ⟨e0, he0⟩ : ∃ e : Ext (w3.alloc (.cells #[.string s, .string s] 9)), w3.alloc (.cells #[.string s, .string s] 9) = e.out := ⟨Ext.self _, rfl⟩
      have hTab : ∀ e : Ext (w3.alloc (.cells #[.string s, .string s] 9)), Tab e.out := fun e => ht.below (hB0 e)
      rw [he0]; clear he0 hB ht
      generalize w3.alloc (.cells #[.string s, .string s] 9) = W at *
      go_loopw [92] (fun i wr => ∃ j : Nat, j ≤ 2 ∧ i = .int .i64 j ∧ ∃ e : Ext W, wr = e.out) (fun i _ => 2 - (intOf i).toNat)
      case atStart => exact ⟨0, by omega, rfl, e0, rfl⟩
      case round =>
        obtain ⟨j, hj, rfl, e1, rfl⟩ := hrel
        by_cases hlt : j < 2
        · obtain ⟨z, hz⟩ := hcell j hlt
          have hPl := hP z
          have hPm := hPr z
          clear hcell hP hPr hA
          generalize parV z = V at *
          generalize parE z = E at *
          go_wp2_with fail
          go_at_call 20
          refine (hPl _ (hTab _)).mono ?_
          rintro _ w6 ⟨rfl, hb⟩
          obtain ⟨e2, rfl⟩ := e1.next hb
          clear hb hPl
          go_wp2_with fail
          go_at_call 21
          refine (hPm _).mono ?_
          rintro _ w7 ⟨rfl, hb⟩
          obtain ⟨e3, rfl⟩ := e2.next hb
          clear hb hPm
          go_wp2
          go_roundw
          case rel => exact ⟨j + 1, by omega, by go_num, e3, rfl⟩
          case measure => simp [intOf]; omega
        · clear hP hPr hcell
          go_wp2_with fail
          go_at_call 13
          refine (hA _ (hTab _)).mono ?_
          rintro _ w6 ⟨rfl, hb⟩
          obtain ⟨e2, rfl⟩ := e1.next hb
          clear hb
          go_wp2
          go_ret
          exact ⟨rfl, hB0 e2⟩

end Go.Proofs.YtmmoimemfdbfgaaDoor
