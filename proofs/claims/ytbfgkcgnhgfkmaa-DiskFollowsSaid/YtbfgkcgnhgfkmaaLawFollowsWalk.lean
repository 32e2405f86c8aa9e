/-
  The walk of DiskFollows: it returns true.
-/
import Derived.Test.YtbfgkcgnhgfkmaaDkPair
namespace Go.Proofs.Ytbfgkcgnhgfkmaa.Dk
open Go Go.Maps Go.RowKit Go.Proofs.Ytbfgkcgnhgfkmaa.Slc
set_option linter.unusedVariables false
set_option linter.unusedSimpArgs false

set_option maxHeartbeats 4000000 in
set_option maxRecDepth 10000 in
theorem law_follows (cap : Int) (v : Value) (l : List Cl) (w : World) (hcap : i64ok cap) (hA : Arg w v l) (hin : ∀ c ∈ l, c.In) (hl : l.length ≤ 9223372036854775807) :
    Calls Try.prog 4 #[.int .i64 cap, v] w fun e w' => e = .returned (.bool true) ∧ Below w.heap.size w w' := by
  have hsh := short_any w v l hA hin hl
  have HAW := Lib.hid (fun W => awake_any W)
  have HL := Lib.hid hl
  obtain ⟨ad, c, rfl, -⟩ := id hA
  have HA := Lib.hid hA
  cases hs : shortB l with
  | false =>
    rw [hs] at hsh
    clear hA hin
    go_enter Try.func4, Try.ntmps4
    go_wp2_with fail
    go_at_call 26
    refine hsh.mono ?_
    rintro e w' ⟨rfl, rfl⟩
    go_wp2_with fail
    go_at_call 19
    refine (HAW.out _).mono ?_
    rintro e w' ⟨rfl, hb⟩
    go_wp2
    go_ret
    exact ⟨rfl, hb⟩
  | true =>
    rw [hs] at hsh
    have hlen := short_len hs
    have hfit := short_fit hs hin
    have HFIT := Lib.hid hfit
    have HN0 := Lib.hid (new_rep w cap hcap.2)
    have HRN := Lib.hid (fun W => rnew_any cap W hcap.2)
    have HRF := Lib.hid (fun k => run_Fit (St.new cap) l k hfit hlen (by rw [new_wt]; omega) (by simp [St.new]))
    have h10 := new_any cap w
    have c1 := hcap.1
    have c2 := hcap.2
    clear hA hin hfit hs
    go_enter Try.func4, Try.ntmps4
    go_wp2_with fail
    go_at_call 26
    refine hsh.mono ?_
    rintro e w' ⟨rfl, rfl⟩
    go_wp2_with fail
    go_at_call 20
    refine h10.mono ?_
    rintro e w0 ⟨rfl, hw0⟩
    rw [← hw0] at HN0
    clear h10 hw0
    generalize hd : w.heap.size = d at *
    have HD := Lib.hid hd
    clear hd
    go_wp2_with fail
    go_at_call 27
    refine (HRN.out _).mono ?_
    rintro e w1 ⟨rfl, hr1, hb1⟩
    have HB1 := Lib.hid (NewB.made HN0.out hr1 hb1)
    clear hr1 hb1
    generalize w0.heap.size = r at *
    unfold ptr
    go_wp2
    go_loopw [7] (fun i wx => ∃ k : Nat, k ≤ l.length ∧ i = .int .i64 (k : Int) ∧ NewB d w wx d r ((St.new cap).run (l.take k)) ((St.new cap).run (l.take k))) (fun i _ => l.length - (intOf i).toNat)
    case atStart => exact ⟨0, Nat.zero_le _, rfl, HB1.out⟩
    case round =>
      obtain ⟨k, hk, rfl, hnb⟩ := hrel
      have HNB := Lib.hid hnb
      have hbel := hnb.bel
      clear hnb
      by_cases hlt : k < l.length
      · obtain ⟨b, o, rfl, hbs, x0, x1, x2, x3, x4, x5, x6, x7⟩ := (HA.out.below (by rw [HD.out]; exact hbel)).eight k hlt
        have HDO := Lib.hid (HNB.out.do l[k] (HFIT.out _ (List.getElem_mem hlt)) (HRF.out k) (HRF.out k))
        rw [← run_snoc _ _ _ hlt] at HDO
        rw [beq_self_eq_true] at HDO
        have HRF1 := HRF.out (k + 1)
        have hcc : (l[k]).cells.toArray = #[.int .i64 l[k].kind, .int .i64 l[k].frm, .int .i64 l[k].tgt, .int .i64 l[k].n, .int .i64 l[k].m, .string (bstr l[k].name), .string (bstr l[k].data), .bool l[k].raw] := rfl
        rw [hcc] at HDO
        clear hcc hbel hbs
        unfold ptr at HDO
        generalize bstr l[k].name = X5 at *
        generalize bstr l[k].data = X6 at *
        generalize l[k].kind = X0 at *
        generalize l[k].frm = X1 at *
        generalize l[k].tgt = X2 at *
        generalize l[k].n = X3 at *
        generalize l[k].m = X4 at *
        generalize l[k].raw = X7 at *
        go_wp2_with fail
        go_at_call 28
        refine HDO.out.mono ?_
        rintro e w2 ⟨rfl, h2⟩
        have HAG := Lib.hid (h2.agree HRF1)
        clear h2
        unfold ptr at HAG
        go_wp2_with fail
        go_at_call 29
        refine HAG.out.mono ?_
        rintro e w3 ⟨rfl, h3⟩
        have HN3 := Lib.hid h3
        clear h3
        go_wp2
        go_roundw
        case rel => exact ⟨k + 1, by omega, by go_num, HN3.out⟩
        case measure => simp [intOf]; omega
      · obtain rfl : k = l.length := by omega
        clear hbel
        go_wp2_with fail
        go_at_call 19
        refine (HAW.out _).mono ?_
        rintro e w' ⟨rfl, hb⟩
        have HBB := Lib.hid (HNB.out.below hb).bel
        clear hb
        go_wp2
        go_ret
        exact ⟨rfl, by rw [HD.out]; exact HBB.out⟩

end Go.Proofs.Ytbfgkcgnhgfkmaa.Dk
