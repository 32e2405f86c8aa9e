/-
  The walk of DiskSmall: it returns true.
-/
import Derived.Test.YtbfgkcgnhgfkmaaDkPair
namespace Go.Proofs.Ytbfgkcgnhgfkmaa.Dk
open Go Go.Maps Go.RowKit Go.Proofs.Ytbfgkcgnhgfkmaa.Slc
set_option linter.unusedVariables false
set_option linter.unusedSimpArgs false

/-- a call with its data cut -/
def Cl.cut (c : Cl) : Cl := { c with data := c.data.take 15 }
theorem Cl.Fit.cut {c : Cl} (h : c.Fit) : c.cut.Fit := ⟨⟨h.ok.kind, h.ok.frm, h.ok.tgt, h.ok.n, h.ok.m⟩, h.name, by have := h.data; simp [Cl.cut]; omega⟩
theorem cut_at (l : List Cl) (k : Nat) (h : k < (l.map Cl.cut).length) : (l.map Cl.cut)[k] = (l[k]'(by simpa using h)).cut := by simp

theorem bstr_cut (a : B) (k : Nat) (h : k = min a.length 15) : bstr (a.take 15) = (bstr a).extract 0 k := by
  subst h
  apply ByteArray.ext
  apply Array.toList_inj.1
  rw [ByteArray.data_extract]
  simp [bstr]
  exact Nat.min_comm _ _
set_option maxHeartbeats 4000000 in
set_option maxRecDepth 10000 in
theorem law_small (cap : Int) (v : Value) (l : List Cl) (w : World) (hcap : i64ok cap) (hA : Arg w v l) (hin : ∀ c ∈ l, c.In) (hl : l.length ≤ 9223372036854775807) :
    Calls Try.prog 5 #[.int .i64 cap, v] w fun e w' => e = .returned (.bool true) ∧ Below w.heap.size w w' := by
  have hsh := short_any w v l hA hin hl
  have HAW := Lib.hid (fun W => awake_any W)
  have HL := Lib.hid hl
  obtain ⟨ad, c, rfl, -⟩ := id hA
  have HA := Lib.hid hA
  cases hs : shortB l with
  | false =>
    rw [hs] at hsh
    clear hA hin
    go_enter Try.func5, Try.ntmps5
    go_wp2_with fail
    go_at_call 26
    refine hsh.mono ?_
    rintro e w' ⟨rfl, rfl⟩
    go_wp2_with fail
    go_at_call 19
    refine (HAW.out _).mono ?_
    rintro e w' ⟨rfl, hb⟩
    go_wp2
    go_ret
    exact ⟨rfl, hb⟩
  | true =>
    rw [hs] at hsh
    have hlen := short_len hs
    have hfit0 := short_fit hs hin
    have hfit : ∀ c ∈ l.map Cl.cut, c.Fit := by
      intro c hc
      rw [List.mem_map] at hc
      obtain ⟨c0, h0, rfl⟩ := hc
      exact (short_fit hs hin _ h0).cut
    have hsml := small_any cap 41 w hcap.1 hcap.2 (by omega) (by omega)
    have hq1 : cap % 41 < 41 := by omega
    have hq0 : 0 ≤ cap % 41 := by omega
    generalize cap % 41 = q at *
    have HFIT := Lib.hid hfit
    have HN0 := Lib.hid (new_rep w q (by omega))
    have HRN := Lib.hid (fun W => rnew_any q W (by omega))
    have HRF := Lib.hid (fun k => run_Fit (St.new q) (l.map Cl.cut) k hfit (by simpa using hlen) (by rw [new_wt]; omega) (by simp [St.new]))
    have h10 := new_any q w
    have c1 := hcap.1
    have c2 := hcap.2
    have HML := Lib.hid (show (l.map Cl.cut).length = l.length from List.length_map _)
    clear hA hin hfit hs
    go_enter Try.func5, Try.ntmps5
    go_wp2_with fail
    go_at_call 26
    refine hsh.mono ?_
    rintro e w' ⟨rfl, rfl⟩
    go_wp2_with fail
    go_at_call 23
    refine hsml.mono ?_
    rintro e w' ⟨rfl, rfl⟩
    go_wp2_with fail
    go_at_call 20
    refine h10.mono ?_
    rintro e w0 ⟨rfl, hw0⟩
    rw [← hw0] at HN0
    clear h10 hw0
    generalize hd : w.heap.size = d at *
    have HD := Lib.hid hd
    clear hd
    go_wp2_with fail
    go_at_call 27
    refine (HRN.out _).mono ?_
    rintro e w1 ⟨rfl, hr1, hb1⟩
    have HB1 := Lib.hid (NewB.made HN0.out hr1 hb1)
    clear hr1 hb1
    generalize w0.heap.size = r at *
    unfold ptr
    go_wp2
    go_loopw [8] (fun i wx => ∃ k : Nat, k ≤ l.length ∧ i = .int .i64 (k : Int) ∧ NewB d w wx d r ((St.new q).run ((l.map Cl.cut).take k)) ((St.new q).run ((l.map Cl.cut).take k))) (fun i _ => l.length - (intOf i).toNat)
    case atStart => exact ⟨0, Nat.zero_le _, rfl, HB1.out⟩
    case round =>
      obtain ⟨k, hk, rfl, hnb⟩ := hrel
      have HNB := Lib.hid hnb
      have hbel := hnb.bel
      clear hnb
      by_cases hlt : k < l.length
      · obtain ⟨b, o, rfl, hbs, x0, x1, x2, x3, x4, x5, x6, x7⟩ := (HA.out.below (by rw [HD.out]; exact hbel)).eight k hlt
        have hlt2 : k < (l.map Cl.cut).length := by rw [HML.out]; exact hlt
        have hfc := HFIT.out _ (List.getElem_mem hlt2)
        have HDO := Lib.hid (fun W (hb : Below wr.heap.size wr W) => (HNB.out.below hb).do (l.map Cl.cut)[k] hfc (HRF.out k) (HRF.out k))
        rw [← run_snoc _ _ _ hlt2] at HDO
        rw [beq_self_eq_true] at HDO
        have HRF1 := HRF.out (k + 1)
        have hcc : ((l.map Cl.cut)[k]).cells.toArray = #[.int .i64 l[k].kind, .int .i64 l[k].frm, .int .i64 l[k].tgt, .int .i64 l[k].n, .int .i64 l[k].m, .string (bstr l[k].name), .string ((bstr l[k].data).extract 0 (min ((bstr l[k].data).size : Int) 15).toNat), .bool l[k].raw] := by
          rw [cut_at]
          have e : bstr (l[k].cut).data = (bstr l[k].data).extract 0 (min ((bstr l[k].data).size : Int) 15).toNat := by
            rw [bstr_size]; exact bstr_cut _ _ (by omega)
          show #[_, _, _, _, _, _, Value.string (bstr (l[k].cut).data), _] = _
          rw [e]; rfl
        rw [hcc] at HDO
        have hszd : (bstr l[k].data).size ≤ 200 := by rw [bstr_size]; exact (hfit0 _ (List.getElem_mem hlt)).data
        clear hcc hbel hbs hfc
        unfold ptr at HDO
        generalize bstr l[k].name = X5 at *
        generalize bstr l[k].data = X6 at *
        generalize l[k].kind = X0 at *
        generalize l[k].frm = X1 at *
        generalize l[k].tgt = X2 at *
        generalize l[k].n = X3 at *
        generalize l[k].m = X4 at *
        generalize l[k].raw = X7 at *
        go_wp2_with fail
        go_at_call 28
        refine (HDO.out _ ?hb).mono ?_
        case hb => exact (Below.refl _ _).alloc (Nat.le_refl _) _
        rintro e w2 ⟨rfl, h2⟩
        have HAG := Lib.hid (h2.agree HRF1)
        clear h2
        unfold ptr at HAG
        go_wp2_with fail
        go_at_call 29
        refine HAG.out.mono ?_
        rintro e w3 ⟨rfl, h3⟩
        have HN3 := Lib.hid h3
        clear h3
        go_wp2
        go_roundw
        case rel => exact ⟨k + 1, by omega, by go_num, HN3.out⟩
        case measure => simp [intOf]; omega
      · obtain rfl : k = l.length := by omega
        clear hbel
        go_wp2_with fail
        go_at_call 19
        refine (HAW.out _).mono ?_
        rintro e w' ⟨rfl, hb⟩
        have HBB := Lib.hid (HNB.out.below hb).bel
        clear hb
        go_wp2
        go_ret
        exact ⟨rfl, by rw [HD.out]; exact HBB.out⟩

end Go.Proofs.Ytbfgkcgnhgfkmaa.Dk
