/-
  The contracts of the functions of package date and of its definition that reckon with years and months.
-/
import Derived.Test.YtmmoimemfdbfgaaDoorChecked
import Derived.Test.YtmmoimemfdbfgaaDoorDateCal
import Derived.WalkKit
import Derived.BigQuiet
import Derived.Lib.Hide
namespace Go.Proofs.YtmmoimemfdbfgaaDoor
open Go.RowKit

theorem leaps_any (n : Int) (w : World) (h0 : 0 ≤ n) (h1 : n ≤ 20000) :
    Calls Tryd.prog 36 #[.int .i64 n] w fun e w' => e = .returned (.int .i64 (Cal.leaps n)) ∧ w = w' := by
  go_enter Tryd.func36, Tryd.ntmps36
  go_wp2
  go_ret
  exact ⟨rfl, rfl⟩

theorem before_any (y : Int) (w : World) (h0 : 1 ≤ y) (h1 : y ≤ 20000) :
    Calls Tryd.prog 24 #[.int .i64 y] w fun e w' => e = .returned (.int .i64 (Cal.bef y)) ∧ w = w' := by
  go_enter Tryd.func24, Tryd.ntmps24
  go_wp2
  go_ret
  exact ⟨rfl, rfl⟩

end Go.Proofs.YtmmoimemfdbfgaaDoor
