/- Contract of expr.operator. -/
import Derived.Test.YtgkfmeccipgnjaaDoorPf
import Derived.BigRegion
import Derived.Maps.Own
namespace Go.Proofs.YtgkfmeccipgnjaaDoor
open Go.RowKit

set_option maxRecDepth 100000 in
set_option maxHeartbeats 1000000 in
theorem operator_other (k : Nat) (m : Int) (tx : ByteArray) (x : Value) (lv : Nat) (hk : k ≠ 3) (hx : x.oneCell' = true) (w : World) :
    Calls Tryd.prog 88 #[.agg #[.int .i64 k, .string tx, .int .i64 m, x], .int .i64 lv] w fun e w' => e = .returned (.int .i64 0) ∧ Below w.heap.size w w' := by
  have gk : ((k : Int) == 3) = false := by simp only [beq_eq_false_iff_ne]; omega
  have gk2 : ((k : Int) != 3) = true := by simp only [bne_iff_ne]; omega
  have HX := Lib.hid hx
  go_enter Tryd.func88, Tryd.ntmps88
  go_wp2
  go_ret
  exact ⟨rfl, (Below.refl _ _).alloc (Nat.le_refl _) _⟩
end Go.Proofs.YtgkfmeccipgnjaaDoor
