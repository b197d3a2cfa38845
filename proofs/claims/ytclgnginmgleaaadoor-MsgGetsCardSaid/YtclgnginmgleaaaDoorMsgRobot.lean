/-
  The walk of msg's Robot.
-/
import Derived.Test.YtclgnginmgleaaaDoorMsg
namespace Go.Proofs.YtclgnginmgleaaaDoor
open Go Go.RowKit Go.Sort

set_option maxRecDepth 100000 in
theorem robot_any (n : Int) (w : World) : Calls Tryd.prog 15 #[.int .i64 n] w fun e w' => e = .returned (.bool (M.isRobot n)) ∧ w' = w := by
  go_enter Tryd.func15, Tryd.ntmps15
  go_wp2
  all_goals
    go_ret
    refine ⟨?_, rfl⟩
    congr 2
    simp_all [M.isRobot]
end Go.Proofs.YtclgnginmgleaaaDoor
