/- The walk of the statement SchedNone: it returns true. Condition: the number fits its kind. -/
import Derived.Test.YtkiogbenbicghaaSched4
namespace Go.Proofs.Ytkiogbenbicghaa
open Go.RowKit BigFrame

set_option maxRecDepth 100000 in
set_option maxHeartbeats 8000000 in
theorem schedNone_walk (w : World) (n : Int) (_ : -9223372036854775808 ≤ n) (_ : n ≤ 9223372036854775807) :
    Calls Try.prog 12 #[.int .i64 n] w fun e w' => e = .returned (.bool true) ∧ Below w.heap.size w w' := by
  go_enter Try.func12, Try.ntmps12
  go_wp2_with fail
  refine (sspawn_nil _).mono ?_
  rintro e w' ⟨rfl, rfl⟩
  go_wp2_with fail
  refine (spick_nil n _).mono ?_
  rintro e w' ⟨rfl, rfl⟩
  go_wp2_with fail
  refine (awake9_calls _).mono ?_
  rintro e w1 ⟨rfl, hb1⟩
  have B1 := Lib.hid hb1
  clear hb1
  go_wp2_with fail
  refine (sexit_nil n _).mono ?_
  rintro e w' ⟨rfl, rfl⟩
  go_wp2_with fail
  refine (syield_nil n _).mono ?_
  rintro e w' ⟨rfl, q1, rfl⟩
  go_wp2_with fail
  refine (sblock_nil n _).mono ?_
  rintro e w' ⟨rfl, q2, rfl⟩
  go_wp2_with fail
  refine (sready_nil n _).mono ?_
  rintro e w' ⟨rfl, q3, rfl⟩
  go_wp2_with fail
  refine (splace_nil n _).mono ?_
  rintro e w' ⟨rfl, rfl⟩
  go_wp2_with fail
  refine (srun_nil _).mono ?_
  rintro e w' ⟨rfl, rfl⟩
  go_wp2_with fail
  refine (stasks_nil _).mono ?_
  rintro e w' ⟨rfl, rfl⟩
  go_wp2_with fail
  go_ret
  exact ⟨rfl, by first | exact below_drewN (below_drewN (below_drewN B1.out _) _) _ | exact ⟨B1.out.os, B1.out.tape, B1.out.output, B1.out.size, B1.out.block⟩⟩
end Go.Proofs.Ytkiogbenbicghaa
