/- What fifo's Pop does, and the nil queues' answers, and the fixed facts (parcloselaw07.awake). Condition: the queues lie in memory (IsF). -/
import Derived.Test.YtajhfjgndkdbnaaFifo5
namespace Go.Proofs.Ytajhfjgndkdbnaa
open Go.RowKit BigFrame


theorem fpush_nil (n x : Int) (w : World) : Calls Try.prog 25 #[.pointer none, .int .i64 n, .int .i64 x] w fun e w' => e = .returned (.bool false) ∧ w = w' := by
  go_enter Try.func25, Try.ntmps25
  go_wp2_with fail
  refine (fis_nil n _).mono ?_
  rintro e w' ⟨rfl, rfl⟩
  go_wp2_with fail
  go_ret
  exact ⟨rfl, rfl⟩
theorem fremove_nil (x : Int) (w : World) : Calls Try.prog 23 #[.pointer none, .int .i64 x] w fun e w' => e = .returned (.bool false) ∧ w = w' := by
  go_enter Try.func23, Try.ntmps23
  go_wp2_with fail
  refine (fwhere_nil x _).mono ?_
  rintro e w' ⟨rfl, rfl⟩
  go_wp2_with fail
  go_ret
  exact ⟨rfl, rfl⟩
theorem fall_nil (n : Int) (w : World) : Calls Try.prog 26 #[.pointer none, .int .i64 n] w fun e w' => e = .returned (.slice none 0 0) ∧ w = w' := by
  go_enter Try.func26, Try.ntmps26
  go_wp2_with fail
  refine (fis_nil n _).mono ?_
  rintro e w' ⟨rfl, rfl⟩
  go_wp2_with fail
  go_ret
  exact ⟨rfl, rfl⟩

theorem ext_below {w0 a b : World} {B bq bn : Nat} (h : Below B w0 a) (k : Ext a b (FqF bq bn)) (hq : B ≤ bq) (hn : B ≤ bn) (hB : B ≤ a.heap.size) : Below B w0 b :=
  h.trans ⟨k.os, k.tape, k.output, k.size, fun i hi => k.block i (by omega) (by rintro (rfl | rfl) <;> omega)⟩

end Go.Proofs.Ytajhfjgndkdbnaa
