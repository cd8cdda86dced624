/- What fifo.New, Len, Push do. Condition: the queues lie in memory (IsFq); for Push: the numbers in the nodes are in range. -/
import Derived.Test.YtajhfjgndkdbnaaFifo
import Derived.Deep.LoopGhost
namespace Go.Proofs.Ytajhfjgndkdbnaa
open Go.RowKit BigFrame

theorem held_calls (n : Int) (w : World) : Calls Try.prog 32 #[.int .i64 n] w fun e w' => e = .returned (.int .i64 (max 0 (min n 32))) ∧ w' = w := by
  go_enter Try.func32, Try.ntmps32
  go_wp2
  all_goals go_ret
  all_goals refine ⟨?_, rfl⟩
  all_goals show Ending.returned (Value.int _ _) = _
  all_goals congr 2
  all_goals omega

def heldN (n : Int) : Nat := (max 0 (min n 32)).toNat
theorem heldN_le (n : Int) : heldN n ≤ 32 := by unfold heldN; omega
set_option maxHeartbeats 4000000 in
theorem fnew_calls (a b : Int) (w : World) :
    Calls Try.prog 22 #[.int .i64 a, .int .i64 b] w fun e w' => ∃ g bq bn, e = .returned (.pointer (some ⟨g, 0, none⟩)) ∧ IsFq w' g bq bn (List.replicate (heldN a) (-1, -1, 0)) (List.replicate (heldN b) (-1, -1, -1)) ∧ w.heap.size ≤ g ∧ w.heap.size ≤ bq ∧ w.heap.size ≤ bn ∧ Below w.heap.size w w' := by
  have ha := heldN_le a
  have hb := heldN_le b
  have h1 := fun u : World => held_calls a u
  have h2 := fun u : World => held_calls b u
  rw [show max 0 (min a 32) = ((heldN a : Nat) : Int) by unfold heldN; omega] at h1
  rw [show max 0 (min b 32) = ((heldN b : Nat) : Int) by unfold heldN; omega] at h2
  obtain ⟨m, hm⟩ : ∃ m, m = heldN a := ⟨_, rfl⟩
  obtain ⟨n, hn⟩ : ∃ n, n = heldN b := ⟨_, rfl⟩
  rw [← hm] at ha h1 ⊢
  rw [← hn] at hb h2 ⊢
  clear hm hn
  go_enter Try.func22, Try.ntmps22
  go_wp2_with fail
  refine (h1 _).mono ?_
  rintro e w0 ⟨rfl, rfl⟩
  go_wp2_with fail
  refine (repeat_queue (-1) (-1) 0 m ha w.heap.size _ (heap_alloc_new w _)).mono ?_
  rintro e w1 ⟨rfl, hg1, hs1, hb1⟩
  have hz : (w.alloc (.cells #[.int .i64 (-1), .int .i64 (-1), .int .i64 0] 61)).heap.size = w.heap.size + 1 := by simp
  rw [hz] at hg1 hs1 hb1
  go_wp2_with fail
  refine (h2 _).mono ?_
  rintro e w2 ⟨rfl, rfl⟩
  go_wp2_with fail
  refine (repeat_node (-1) (-1) (-1) n hb w1.heap.size _ (heap_alloc_new w1 _)).mono ?_
  rintro e w3 ⟨rfl, hg3, hs3, hb3⟩
  have hz3 : (w1.alloc (.cells #[.int .i64 (-1), .int .i64 (-1), .int .i64 (-1)] 65)).heap.size = w1.heap.size + 1 := by simp
  rw [hz3] at hg3 hs3 hb3
  go_wp2_with fail
  go_ret
  have hq3 : w3.heap[w.heap.size + 1]? = some (.cells (rep m [.int .i64 (-1), .int .i64 (-1), .int .i64 0]).toArray 61 (0, 0)) := (hb3.block _ (by omega)).trans ((Below.heap_alloc _ _ _ (by omega)).trans hg1)
  refine ⟨w3.heap.size, w.heap.size + 1, w1.heap.size + 1, rfl, ⟨?_, ?_, ?_, by simpa using ha, by simpa using hb⟩, by omega, by omega, by omega, ?_⟩
  · simpa using heap_alloc_new w3 (.cells #[.slice (some ⟨w.heap.size + 1, 0, none⟩) m m, .slice (some ⟨w1.heap.size + 1, 0, none⟩) n n] 67)
  · rw [← flat_rep]
    exact (Below.heap_alloc _ _ _ (by omega)).trans hq3
  · rw [← flat_rep]
    exact (Below.heap_alloc _ _ _ (by omega)).trans hg3
  · have b1 : Below w.heap.size w w1 := ((Below.refl _ w).alloc (Nat.le_refl _) _).trans (hb1.mono (by omega))
    exact ((b1.alloc (by omega) _).trans (hb3.mono (by omega))).alloc (by omega) _

def lenF (qs : List T3) (n : Int) : Int := if n < 0 then 0 else match qs[n.toNat]? with | some t => t.2.2 | none => 0
end Go.Proofs.Ytajhfjgndkdbnaa
