/- Plain laws for SchedTurns and SchedWaits: eight places, spawned one after the other; a list that is turned. No condition but the bounds named. -/
import Derived.Test.YtkiogbenbicghaaSched4
namespace Go.Proofs.Ytkiogbenbicghaa
open Go.RowKit

/-- The arena behind k more spawns, and those that can run. -/
def spK : Nat → Ar
  | 0 => spnA (Ar.new 8)
  | k + 1 => spnA (spK k)
def rlK (k : Nat) : List Int := (List.range (k + 1)).map (fun i : Nat => (i : Int) + 1)
theorem rlK_len (k : Nat) : (rlK k).length = k + 1 := by simp [rlK]
theorem rlK_bd (k : Nat) : ∀ x ∈ rlK k, 1 ≤ x ∧ x ≤ k + 1 := by
  intro x hx
  simp only [rlK, List.mem_map, List.mem_range] at hx
  obtain ⟨i, hi, rfl⟩ := hx
  omega
theorem all_lt {p : Nat → Bool} {n : Nat} (h : (List.range n).all p = true) {k : Nat} (hk : k < n) : p k = true := List.all_eq_true.1 h k (by simpa using hk)
theorem spK_step {k : Nat} (hk : k < 7) : (spK k).take.1 = (k : Int) + 2 ∧ (spK k).take.2.1 = true ∧ spnA (spK k) = spK (k + 1) ∧ spnR (spK k) (rlK k) = rlK (k + 1) := by
  have key : ((List.range 7).all fun k => decide ((spK k).take.1 = (k : Int) + 2 ∧ (spK k).take.2.1 = true ∧ spnA (spK k) = spK (k + 1) ∧ spnR (spK k) (rlK k) = rlK (k + 1))) = true := by kernel_rfl
  exact of_decide_eq_true (all_lt key hk)
/-- A list turned i times. -/
def turnL (l : List Int) (i : Nat) : List Int := l.drop (i % l.length) ++ l.take (i % l.length)
theorem turn_step {k i : Nat} (hk : k < 8) (hi : i < 40) : (turnL (rlK k) i).getD 0 0 = (rlK k).getD (i % (k + 1)) 0 ∧ yldT (turnL (rlK k) i) ((rlK k).getD (i % (k + 1)) 0) = (true, turnL (rlK k) (i + 1)) := by
  have key : ((List.range 8).all fun k => (List.range 40).all fun i => decide ((turnL (rlK k) i).getD 0 0 = (rlK k).getD (i % (k + 1)) 0 ∧ yldT (turnL (rlK k) i) ((rlK k).getD (i % (k + 1)) 0) = (true, turnL (rlK k) (i + 1)))) = true := by kernel_rfl
  exact of_decide_eq_true (all_lt (all_lt key hk) hi)
theorem turn_len (l : List Int) (i : Nat) : (turnL l i).length = l.length := by
  unfold turnL
  by_cases h : l.length = 0
  · rw [List.eq_nil_of_length_eq_zero h]; simp
  · have := Nat.mod_lt i (Nat.pos_of_ne_zero h)
    simp
    omega
/-- What SchedWaits asks, number by number. -/
theorem wait_step {k j : Nat} (hk : k < 8) (hj : j < k + 1) : ∃ t : Int, (rlK k)[j]? = some t ∧ 1 ≤ t ∧ t ≤ 8 ∧ blkT (rlK k) t = (true, (rlK k).erase t) ∧ blkT ((rlK k).erase t) t = (false, (rlK k).erase t) ∧ yldT ((rlK k).erase t) t = (false, (rlK k).erase t) ∧
    decide (0 ≤ (spK k).place t) = true ∧ extR (spK k) ((rlK k).erase t) t = (rlK k).erase t ∧ decide (0 ≤ (extA (spK k) t).place t) = false ∧ extA (extA (spK k) t) t = extA (spK k) t ∧ extR (extA (spK k) t) ((rlK k).erase t) t = (rlK k).erase t ∧
    rdyT (extA (spK k) t) ((rlK k).erase t) t = (false, (rlK k).erase t) ∧ (extA (spK k) t).place t = -1 ∧ rdyT (spK k) ((rlK k).erase t) t = (true, (rlK k).erase t ++ [t]) ∧ rdyT (spK k) ((rlK k).erase t ++ [t]) t = (false, (rlK k).erase t ++ [t]) ∧ (rlK k).erase t = (rlK k).filter (fun x => decide (x ≠ t)) := by
  have key : ((List.range 8).all fun k => (List.range (k + 1)).all fun j => decide ((fun t : Int => (rlK k)[j]? = some t ∧ 1 ≤ t ∧ t ≤ 8 ∧ blkT (rlK k) t = (true, (rlK k).erase t) ∧ blkT ((rlK k).erase t) t = (false, (rlK k).erase t) ∧ yldT ((rlK k).erase t) t = (false, (rlK k).erase t) ∧
    decide (0 ≤ (spK k).place t) = true ∧ extR (spK k) ((rlK k).erase t) t = (rlK k).erase t ∧ decide (0 ≤ (extA (spK k) t).place t) = false ∧ extA (extA (spK k) t) t = extA (spK k) t ∧ extR (extA (spK k) t) ((rlK k).erase t) t = (rlK k).erase t ∧
    rdyT (extA (spK k) t) ((rlK k).erase t) t = (false, (rlK k).erase t) ∧ (extA (spK k) t).place t = -1 ∧ rdyT (spK k) ((rlK k).erase t) t = (true, (rlK k).erase t ++ [t]) ∧ rdyT (spK k) ((rlK k).erase t ++ [t]) t = (false, (rlK k).erase t ++ [t]) ∧ (rlK k).erase t = (rlK k).filter (fun x => decide (x ≠ t))) ((j : Int) + 1))) = true := by kernel_rfl
  exact ⟨_, of_decide_eq_true (all_lt (all_lt key hk) hj)⟩
end Go.Proofs.Ytkiogbenbicghaa
