/- Plain Lean for FifoOrder: what the acts do to three queues of which the first is empty, the second holds small items alone, the third great ones alone. No program, no condition. -/
import Derived.Test.YtajhfjgndkdbnaaLaw07b
namespace Go.Proofs.Ytajhfjgndkdbnaa
open Go.RowKit

/-- The second queue holds l1. -/
def OrdL (L : List (List Nat)) (l1 : List Nat) : Prop := ∃ l2, L = [[], l1, l2] ∧ (∀ y ∈ l1, y < 16) ∧ ∀ y ∈ l2, 16 ≤ y
theorem hasL_three (l1 l2 : List Nat) (x : Nat) : hasL [[], l1, l2] x = (l1.contains x || l2.contains x) := by simp [hasL]
theorem ordL_new : OrdL (List.replicate 3 []) [] := ⟨[], rfl, by simp, by simp⟩
theorem ordL_push {L : List (List Nat)} {l1 : List Nat} (h : OrdL L l1) (x : Nat) (hx : x < 16) :
    ((pushL L 32 1 x).1 = true ∧ OrdL (pushL L 32 1 x).2 (l1 ++ [x])) ∨ ((pushL L 32 1 x).1 = false ∧ OrdL (pushL L 32 1 x).2 l1) := by
  obtain ⟨l2, rfl, h1, h2⟩ := h
  by_cases hh : hasL [[], l1, l2] x = false
  · left
    have hv : pushL [[], l1, l2] 32 1 x = (true, [[], l1 ++ [x], l2]) := by
      unfold pushL
      rw [if_pos ⟨by omega, by simp, by omega, by omega, by simpa using hh⟩]
      first | rfl | simp
    rw [hv]
    refine ⟨rfl, l2, rfl, ?_, h2⟩
    intro y hy
    rcases List.mem_append.1 hy with h | h
    · exact h1 y h
    · simp at h; omega
  · right
    have hv : pushL [[], l1, l2] 32 1 x = (false, [[], l1, l2]) := by
      unfold pushL
      rw [if_neg]
      rintro ⟨_, _, _, _, h⟩
      exact hh (by simpa using h)
    rw [hv]
    exact ⟨rfl, l2, rfl, h1, h2⟩
theorem ordL_push2 {L : List (List Nat)} {l1 : List Nat} (h : OrdL L l1) (x : Nat) (h16 : 16 ≤ x) : OrdL (pushL L 32 2 x).2 l1 := by
  obtain ⟨l2, rfl, h1, h2⟩ := h
  unfold pushL
  split
  · refine ⟨l2 ++ [x], by simp, h1, ?_⟩
    intro y hy
    rcases List.mem_append.1 hy with h | h
    · exact h2 y h
    · simp at h; omega
  · exact ⟨l2, rfl, h1, h2⟩
theorem ordL_pop2 {L : List (List Nat)} {l1 : List Nat} (h : OrdL L l1) : OrdL (popL L 2).2.2 l1 := by
  obtain ⟨l2, rfl, h1, h2⟩ := h
  unfold popL
  rw [if_neg (by omega)]
  cases l2 with
  | nil => exact ⟨[], rfl, h1, by simp⟩
  | cons a r => exact ⟨r, rfl, h1, fun y hy => h2 y (by simp [hy])⟩
theorem ordL_remove {L : List (List Nat)} {l1 : List Nat} (h : OrdL L l1) (x : Nat) (h16 : 16 ≤ x) : OrdL (removeL L x).2 l1 := by
  obtain ⟨l2, rfl, h1, h2⟩ := h
  unfold removeL
  split
  · refine ⟨l2.erase x, ?_, h1, fun y hy => h2 y (List.mem_of_mem_erase hy)⟩
    have hn : x ∉ l1 := fun hx => by have := h1 x hx; omega
    simp [List.erase_of_not_mem hn]
  · exact ⟨l2, rfl, h1, h2⟩
theorem ordL_all {L : List (List Nat)} {l1 : List Nat} (h : OrdL L l1) : allL L 1 = l1 := by
  obtain ⟨l2, rfl, h1, h2⟩ := h
  simp [allL]
/-- The second queue's first item comes out, and is nowhere any more. -/
theorem ordL_pop {L : List (List Nat)} {x : Nat} {r : List Nat} (h : OrdL L (x :: r)) (hnd : (x :: r).Nodup) :
    (popL L 1).1 = (x : Int) ∧ (popL L 1).2.1 = true ∧ OrdL (popL L 1).2.2 r ∧ lenL (popL L 1).2.2 1 = (r.length : Int) ∧ whereL (popL L 1).2.2 x = -1 := by
  obtain ⟨l2, rfl, h1, h2⟩ := h
  have hv : popL [[], x :: r, l2] 1 = ((x : Int), true, [[], r, l2]) := by
    unfold popL
    rw [if_neg (by omega)]
    rfl
  rw [hv]
  refine ⟨rfl, rfl, ⟨l2, rfl, fun y hy => h1 y (by simp [hy]), h2⟩, by simp [lenL], ?_⟩
  unfold whereL
  rw [if_neg (by omega)]
  have hx := h1 x (by simp)
  have hr : x ∉ r := (List.nodup_cons.1 hnd).1
  have hl : x ∉ l2 := fun hm => by have := h2 x hm; omega
  simp [List.findIdx?_cons, hr, hl]
theorem ordL_done {L : List (List Nat)} (h : OrdL L []) : (popL L 1).2.1 = false := by
  obtain ⟨l2, rfl, h1, h2⟩ := h
  unfold popL
  rw [if_neg (by omega)]
  rfl
theorem ordL_nodup {w : World} {g bq bn N : Nat} {L : List (List Nat)} {l1 : List Nat} (h : IsF w g bq bn L N) (ho : OrdL L l1) : l1.Nodup := by
  obtain ⟨qs, ns, _, hr⟩ := h
  obtain ⟨l2, rfl, _, _⟩ := ho
  exact hr.nd 1 l1 rfl
end Go.Proofs.Ytajhfjgndkdbnaa
