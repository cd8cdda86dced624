/- Insertion, plainly: a list is sorted from the front; one more is put where it belongs. No condition. -/
import Derived.Test.YtajhfjgndkdbnaaWheelPure
namespace Go.Proofs.Ytajhfjgndkdbnaa

def wle (D : WD) (x y : Nat) : Prop := ¬ wl D y x
theorem wl_wle {D : WD} {x y : Nat} (h : wl D x y) : wle D x y := wl_asymm h
theorem wle_back {D : WD} {x p q : Nat} (h1 : wle D p q) (h2 : ¬ wl D x q) : wle D p x := by
  unfold wle wl at *
  omega
/-- The one at j of R is on its way: those ahead of it and behind it, up to i, are sorted; it is ahead of those behind it. -/
def Inn (D : WD) (R0 R : List Nat) (i j : Nat) : Prop := ∃ (P : List Nat) (x : Nat) (Q T : List Nat), R = P ++ x :: (Q ++ T) ∧ P.length = j ∧ j + Q.length = i ∧ (P ++ Q).Pairwise (wle D) ∧ (∀ q ∈ Q, wl D x q) ∧ R.Perm R0
theorem Inn.start {D : WD} {R0 R : List Nat} {i : Nat} (hp : R.Perm R0) (hs : (R.take i).Pairwise (wle D)) (hi : i < R.length) : Inn D R0 R i i := by
  refine ⟨R.take i, R[i], [], R.drop (i + 1), ?_, by simp; omega, by simp, by simpa using hs, by simp, hp⟩
  rw [List.nil_append, ← List.drop_eq_getElem_cons hi, List.take_append_drop]
theorem Inn.step {D : WD} {R0 R : List Nat} {i j x p : Nat} (h : Inn D R0 R i (j + 1)) (hx : R[j + 1]? = some x) (hp : R[j]? = some p) (hl : wl D x p) : Inn D R0 ((R.set (j + 1) p).set j x) i j := by
  obtain ⟨P, y, Q, T, rfl, h1, h2, h3, h4, h5⟩ := h
  have hPne : P ≠ [] := fun e => by rw [e] at h1; simp at h1
  obtain ⟨P', q, rfl⟩ : ∃ P' q, P = P' ++ [q] := ⟨P.dropLast, P.getLast hPne, (List.dropLast_concat_getLast hPne).symm⟩
  have hl' : P'.length = j := by simp at h1; omega
  have hy : y = x := by
    rw [List.getElem?_append_right (by simp; omega)] at hx
    simpa [hl'] using hx
  have hq : q = p := by
    rw [List.append_assoc, List.getElem?_append_right (by omega)] at hp
    simpa [hl'] using hp
  subst hy hq
  have e : (((P' ++ [q]) ++ y :: (Q ++ T)).set (j + 1) q).set j y = P' ++ y :: ((q :: Q) ++ T) := by
    rw [List.append_assoc, ← hl', List.set_append_right _ _ (by omega), List.set_append_right _ _ (by omega)]
    simp
  rw [e]
  refine ⟨P', y, q :: Q, T, rfl, hl', by simp; omega, by simpa using h3, fun z hz => ?_, ?_⟩
  · rcases List.mem_cons.1 hz with rfl | hz
    · exact hl
    · exact h4 z hz
  · refine List.Perm.trans ?_ h5
    rw [List.append_assoc]
    refine List.Perm.append_left P' ?_
    simpa using List.Perm.swap q y (Q ++ T)
theorem Inn.stop {D : WD} {R0 R : List Nat} {i j : Nat} (h : Inn D R0 R i j) (hs : j = 0 ∨ ∃ j' x p, j = j' + 1 ∧ R[j' + 1]? = some x ∧ R[j']? = some p ∧ ¬ wl D x p) : R.Perm R0 ∧ (R.take (i + 1)).Pairwise (wle D) := by
  obtain ⟨P, y, Q, T, rfl, h1, h2, h3, h4, h5⟩ := h
  refine ⟨h5, ?_⟩
  have e : (P ++ y :: (Q ++ T)).take (i + 1) = P ++ y :: Q := by
    rw [show P ++ y :: (Q ++ T) = (P ++ y :: Q) ++ T by simp, List.take_append_of_le_length (by simp; omega), List.take_of_length_le (by simp; omega)]
  rw [e]
  obtain ⟨a1, a2, a3⟩ := List.pairwise_append.1 h3
  refine List.pairwise_append.2 ⟨a1, List.pairwise_cons.2 ⟨fun q hq => wl_wle (h4 q hq), a2⟩, fun p hp z hz => ?_⟩
  rcases List.mem_cons.1 hz with rfl | hz
  · rcases hs with hs | ⟨j', x, p', rfl, hx, hp', hnl⟩
    · rw [hs] at h1
      rw [List.eq_nil_of_length_eq_zero h1] at hp
      cases hp
    · have hPne : P ≠ [] := fun e => by rw [e] at h1; simp at h1
      obtain ⟨P', q, rfl⟩ : ∃ P' q, P = P' ++ [q] := ⟨P.dropLast, P.getLast hPne, (List.dropLast_concat_getLast hPne).symm⟩
      have hl' : P'.length = j' := by simp at h1; omega
      have hy : z = x := by
        rw [List.getElem?_append_right (by simp; omega)] at hx
        simpa [hl'] using hx
      have hq : q = p' := by
        rw [List.append_assoc, List.getElem?_append_right (by omega)] at hp'
        simpa [hl'] using hp'
      subst hy hq
      rcases List.mem_append.1 hp with hp | hp
      · exact wle_back ((List.pairwise_append.1 a1).2.2 p hp q (by simp)) hnl
      · rw [List.mem_singleton] at hp
        subst hp
        exact hnl
  · exact a3 p hp z hz
theorem Inn.len {D : WD} {R0 R : List Nat} {i j : Nat} (h : Inn D R0 R i j) : R.length = R0.length ∧ j ≤ i ∧ i < R.length := by
  obtain ⟨P, y, Q, T, rfl, h1, h2, h3, h4, h5⟩ := h
  exact ⟨h5.length_eq, by omega, by simp; omega⟩
theorem Inn.sub {D : WD} {R0 R : List Nat} {i j : Nat} (h : Inn D R0 R i j) : ∀ x, x ∈ R ↔ x ∈ R0 := by
  obtain ⟨P, y, Q, T, rfl, h1, h2, h3, h4, h5⟩ := h
  exact fun x => h5.mem_iff
end Go.Proofs.Ytajhfjgndkdbnaa
