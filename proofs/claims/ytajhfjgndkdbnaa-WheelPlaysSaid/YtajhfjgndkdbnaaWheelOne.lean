/- Timers that are set one by one, in the order of their numbers, plainly: who is due when, and in which order. No condition. -/
import Derived.Test.YtajhfjgndkdbnaaWheel
namespace Go.Proofs.Ytajhfjgndkdbnaa

/-- The first k timers are set, each at its T; those that were due by low are gone. -/
structure MS (T : Nat → Int) (k : Nat) (low : Int) (M : List (Int × Nat)) : Prop where
  ord : M.Pairwise (fun p q => p.1 < q.1 ∨ (p.1 = q.1 ∧ p.2 < q.2))
  mem : ∀ a i, (a, i) ∈ M ↔ i < k ∧ a = T i ∧ low < a
section
variable {T : Nat → Int} {k : Nat} {low : Int} {M : List (Int × Nat)}
theorem MS.start (T : Nat → Int) (low : Int) : MS T 0 low [] := ⟨List.Pairwise.nil, fun a i => by simp⟩
theorem MS.le (h : MS T k low M) : M.Pairwise (fun p q => p.1 ≤ q.1) := h.ord.imp (fun h => by omega)
theorem MS.stop (h : MS T k low M) : stopM M (k : Nat) = M := by
  unfold stopM
  rw [List.filter_eq_self]
  intro p hp
  have := ((h.mem p.1 p.2).1 hp).1
  simp
  omega
theorem MS.set (h : MS T k low M) (hT : low < T k) : MS T (k + 1) low (insM M (T k) k) := by
  unfold insM
  rw [h.stop, (split_sorted (T k) M h.le).1, (split_sorted (T k) M h.le).2]
  refine ⟨List.pairwise_append.2 ⟨h.ord.sublist List.filter_sublist, List.pairwise_cons.2 ⟨fun p hp => ?_, h.ord.sublist List.filter_sublist⟩, fun p hp q hq => ?_⟩, fun a i => ?_⟩
  · have := (List.mem_filter.1 hp).2
    simp only [decide_eq_true_eq] at this
    exact .inl this
  · obtain ⟨p1, p2⟩ := List.mem_filter.1 hp
    simp only [decide_eq_true_eq] at p2
    have pk := ((h.mem p.1 p.2).1 p1).1
    rcases List.mem_cons.1 hq with rfl | hq
    · simp only
      omega
    · have := (List.mem_filter.1 hq).2
      simp only [decide_eq_true_eq] at this
      exact .inl (by omega)
  · simp only [List.mem_append, List.mem_cons, List.mem_filter, decide_eq_true_eq, Prod.mk.injEq]
    constructor
    · rintro (⟨h1, _⟩ | ⟨rfl, rfl⟩ | ⟨h1, _⟩)
      · have := (h.mem a i).1 h1
        exact ⟨by omega, this.2⟩
      · exact ⟨by omega, rfl, hT⟩
      · have := (h.mem a i).1 h1
        exact ⟨by omega, this.2⟩
    · rintro ⟨h1, rfl, h3⟩
      by_cases hi : i = k
      · exact .inr (.inl ⟨by rw [hi], hi⟩)
      · have := (h.mem (T i) i).2 ⟨by omega, rfl, h3⟩
        by_cases hc : T i ≤ T k
        · exact .inl ⟨this, hc⟩
        · exact .inr (.inr ⟨this, by omega⟩)
theorem MS.rest (h : MS T k low M) {t : Int} (ht : low ≤ t) : MS T k t (restM M t) := by
  unfold restM
  rw [(split_sorted t M h.le).2]
  refine ⟨h.ord.sublist List.filter_sublist, fun a i => ?_⟩
  rw [List.mem_filter, h.mem a i, decide_eq_true_eq]
  constructor
  · rintro ⟨⟨h1, h2, _⟩, h3⟩
    exact ⟨h1, h2, h3⟩
  · rintro ⟨h1, h2, h3⟩
    exact ⟨⟨h1, h2, by omega⟩, h3⟩
theorem MS.due_mem (h : MS T k low M) (t : Int) (i : Nat) : i ∈ dueM M t ↔ i < k ∧ low < T i ∧ T i ≤ t := by
  unfold dueM
  rw [(split_sorted t M h.le).1, List.mem_map]
  constructor
  · rintro ⟨p, hp, rfl⟩
    obtain ⟨h1, h2⟩ := List.mem_filter.1 hp
    rw [decide_eq_true_eq] at h2
    obtain ⟨g1, g2, g3⟩ := (h.mem p.1 p.2).1 h1
    exact ⟨g1, by omega, by omega⟩
  · rintro ⟨h1, h2, h3⟩
    exact ⟨(T i, i), List.mem_filter.2 ⟨(h.mem _ _).2 ⟨h1, rfl, h2⟩, by simpa using h3⟩, rfl⟩
theorem MS.due_ord (h : MS T k low M) (t : Int) : (dueM M t).Pairwise (fun i j => T i < T j ∨ (T i = T j ∧ i < j)) := by
  unfold dueM
  rw [(split_sorted t M h.le).1, List.pairwise_map]
  have hs := h.ord.sublist (List.filter_sublist (p := fun p => decide (p.1 ≤ t)))
  refine List.Pairwise.imp_of_mem ?_ hs
  intro p q hp hq hpq
  have h1 := ((h.mem p.1 p.2).1 (List.mem_filter.1 hp).1).2.1
  have h2 := ((h.mem q.1 q.2).1 (List.mem_filter.1 hq).1).2.1
  rw [← h1, ← h2]
  exact hpq
theorem MS.due_nodup (h : MS T k low M) (t : Int) : (dueM M t).Nodup := (h.due_ord t).imp (fun h e => by subst e; omega)
theorem MS.due_len (h : MS T k low M) (t : Int) : (dueM M t).length ≤ k := by
  refine short_nodup k _ (h.due_nodup t) (fun i hi => ((h.due_mem t i).1 hi).1)
theorem MS.next (h : MS T k low M) : (nextM M).2 = true → low < (nextM M).1 := by
  cases M with
  | nil => intro h; cases h
  | cons p M => exact fun _ => ((h.mem p.1 p.2).1 (by simp)).2.2
theorem MS.at_ (h : MS T k low M) {i : Nat} (hi : i < k) : (atM M (i : Nat)).2 = decide (low < T i) := by
  unfold atM
  by_cases hl : low < T i
  · rw [decide_eq_true hl]
    have hm := (h.mem (T i) i).2 ⟨hi, rfl, hl⟩
    have : (M.find? (fun p => decide ((p.2 : Int) = (i : Int)))).isSome := by
      rw [List.find?_isSome]
      exact ⟨_, hm, by simp⟩
    obtain ⟨p, hp⟩ := Option.isSome_iff_exists.1 this
    rw [hp]
  · rw [decide_eq_false hl]
    have : M.find? (fun p => decide ((p.2 : Int) = (i : Int))) = none := by
      rw [List.find?_eq_none]
      intro p hp
      have := (h.mem p.1 p.2).1 hp
      simp only [decide_eq_true_eq]
      intro e
      have e2 : p.2 = i := by omega
      rw [e2] at this
      omega
    rw [this]
end
end Go.Proofs.Ytajhfjgndkdbnaa
