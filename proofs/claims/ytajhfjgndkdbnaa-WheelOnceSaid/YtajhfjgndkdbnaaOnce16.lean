/- The timers beside a row that counts, for the statement WheelOnce. No condition. -/
import Derived.Test.YtajhfjgndkdbnaaLaw08b
namespace Go.Proofs.Ytajhfjgndkdbnaa
open Go.RowKit BigFrame

/-- How often each of sixteen numbers comes. -/
def cnt16 (P : List Nat) : List Int := (List.range 16).map (fun x => ((P.count x : Nat) : Int))
theorem cnt16_len (P : List Nat) : (cnt16 P).length = 16 := by simp [cnt16]
theorem cnt16_get (P : List Nat) (x : Nat) (hx : x < 16) : (cnt16 P)[x]? = some ((P.count x : Nat) : Int) := by simp [cnt16, hx]
theorem cnt16_set (P : List Nat) (x : Nat) (hx : x < 16) : (cnt16 P).set x (((P.count x : Nat) : Int) + 1) = cnt16 (P ++ [x]) := by
  apply List.ext_getElem?
  intro j
  by_cases hj : j = x
  · subst hj
    rw [List.getElem?_set_self (by rw [cnt16_len]; exact hx), cnt16_get _ _ hx, List.count_append]
    simp
  · rw [List.getElem?_set_ne (fun e => hj e.symm)]
    by_cases h12 : j < 16
    · rw [cnt16_get _ _ h12, cnt16_get _ _ h12, List.count_append]
      have : List.count j [x] = 0 := by
        simp [List.count_cons]
        exact fun e => hj e.symm
      rw [this]
      simp
    · rw [List.getElem?_eq_none (by rw [cnt16_len]; omega), List.getElem?_eq_none (by rw [cnt16_len]; omega)]
theorem cnt16_nil : cnt16 [] = List.replicate 16 0 := by decide
/-- K timers, those due by low gone; a row in block bm that counts what P names. -/
structure FO (w wr : World) (b : WB) (bm K : Nat) (T : Nat → Int) (low : Int) (P : List Nat) : Prop where
  m : ∃ M, MS T K low M ∧ Wm w wr b 16 M K
  r : wr.ownsRow w.heap.size 3 1 (.slice (some ⟨bm, 0, none⟩) 16 16) 16 (ints (cnt16 P))
  ne : ∀ k, k = b.G ∨ b.ft k → k ≠ bm
section
variable {w wr w2 : World} {b : WB} {bm K : Nat} {T : Nat → Int} {low : Int} {P : List Nat}
theorem FO.lt (h : FO w wr b bm K T low P) : bm < wr.heap.size := (h.r.lt bm rfl).2
theorem FO.ge (h : FO w wr b bm K T low P) : w.heap.size ≤ bm := (h.r.lt bm rfl).1
theorem FO.base (h : FO w wr b bm K T low P) : Below w.heap.size w wr := by
  obtain ⟨M, _, h2⟩ := h.m
  exact h2.2
theorem FO.plus (h : FO w wr b bm K T low P) (hb : Below wr.heap.size wr w2) : FO w w2 b bm K T low P := by
  obtain ⟨M, h1, h2⟩ := h.m
  exact ⟨⟨M, h1, h2.plus hb⟩, owns_same h.r (fun k hk => hb.block k (h.r.lt k hk).2), h.ne⟩
theorem FO.cell (h : FO w wr b bm K T low P) {x : Nat} (hx : x < 16) : wr.cell? ⟨bm, x, none⟩ = some (.int .i64 ((P.count x : Nat) : Int)) := owns_int h.r (cnt16_get _ x hx)
theorem FO.set (h : FO w wr b bm K T low P) {x : Nat} (hx : x < 16) : FO w (wr.setCell ⟨bm, x, none⟩ (.int .i64 (((P.count x : Nat) : Int) + 1))) b bm K T low (P ++ [x]) := by
  obtain ⟨M, h1, ⟨D, g1, g2⟩, h3⟩ := h.m
  refine ⟨⟨M, h1, ⟨D, g1.frame (fun k hk => Below.heap_setCell _ _ _ _ (h.ne k hk)), g2⟩, h3.setCell (p := ⟨bm, x, none⟩) h.ge _⟩, ?_, h.ne⟩
  have h4 := (h.r.stored x (.int .i64 (((P.count x : Nat) : Int) + 1))).1
  rw [← cnt16_set P x hx, ints_set]
  exact h4
theorem FO.at_ (h : FO w wr b bm K T low P) {i : Nat} (hi : i < K) :
    Calls Try.prog 20 #[.pointer (some ⟨b.s, 0, none⟩), .int .i64 i] wr fun e w' => ∃ a, e = .returned (.tuple #[.int .i64 a, .bool (decide (low < T i))]) ∧ wr = w' := by
  obtain ⟨M, h1, h2⟩ := h.m
  refine (h2.at (i : Nat) (a := (atM M i).1) (ok := decide (low < T i)) ?_).mono fun _ _ ⟨e1, e2⟩ => ⟨_, e1, e2⟩
  rw [← h1.at_ hi]
theorem FO.due (h : FO w wr b bm K T low P) (hF : ∀ k, b.ft k → w.heap.size ≤ k) (t : Nat) (ht : low ≤ t) (ht2 : t ≤ 4611686018427387904) :
    Calls Try.prog 10 #[.pointer (some ⟨b.s, 0, none⟩), .int .i64 t] wr fun e w' => ∃ (v : Value) (D : List Nat), e = .returned v ∧ Reads w' 1 v D.length (ints (asInts D)) ∧ (∀ k, v.ownBlock = some k → k ≠ bm) ∧ D.Nodup ∧ (∀ i, i ∈ D ↔ i < K ∧ low < T i ∧ T i ≤ t) ∧ FO w w' b bm K T t P := by
  obtain ⟨M, h1, h2, h3⟩ := h.m
  have hd := wdue_calls h2 (sorts_all b 16) (t : Int) (by omega)
  rw [held_small (by omega) (by omega)] at hd
  refine hd.mono fun _ _ ⟨v, e1, e2, e3, e4, e5⟩ => ⟨v, dueM M t, e1, e2, fun k hk e => ?_, h1.due_nodup t, h1.due_mem t, ⟨_, h1.rest ht, e4, ext_below2 h3 e5 hF⟩, owns_same h.r (fun k hk => e5.block k (h.r.lt k hk).2 (fun hf => ?_)), h.ne⟩
  · have := e3 k hk
    have := h.lt
    omega
  · simp only [Value.ownBlock, Option.some.injEq] at hk
    exact h.ne k (.inr hf) hk.symm
end
end Go.Proofs.Ytajhfjgndkdbnaa
