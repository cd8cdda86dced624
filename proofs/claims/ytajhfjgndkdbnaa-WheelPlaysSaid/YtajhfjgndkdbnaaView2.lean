/- A slice of whole numbers of one kind that came in, as a list. Conditions: it can be read as data. -/
import Derived.Test.YtajhfjgndkdbnaaView
namespace Go.Proofs.Ytajhfjgndkdbnaa
open Go.ChangeShapes Go.WideShapes Go.ChangeAt Go.RowKit Go
section
variable {H : Type} {enc : TypeId × Value → H} {P : Program} {w : World} {base : Nat} {spare : Nat → Bool} {held : Bool}
theorem view_ints {t e : TypeId} {k : IntKind} {r : Reach} {b0 : Nat} {v : Value} {d : DataW H} {p : List MemPlace} (ht : P.underlying t = some (.slice e)) (he : P.underlying e = some (.int k)) (hc : P.cellsOf e = 1)
    (hv : Value.okWide P w r b0 t v) (h : DataW.Trod enc P w base spare held t v d p) :
    ∃ (n : Nat) (xs : List Int), xs.length = n ∧ Reads w 1 v n (xs.map (Value.int k)) ∧ (∀ x ∈ xs, (Lit.int k x).wf = true) ∧ (n = 0 ∨ ∃ elems sp : List (DataW H), d = .slice elems sp ∧ elems.length = n) := by
  obtain ⟨a0, len, cap, rfl⟩ := okWide_slice ht hv
  obtain ⟨fuel, hf⟩ := h
  rcases open_ints ht he hc hf with ⟨hcs, hx⟩ | ⟨a, len', cap', zs, hcs, hb, hl, hm, hzl, hx, hz, hw⟩
  · simp [Value.cells] at hcs
    obtain ⟨rfl, rfl, rfl⟩ := hcs
    exact ⟨0, [], rfl, by simpa using Reads.nil w 1, fun x hx => by simp at hx, .inl rfl⟩
  · simp [Value.cells] at hcs
    obtain ⟨rfl, rfl, rfl⟩ := hcs
    have hle : len ≤ zs.length := by rw [hzl]; split <;> omega
    refine ⟨len, zs.take len, by simp; omega, ⟨by simp; omega, some a, cap, rfl, hl, hm, fun hn => ?_⟩, fun x hx => hw x (List.mem_of_mem_take hx), .inr ⟨_, _, (Prod.mk.inj hx).1, by simp [lits]; omega⟩⟩
    obtain ⟨ab, ao, asp⟩ := a
    have h0 := hz 0 (by omega)
    have hsp : asp = none := by simpa [Addr.add] using World.cell?_spot h0
    subst hsp
    refine ⟨ab, ao, rfl, fun j u hj => ?_⟩
    rw [List.getElem?_map] at hj
    obtain ⟨y, hy, rfl⟩ := Option.map_eq_some_iff.1 hj
    have hjl : j < (zs.take len).length := (List.getElem?_eq_some_iff.1 hy).1
    have hjz : j < zs.length := by simp at hjl; omega
    have h1 := hz j hjz
    rw [List.getElem?_take_of_lt (by simp at hjl; omega)] at hy
    rw [List.getD_eq_getElem?_getD, hy] at h1
    have e : ((⟨ab, ao, none⟩ : Addr).add j) = ⟨ab, ao + j, none⟩ := by
      unfold Addr.add
      split
      · rename_i h; rw [h]; rfl
      · rfl
    rw [e] at h1
    simpa using h1
end
end Go.Proofs.Ytajhfjgndkdbnaa
