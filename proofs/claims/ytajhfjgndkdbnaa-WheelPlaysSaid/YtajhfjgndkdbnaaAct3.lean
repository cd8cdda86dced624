/- What an act's three cells read as. No condition. -/
import Derived.Test.YtajhfjgndkdbnaaView
import Derived.Test.YtajhfjgndkdbnaaView2
namespace Go.Proofs.Ytajhfjgndkdbnaa
open Go.RowKit BigFrame Go.WideShapes
theorem act3_cells {k0 k1 k2 : IntKind} {w : World} {b o n cap : Nat} {xs : List (List Int)} (hr : Reads w 3 (.slice (some ⟨b, o, none⟩) n cap) n (xs.flatMap (rowCells [k0, k1, k2])))
    (hb : ∀ x ∈ xs, x.length = 3 ∧ ∀ (j : Nat) k y, [k0, k1, k2][j]? = some k → x[j]? = some y → (Lit.int k y).wf = true) (hl : xs.length = n) (i : Nat) (hi : i < n) :
    ∃ d h m : Int, ((Lit.int k0 d).wf = true ∧ (Lit.int k1 h).wf = true ∧ (Lit.int k2 m).wf = true) ∧ w.cell? ⟨b, o + i * 3, none⟩ = some (.int k0 d) ∧ w.cell? ⟨b, o + i * 3 + 1, none⟩ = some (.int k1 h) ∧ w.cell? ⟨b, o + i * 3 + 2, none⟩ = some (.int k2 m) := by
  have hi' : i < xs.length := by omega
  obtain ⟨hl3, hwf⟩ := hb _ (List.getElem_mem hi')
  obtain ⟨d, h, m, hx⟩ : ∃ d h m : Int, xs[i] = [d, h, m] := by
    match hx : xs[i], hl3 with
    | [d, h, m], _ => exact ⟨d, h, m, rfl⟩
  rw [hx] at hwf
  obtain ⟨_, a, cap', he, _, _, hc⟩ := hr
  injection he with ha _ _
  subst ha
  obtain ⟨b', o', he', hc⟩ := hc (by omega)
  simp only [Option.some.injEq, Addr.mk.injEq, and_true] at he'
  obtain ⟨rfl, rfl⟩ := he'
  have hf : ∀ x ∈ xs, (rowCells [k0, k1, k2] x).length = 3 := by
    intro x hx
    rw [rowCells, List.length_zipWith, (hb x hx).1]
    rfl
  have hget : ∀ j u, j < 3 → (rowCells [k0, k1, k2] [d, h, m])[j]? = some u → w.cell? ⟨b, o + (i * 3 + j), none⟩ = some u := by
    intro j u hj hu
    refine hc (i * 3 + j) u ?_
    rw [flat_get_mem (rowCells [k0, k1, k2]) 3 xs i j hf hj, List.getElem?_eq_getElem hi', hx]
    simpa using hu
  exact ⟨d, h, m, ⟨hwf 0 k0 d rfl rfl, hwf 1 k1 h rfl rfl, hwf 2 k2 m rfl rfl⟩, hget 0 _ (by omega) rfl, by have := hget 1 _ (by omega) rfl; rwa [← Nat.add_assoc] at this, by have := hget 2 _ (by omega) rfl; rwa [← Nat.add_assoc] at this⟩
end Go.Proofs.Ytajhfjgndkdbnaa
