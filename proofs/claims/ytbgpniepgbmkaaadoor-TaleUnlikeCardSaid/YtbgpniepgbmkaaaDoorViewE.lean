/- Arguments that are entries, or lists of entries, opened. No condition. -/
import Derived.Test.YtbgpniepgbmkaaaDoorViewP
import Derived.Test.YtbgpniepgbmkaaaDoorTalA
namespace Go.Proofs.YtbgpniepgbmkaaaDoor
open Go.ChangeShapes Go.WideShapes Go.Deep Go.RowKit Go
section
variable {H : Type} {enc : TypeId × Value → H} {w : World} {base : Nat} {spare : Nat → Bool} {held : Bool}
theorem cells_en : Tryd.prog.cellsOf 28 = 7 := by kernel_rfl
set_option maxRecDepth 100000 in
theorem view_en {n : Nat} {cs : List Value} {y : DataW H × List MemPlace} (h : DataW.trod enc Tryd.prog w base spare held n 28 cs = some y) : ∃ e : En, cs = enCells e ∧ enB e := by
  obtain ⟨xs, m, _, rfl, hl, hlen, hf⟩ := DataW.trod_struct Tryd.underlying28 h
  rw [cells_en] at hl
  have hx : xs.length = 7 := hlen
  have f0 : DataW.trod enc Tryd.prog w base spare held m 3 ((cs.drop 0).take (Tryd.prog.cellsOf 3)) = xs[0]? := hf 0 _ rfl
  have f1 : DataW.trod enc Tryd.prog w base spare held m 3 ((cs.drop 1).take (Tryd.prog.cellsOf 3)) = xs[1]? := hf 1 _ rfl
  have f2 : DataW.trod enc Tryd.prog w base spare held m 3 ((cs.drop 2).take (Tryd.prog.cellsOf 3)) = xs[2]? := hf 2 _ rfl
  have f3 : DataW.trod enc Tryd.prog w base spare held m 3 ((cs.drop 3).take (Tryd.prog.cellsOf 3)) = xs[3]? := hf 3 _ rfl
  have f4 : DataW.trod enc Tryd.prog w base spare held m 3 ((cs.drop 4).take (Tryd.prog.cellsOf 3)) = xs[4]? := hf 4 _ rfl
  have f5 : DataW.trod enc Tryd.prog w base spare held m 3 ((cs.drop 5).take (Tryd.prog.cellsOf 3)) = xs[5]? := hf 5 _ rfl
  have f6 : DataW.trod enc Tryd.prog w base spare held m 3 ((cs.drop 6).take (Tryd.prog.cellsOf 3)) = xs[6]? := hf 6 _ rfl
  rw [cells_int] at f0 f1 f2 f3 f4 f5 f6
  obtain ⟨a0, h0, w0, _⟩ := int_at (by omega) f0 (some_at hx (by omega))
  obtain ⟨a1, h1, w1, _⟩ := int_at (by omega) f1 (some_at hx (by omega))
  obtain ⟨a2, h2, w2, _⟩ := int_at (by omega) f2 (some_at hx (by omega))
  obtain ⟨a3, h3, w3, _⟩ := int_at (by omega) f3 (some_at hx (by omega))
  obtain ⟨a4, h4, w4, _⟩ := int_at (by omega) f4 (some_at hx (by omega))
  obtain ⟨a5, h5, w5, _⟩ := int_at (by omega) f5 (some_at hx (by omega))
  obtain ⟨a6, h6, w6, _⟩ := int_at (by omega) f6 (some_at hx (by omega))
  refine ⟨⟨a0, a1, a2, a3, a4, a5, a6⟩, ?_, w0, w1, w2, w3, w4, w5, w6⟩
  match cs, hl with
  | [u0, u1, u2, u3, u4, u5, u6], _ =>
    simp at h0 h1 h2 h3 h4 h5 h6
    rw [h0, h1, h2, h3, h4, h5, h6]
    rfl
set_option maxRecDepth 100000 in
/-- AN ENTRY THAT CAME IN. -/
theorem view_entry {r : Reach} {b0 : Nat} {v : Value} {d : DataW H} {p : List MemPlace} (hv : Value.okWide Tryd.prog w r b0 28 v) (h : DataW.Trod enc Tryd.prog w base spare held 28 v d p) : ∃ e : En, v = enVal e ∧ enB e := by
  obtain ⟨cs, rfl, hs⟩ := okWide_struct Tryd.underlying28 hv
  obtain ⟨fuel, h⟩ := h
  obtain ⟨e, he, hb⟩ := view_en h
  refine ⟨e, ?_, hb⟩
  obtain ⟨l⟩ := cs
  have h1 : l = enCells e := he
  rw [h1]
  rfl
set_option maxRecDepth 100000 in
/-- A LIST OF ENTRIES THAT CAME IN. -/
theorem view_entries {r : Reach} {b0 : Nat} {v : Value} {d : DataW H} {p : List MemPlace} (hv : Value.okWide Tryd.prog w r b0 35 v) (h : DataW.Trod enc Tryd.prog w base spare held 35 v d p) :
    ∃ (n : Nat) (xs : List En), xs.length = n ∧ Reads w 7 v n (xs.flatMap enCells) ∧ ∀ x ∈ xs, enB x := by
  obtain ⟨a0, len, cap, rfl⟩ := okWide_slice Tryd.underlying35 hv
  obtain ⟨fuel, h⟩ := h
  obtain ⟨v', n, xs, e, hl, hr, hq⟩ := view_slice (α := En) (f := enCells) (Q := fun e _ => enB e) Tryd.underlying35 cells_en (by omega) (fun _ => rfl) (fun n cs y h => view_en h) h
  have hv' : v' = .slice a0 len cap := by simpa [Value.cells] using e.symm
  subst hv'
  refine ⟨n, xs, hl, hr, fun x hx => ?_⟩
  rcases hq with h0 | ⟨elems, sp, _, _, hq⟩
  · rw [h0] at hx; cases hx
  · obtain ⟨i, hi, rfl⟩ := List.mem_iff_getElem.1 hx
    obtain ⟨_, _, hq⟩ := hq i _ (List.getElem?_eq_getElem hi)
    exact hq
end
end Go.Proofs.YtbgpniepgbmkaaaDoor
