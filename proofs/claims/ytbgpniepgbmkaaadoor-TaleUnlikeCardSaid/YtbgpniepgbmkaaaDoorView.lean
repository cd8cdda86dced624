/- An argument that is a slice of structs of whole numbers, opened: its rows of numbers, and where they lie. No condition. -/
import Derived.Test.YtbgpniepgbmkaaaDoorBase
import Derived.ProofKit
import Derived.OpenShut
import Derived.ShutString
import Derived.SizedLaws
import Derived.Deep.Slices
import Derived.Deep.Fields
import Derived.ChangeSame
namespace Go.Proofs.YtbgpniepgbmkaaaDoor
open Go.ChangeShapes Go.WideShapes Go.Deep Go.RowKit
section
variable {H : Type} {enc : TypeId × Value → H} {P : Program} {w : World} {base : Nat} {spare : Nat → Bool} {held : Bool}
theorem open_slice_fields {t e : TypeId} {fs : Array Field} {fuel : Nat} {cs : List Value} {x : DataW H × List MemPlace} (ht : P.underlying t = some (.slice e)) (he : P.underlying e = some (.struct fs))
    (hone : oneCellFields P fs = true) (hC : P.cellsOf e = fs.size) (h : DataW.trod enc P w base spare held fuel t cs = some x) :
    (cs = [.slice none 0 0] ∧ x = (.nil, [])) ∨
    ∃ (a : Addr) (len cap m : Nat) (D : Nat → DataW H) (Pl : Nat → List MemPlace), cs = [.slice (some a) len cap] ∧ base ≤ a.block ∧ len ≤ cap ∧ cap ≤ maxLen ∧ m = (if spare a.block then cap else len) ∧
      x = (.slice ((List.range len).map D) ((List.range (m - len)).map fun j => D (len + j)), MemPlace.row a (m * fs.size) ++ (List.range m).flatMap Pl) ∧
      ∀ i, i < m → ∃ (ys : List (DataW H × List MemPlace)) (n : Nat), D i = .agg (ys.map (·.1)) ∧ Pl i = ys.flatMap (·.2) ∧ ys.length = fs.size ∧
        ∀ (j : Nat) (f : Field), fs[j]? = some f → ∃ (v : Value) (y : DataW H × List MemPlace), w.cell? (a.add (i * fs.size + j)) = some v ∧ ys[j]? = some y ∧ DataW.trod enc P w base spare held n f.type [v] = some y := by
  rcases open_slice ht h with h0 | ⟨a, len, cap, m, n, D, Pl, hcs, hb, hl, hm, hmm, hx, hi⟩
  · exact .inl h0
  · refine .inr ⟨a, len, cap, m, D, Pl, hcs, hb, hl, hm, hmm, by rw [hC] at hx; exact hx, fun i him => ?_⟩
    obtain ⟨cs', hc, ht'⟩ := hi i him
    rw [hC] at hc
    obtain ⟨ys, n', hn', hy, hlen, hyl, hf⟩ := DataW.trod_struct he ht'
    obtain ⟨_, hcl, hat⟩ := World.cells?_some hc
    simp only [Prod.mk.injEq] at hy
    refine ⟨ys, n', hy.1, hy.2, hyl, fun j f hj => ?_⟩
    obtain ⟨ho, hk⟩ := hone_of hone j f hj
    have hjl : j < fs.size := (Array.getElem?_eq_some_iff.1 hj).1
    have hcell := hat j hjl
    have hv : cs'[j]? = some (cs'[j]'(by omega)) := List.getElem?_eq_getElem (by omega)
    have h1 := hf j f hj
    rw [ho, hk] at h1
    have hone' : (cs'.drop j).take 1 = [cs'[j]'(by omega)] := by
      rw [List.drop_eq_getElem_cons (by omega)]
      rfl
    rw [hone'] at h1
    have hys : ys[j]? = some (ys[j]'(by omega)) := List.getElem?_eq_getElem (by omega)
    refine ⟨_, _, ?_, hys, h1.trans hys⟩
    rw [← Go.Deep.add_add, hcell, hv]
end

def rowCells (ks : List IntKind) (r : List Int) : List Value := List.zipWith Value.int ks r
theorem choose_rows {p : Nat → List Int → Prop} : ∀ n : Nat, (∀ i, i < n → ∃ r, p i r) → ∃ xs : List (List Int), xs.length = n ∧ ∀ i r, xs[i]? = some r → p i r
  | 0, _ => ⟨[], rfl, fun i r h => by simp at h⟩
  | n + 1, h => by
    obtain ⟨xs, hl, hx⟩ := choose_rows n (fun i hi => h i (by omega))
    obtain ⟨r, hr⟩ := h n (by omega)
    refine ⟨xs ++ [r], by simp [hl], fun i s hs => ?_⟩
    by_cases hi : i < n
    · rw [List.getElem?_append_left (by omega)] at hs
      exact hx i s hs
    · obtain ⟨hi2, _⟩ := List.getElem?_eq_some_iff.1 hs
      obtain rfl : i = n := by simp at hi2; omega
      rw [List.getElem?_append_right (by omega)] at hs
      simp [hl] at hs
      subst hs
      exact hr
theorem choose_row {p : Nat → Int → Prop} : ∀ n : Nat, (∀ i, i < n → ∃ r, p i r) → ∃ xs : List Int, xs.length = n ∧ ∀ i r, xs[i]? = some r → p i r
  | 0, _ => ⟨[], rfl, fun i r h => by simp at h⟩
  | n + 1, h => by
    obtain ⟨xs, hl, hx⟩ := choose_row n (fun i hi => h i (by omega))
    obtain ⟨r, hr⟩ := h n (by omega)
    refine ⟨xs ++ [r], by simp [hl], fun i s hs => ?_⟩
    by_cases hi : i < n
    · rw [List.getElem?_append_left (by omega)] at hs
      exact hx i s hs
    · obtain ⟨hi2, _⟩ := List.getElem?_eq_some_iff.1 hs
      obtain rfl : i = n := by simp at hi2; omega
      rw [List.getElem?_append_right (by omega)] at hs
      simp [hl] at hs
      subst hs
      exact hr
theorem flat_get_mem {α β : Type} (f : α → List β) (c : Nat) : ∀ (l : List α) (i j : Nat), (∀ x ∈ l, (f x).length = c) → j < c → (l.flatMap f)[i * c + j]? = (l[i]?).bind (fun x => (f x)[j]?)
  | [], i, j, _, _ => by simp
  | x :: l, 0, j, hf, hj => by simp [List.getElem?_append_left, hf x List.mem_cons_self, hj]
  | x :: l, i + 1, j, hf, hj => by
    have e : (i + 1) * c + j = c + (i * c + j) := by rw [Nat.add_mul]; omega
    have hx := hf x List.mem_cons_self
    rw [List.flatMap_cons, List.getElem?_append_right (by omega), e, hx, Nat.add_sub_cancel_left, flat_get_mem f c l i j (fun y hy => hf y (List.mem_cons_of_mem _ hy)) hj]
    simp
section
variable {H : Type} {enc : TypeId × Value → H} {P : Program} {w : World} {base : Nat} {spare : Nat → Bool} {held : Bool}
theorem view_struct2 {t : TypeId} {f0 f1 : Field} {k0 k1 : IntKind} {r : Reach} {b0 : Nat} {v : Value} {d : DataW H} {p : List MemPlace} (ht : P.underlying t = some (.struct #[f0, f1])) (hc : P.cellsOf t = 2)
    (e0 : P.underlying f0.type = some (.int k0)) (e1 : P.underlying f1.type = some (.int k1)) (o0 : f0.offset = 0) (o1 : f1.offset = 1) (c0 : P.cellsOf f0.type = 1) (c1 : P.cellsOf f1.type = 1)
    (hv : Value.okWide P w r b0 t v) (h : DataW.Trod enc P w base spare held t v d p) : ∃ a b : Int, v = .agg #[.int k0 a, .int k1 b] ∧ (Lit.int k0 a).wf = true ∧ (Lit.int k1 b).wf = true := by
  obtain ⟨cs, rfl, hs⟩ := okWide_struct ht hv
  obtain ⟨fuel, hf⟩ := h
  obtain ⟨y0, y1, n, hx, hl, h0, h1⟩ := trod_struct2 ht hf
  rw [o0, c0] at h0
  rw [o1, c1] at h1
  obtain ⟨a, ha, _, wa⟩ := DataW.trod_int e0 h0
  obtain ⟨b, hb, _, wb⟩ := DataW.trod_int e1 h1
  rw [hc] at hs
  refine ⟨a, b, ?_, wa, wb⟩
  obtain ⟨l⟩ := cs
  match l, hs with
  | [x, y], _ =>
    simp [Value.cells] at ha hb
    rw [ha, hb]
theorem view_structs {t e : TypeId} {fs : Array Field} (ks : List IntKind) {r : Reach} {b0 : Nat} {v : Value} {d : DataW H} {p : List MemPlace} (ht : P.underlying t = some (.slice e)) (he : P.underlying e = some (.struct fs))
    (hone : oneCellFields P fs = true) (hC : P.cellsOf e = fs.size) (hks : ks.length = fs.size) (h0 : 0 < fs.size) (hk : ∀ (j : Nat) (k : IntKind) (f : Field), ks[j]? = some k → fs[j]? = some f → P.underlying f.type = some (.int k))
    (hv : Value.okWide P w r b0 t v) (h : DataW.Trod enc P w base spare held t v d p) :
    ∃ (n : Nat) (xs : List (List Int)), xs.length = n ∧ Reads w fs.size v n (xs.flatMap (rowCells ks)) ∧ (∀ x ∈ xs, x.length = ks.length ∧ ∀ (j : Nat) k y, ks[j]? = some k → x[j]? = some y → (Lit.int k y).wf = true) ∧
      (n = 0 ∨ ∃ elems sp : List (DataW H), d = .slice elems sp ∧ elems.length = n) := by
  obtain ⟨a0, len, cap, rfl⟩ := okWide_slice ht hv
  obtain ⟨fuel, hf⟩ := h
  rcases open_slice_fields ht he hone hC hf with ⟨hcs, hx⟩ | ⟨a, len', cap', m, D, Pl, hcs, hb, hl, hm, hmm, hx, hi⟩
  · simp [Value.cells] at hcs
    obtain ⟨rfl, rfl, rfl⟩ := hcs
    exact ⟨0, [], rfl, by simpa using Reads.nil w fs.size, fun x hx => by simp at hx, .inl rfl⟩
  · simp [Value.cells] at hcs
    obtain ⟨rfl, rfl, rfl⟩ := hcs
    have hlm : len ≤ m := by rw [hmm]; split <;> omega
    have each : ∀ i, i < len → ∃ x : List Int, x.length = ks.length ∧ ∀ (j : Nat) k y, ks[j]? = some k → x[j]? = some y → (Lit.int k y).wf = true ∧ w.cell? (a.add (i * fs.size + j)) = some (.int k y) := by
      intro i hil
      obtain ⟨ys, n, _, _, hyl, hf2⟩ := hi i (by omega)
      obtain ⟨x, hxl, hx2⟩ := choose_row (p := fun j y => ∀ k, ks[j]? = some k → (Lit.int k y).wf = true ∧ w.cell? (a.add (i * fs.size + j)) = some (.int k y)) ks.length (fun j hj => by
        have hfj : fs[j]? = some (fs[j]'(by omega)) := Array.getElem?_eq_getElem (by omega)
        have hkj : ks[j]? = some (ks[j]) := List.getElem?_eq_getElem hj
        obtain ⟨v, y, hc, hy, htr⟩ := hf2 j _ hfj
        obtain ⟨z, hz, hz2, hz3⟩ := DataW.trod_int (hk j _ _ hkj hfj) htr
        refine ⟨z, fun k hk' => ?_⟩
        rw [hkj] at hk'
        injection hk' with hk'
        subst hk'
        simp only [List.cons.injEq, and_true] at hz
        subst hz
        exact ⟨hz3, hc⟩)
      exact ⟨x, hxl, fun j k y hkj hxj => hx2 j y hxj k hkj⟩
    obtain ⟨xs, hxl, hxs⟩ := choose_rows len each
    refine ⟨len, xs, hxl, ⟨?_, some a, cap, rfl, hl, hm, fun hn => ?_⟩, fun x hx => ?_, .inr ⟨_, _, (Prod.mk.inj hx).1, by simp⟩⟩
    · have : ∀ ys : List (List Int), (∀ x ∈ ys, x.length = ks.length) → (ys.flatMap (rowCells ks)).length = ys.length * fs.size := by
        intro ys hys
        induction ys with
        | nil => simp
        | cons y ys ih =>
          rw [List.flatMap_cons, List.length_append, ih (fun x hx => hys x (List.mem_cons_of_mem _ hx)), rowCells, List.length_zipWith, hys y (List.mem_cons_self), Nat.min_self, hks, List.length_cons, Nat.add_mul]
          omega
      rw [this xs ?_, hxl]
      intro x hx
      obtain ⟨i, hi, rfl⟩ := List.getElem_of_mem hx
      exact (hxs i _ (List.getElem?_eq_getElem hi)).1
    · obtain ⟨ab, ao, asp⟩ := a
      have hin : ∀ x ∈ xs, (rowCells ks x).length = fs.size := by
        intro x hx
        obtain ⟨i, hi, rfl⟩ := List.getElem_of_mem hx
        rw [rowCells, List.length_zipWith, (hxs i _ (List.getElem?_eq_getElem hi)).1, Nat.min_self, hks]
      have hcell : ∀ i j u, j < fs.size → (xs[i]?).bind (fun x => (rowCells ks x)[j]?) = some u → w.cell? ((⟨ab, ao, asp⟩ : Addr).add (i * fs.size + j)) = some u := by
        intro i j u hj hu
        obtain ⟨x, hx, hu⟩ := Option.bind_eq_some_iff.1 hu
        have hkj : ks[j]? = some ks[j] := List.getElem?_eq_getElem (by omega)
        have hxl' := (hxs i x hx).1
        have hxj : x[j]? = some x[j] := List.getElem?_eq_getElem (by omega)
        simp only [rowCells, List.getElem?_zipWith, hkj, hxj, Option.some.injEq] at hu
        rw [((hxs i x hx).2 j _ _ hkj hxj).2, hu]
      have hsp : asp = none := by
        have hx0 : xs[0]? = some xs[0] := List.getElem?_eq_getElem (by omega)
        have := hcell 0 0 ((rowCells ks xs[0])[0]'(by rw [hin _ (List.getElem_mem _)]; exact h0)) h0 (by rw [hx0]; simp)
        simpa [Addr.add] using World.cell?_spot this
      subst hsp
      refine ⟨ab, ao, rfl, fun j u hj => ?_⟩
      have hj' : j / fs.size * fs.size + j % fs.size = j := Nat.div_add_mod' j fs.size
      rw [← hj', flat_get_mem (rowCells ks) fs.size xs _ _ hin (Nat.mod_lt _ h0)] at hj
      have := hcell _ _ u (Nat.mod_lt _ h0) hj
      rw [hj'] at this
      rw [← this]
      unfold Addr.add
      split
      · rename_i h; rw [h]; rfl
      · rfl
    · obtain ⟨i, hi, rfl⟩ := List.getElem_of_mem hx
      obtain ⟨h1, h2⟩ := hxs i _ (List.getElem?_eq_getElem hi)
      exact ⟨h1, fun j k y a b => (h2 j k y a b).1⟩
end
end Go.Proofs.YtbgpniepgbmkaaaDoor
