/- Plain Lean for FifoOne: how often each item comes. And the cells of an act; and a row that is stored into. No program, no condition. -/
import Derived.Test.YtajhfjgndkdbnaaOrderPure
import Derived.Test.YtajhfjgndkdbnaaView2
namespace Go.Proofs.Ytajhfjgndkdbnaa
open Go.RowKit

theorem pushL_len (L : List (List Nat)) (N : Nat) (n x : Int) : (pushL L N n x).2.length = L.length := by
  unfold pushL
  split <;> simp
theorem popL_len (L : List (List Nat)) (n : Int) : (popL L n).2.2.length = L.length := by
  unfold popL
  split
  · rfl
  · split <;> simp
theorem removeL_len (L : List (List Nat)) (x : Int) : (removeL L x).2.length = L.length := by
  unfold removeL
  split <;> simp
theorem whereL_none {L : List (List Nat)} {x : Nat} (h : hasL L x = false) : whereL L x = -1 := by
  unfold whereL
  rw [if_neg (by omega)]
  cases hf : L.findIdx? (fun l => l.contains (x : Int).toNat) with
  | none => rfl
  | some i =>
    rw [List.findIdx?_eq_some_iff_getElem] at hf
    obtain ⟨hi, hc, _⟩ := hf
    have hx : x ∈ L[i] := by simpa using hc
    rw [hasL_iff.2 ⟨i, L[i], List.getElem?_eq_getElem hi, hx⟩] at h
    cases h
/-- What is pushed was nowhere. -/
theorem pushL_where {L : List (List Nat)} {N : Nat} {n x : Int} (h : (pushL L N n x).1 = true) : whereL L x = -1 := by
  unfold pushL at h
  split at h
  · rename_i hc
    obtain ⟨_, _, h0, _, h1⟩ := hc
    have := whereL_none h1
    rwa [show ((x.toNat : Nat) : Int) = x by omega] at this
  · cases h
theorem isF_where {w : World} {g bq bn N : Nat} {L : List (List Nat)} (h : IsF w g bq bn L N) {i x : Nat} {l : List Nat} (hl : L[i]? = some l) (hx : x ∈ l) : whereL L x = i ∧ x < N := by
  obtain ⟨qs, ns, _, hr⟩ := h
  have h1 := hr.where_in hl hx
  rw [hr.whereL] at h1
  exact ⟨h1, hr.rg i l x hl hx⟩
theorem isF_len {w : World} {g bq bn N : Nat} {L : List (List Nat)} (h : IsF w g bq bn L N) {i : Nat} {l : List Nat} (hl : L[i]? = some l) : l.length ≤ N := by
  obtain ⟨qs, ns, _, hr⟩ := h
  exact hr.len_le hl
theorem isF_once {w : World} {g bq bn N : Nat} {L : List (List Nat)} (h : IsF w g bq bn L N) : L.flatten.Nodup := by
  obtain ⟨qs, ns, _, hr⟩ := h
  unfold List.Nodup
  rw [List.pairwise_flatten]
  constructor
  · intro l hl
    obtain ⟨i, hi⟩ := List.getElem?_of_mem hl
    exact hr.nd i l hi
  · rw [List.pairwise_iff_getElem]
    intro i j hi hj hij x hx y hy
    rintro rfl
    have := hr.dj i j _ _ x (List.getElem?_eq_getElem hi) (List.getElem?_eq_getElem hj) hx hy
    omega

/-- How often each of twelve items comes. -/
def cnt (P : List Nat) : List Int := (List.range 12).map (fun x => ((P.count x : Nat) : Int))
theorem cnt_len (P : List Nat) : (cnt P).length = 12 := by simp [cnt]
theorem cnt_get (P : List Nat) (x : Nat) (hx : x < 12) : (cnt P)[x]? = some ((P.count x : Nat) : Int) := by simp [cnt, hx]
theorem cnt_set (P : List Nat) (x : Nat) (hx : x < 12) : (cnt P).set x (((P.count x : Nat) : Int) + 1) = cnt (P ++ [x]) := by
  apply List.ext_getElem?
  intro j
  by_cases hj : j = x
  · subst hj
    rw [List.getElem?_set_self (by rw [cnt_len]; exact hx), cnt_get _ _ hx, List.count_append]
    simp
  · rw [List.getElem?_set_ne (fun e => hj e.symm)]
    by_cases h12 : j < 12
    · rw [cnt_get _ _ h12, cnt_get _ _ h12, List.count_append]
      have : List.count j [x] = 0 := by
        simp [List.count_cons]
        exact fun e => hj e.symm
      rw [this]
      simp
    · rw [List.getElem?_eq_none (by rw [cnt_len]; omega), List.getElem?_eq_none (by rw [cnt_len]; omega)]
theorem cnt_nil : cnt [] = List.replicate 12 0 := by decide

/-- What an act's cells read as: do, queue, item. -/
theorem act7_cells {w : World} {b o n cap : Nat} {xs : List (List Int)} (hr : Reads w 3 (.slice (some ⟨b, o, none⟩) n cap) n (xs.flatMap (rowCells [.u8, .i64, .i64])))
    (hb : ∀ x ∈ xs, x.length = 3 ∧ ∀ (j : Nat) k y, [IntKind.u8, .i64, .i64][j]? = some k → x[j]? = some y → (Lit.int k y).wf = true) (hl : xs.length = n) (i : Nat) (hi : i < n) :
    ∃ d h m : Int, (0 ≤ d ∧ d ≤ 255) ∧ w.cell? ⟨b, o + i * 3, none⟩ = some (.int .u8 d) ∧ w.cell? ⟨b, o + i * 3 + 1, none⟩ = some (.int .i64 h) ∧ w.cell? ⟨b, o + i * 3 + 2, none⟩ = some (.int .i64 m) := by
  have hi' : i < xs.length := by omega
  obtain ⟨hl3, hwf⟩ := hb _ (List.getElem_mem hi')
  obtain ⟨d, h, m, hx⟩ : ∃ d h m : Int, xs[i] = [d, h, m] := by
    match hx : xs[i], hl3 with
    | [d, h, m], _ => exact ⟨d, h, m, rfl⟩
  rw [hx] at hwf
  obtain ⟨_, a, cap', he, _, _, hc⟩ := hr
  injection he with ha _ _
  subst ha
  obtain ⟨b', o', he', hc⟩ := hc (by omega)
  simp only [Option.some.injEq, Addr.mk.injEq, and_true] at he'
  obtain ⟨rfl, rfl⟩ := he'
  have hf : ∀ x ∈ xs, (rowCells [.u8, .i64, .i64] x).length = 3 := by
    intro x hx
    rw [rowCells, List.length_zipWith, (hb x hx).1]
    rfl
  have hget : ∀ j u, j < 3 → (rowCells [.u8, .i64, .i64] [d, h, m])[j]? = some u → w.cell? ⟨b, o + (i * 3 + j), none⟩ = some u := by
    intro j u hj hu
    refine hc (i * 3 + j) u ?_
    rw [flat_get_mem (rowCells [.u8, .i64, .i64]) 3 xs i j hf hj, List.getElem?_eq_getElem hi', hx]
    simpa using hu
  have hd := bounds_u8 (hwf 0 .u8 d rfl rfl)
  exact ⟨d, h, m, hd, hget 0 _ (by omega) rfl, by have := hget 1 _ (by omega) rfl; rwa [← Nat.add_assoc] at this, by have := hget 2 _ (by omega) rfl; rwa [← Nat.add_assoc] at this⟩

/-- A number of the row is stored. -/
theorem FR.set {w wr : World} {g bq bn N b n c : Nat} {L : List (List Nat)} {xs : List Int} (h : FR w wr g bq bn L N (.slice (some ⟨b, 0, none⟩) n c) xs) (hn : n = xs.length) (j : Nat) (y : Int) : FR w (wr.setCell ⟨b, j, none⟩ (.int .i64 y)) g bq bn L N (.slice (some ⟨b, 0, none⟩) n c) (xs.set j y) := by
  subst hn
  have hap := h.f.apart h.r b rfl
  have hlt := h.r.lt b rfl
  refine ⟨h.f.frame (fun k hk => Below.heap_setCell _ _ _ _ ?_), ?_, h.b.setCell (p := ⟨b, j, none⟩) hlt.1 _, h.hq, h.hn⟩
  · rintro e
    rcases hk with rfl | rfl | rfl
    · exact hap.1 e.symm
    · exact hap.2.1 e.symm
    · exact hap.2.2 e.symm
  · have h2 := (h.r.stored j (.int .i64 y)).1
    rw [ints_set, List.length_set]
    exact h2
end Go.Proofs.Ytajhfjgndkdbnaa
