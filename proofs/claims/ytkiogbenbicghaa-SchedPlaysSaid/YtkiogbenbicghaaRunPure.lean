/- A row of acts (u8, int, u8), cell by cell; which task an act means; lists without doubles. No condition but the slice can be read as data. -/
import Derived.Test.YtkiogbenbicghaaLaw09b
import Derived.Test.YtkiogbenbicghaaView
namespace Go.Proofs.Ytkiogbenbicghaa
open Go.RowKit Go.WideShapes Go.ChangeShapes

theorem act3_cells {k0 k1 k2 : IntKind} {w : World} {b o n cap : Nat} {xs : List (List Int)} (hr : Reads w 3 (.slice (some ⟨b, o, none⟩) n cap) n (xs.flatMap (rowCells [k0, k1, k2])))
    (hb : ∀ x ∈ xs, x.length = 3 ∧ ∀ (j : Nat) k y, [k0, k1, k2][j]? = some k → x[j]? = some y → (Lit.int k y).wf = true) (hl : xs.length = n) (i : Nat) (hi : i < n) :
    ∃ d h m : Int, ((Lit.int k0 d).wf = true ∧ (Lit.int k1 h).wf = true ∧ (Lit.int k2 m).wf = true) ∧ w.cell? ⟨b, o + i * 3, none⟩ = some (.int k0 d) ∧ w.cell? ⟨b, o + i * 3 + 1, none⟩ = some (.int k1 h) ∧ w.cell? ⟨b, o + i * 3 + 2, none⟩ = some (.int k2 m) := by
  have hi' : i < xs.length := by omega
  obtain ⟨hl3, hwf⟩ := hb _ (List.getElem_mem hi')
  obtain ⟨d, h, m, hx⟩ : ∃ d h m : Int, xs[i] = [d, h, m] := by
    match hx : xs[i], hl3 with
    | [d, h, m], _ => exact ⟨d, h, m, rfl⟩
  rw [hx] at hwf
  obtain ⟨_, a, cap', he, _, _, hc⟩ := hr
  injection he with ha _ _
  subst ha
  obtain ⟨b', o', he', hc⟩ := hc (by omega)
  simp only [Option.some.injEq, Addr.mk.injEq, and_true] at he'
  obtain ⟨rfl, rfl⟩ := he'
  have hf : ∀ x ∈ xs, (rowCells [k0, k1, k2] x).length = 3 := by
    intro x hx
    rw [rowCells, List.length_zipWith, (hb x hx).1]
    rfl
  have hget : ∀ j u, j < 3 → (rowCells [k0, k1, k2] [d, h, m])[j]? = some u → w.cell? ⟨b, o + (i * 3 + j), none⟩ = some u := by
    intro j u hj hu
    refine hc (i * 3 + j) u ?_
    rw [flat_get_mem (rowCells [k0, k1, k2]) 3 xs i j hf hj, List.getElem?_eq_getElem hi', hx]
    simpa using hu
  exact ⟨d, h, m, ⟨hwf 0 k0 d rfl rfl, hwf 1 k1 h rfl rfl, hwf 2 k2 m rfl rfl⟩, hget 0 _ (by omega) rfl, by have := hget 1 _ (by omega) rfl; rwa [← Nat.add_assoc] at this, by have := hget 2 _ (by omega) rfl; rwa [← Nat.add_assoc] at this⟩

def whoF (t n : Int) (L : List Int) : Int := if 0 < n % 4 ∧ 0 < L.length then L.getD ((n / 4).toNat % L.length) 0 else t
theorem whoF_le {t n : Int} {L : List Int} (ht : t ≤ 9223372036854775807) (hL : ∀ x ∈ L, x ≤ 4096) : whoF t n L ≤ 9223372036854775807 := by
  unfold whoF
  split
  · rename_i h
    have hm := Nat.mod_lt (n / 4).toNat h.2
    rw [List.getD_eq_getElem?_getD, List.getElem?_eq_getElem hm]
    have := hL _ (List.getElem_mem hm)
    simp only [Option.getD_some]
    omega
  · exact ht
set_option maxRecDepth 100000 in
set_option maxHeartbeats 8000000 in
theorem who_calls (d t n : Int) {w : World} {v : Value} {m : Nat} {L : List Int} (n0 : 0 ≤ n) (n1 : n ≤ 255) (hr : Reads w 1 v m (ints L)) :
    Calls Try.prog 38 #[.agg #[.int .u8 d, .int .i64 t, .int .u8 n], v] w fun e w' => e = .returned (.int .i64 (whoF t n L)) ∧ Below w.heap.size w w' := by
  obtain ⟨hm, a, c, rfl, h1, h2, h3⟩ := reads_int hr
  have HN := Lib.hid hm
  have H3 := Lib.hid h3
  unfold maxLen at h2
  clear hm h3 hr
  by_cases hc : 0 < n % 4
  · by_cases hl : 0 < m
    · have hl' : (0 : Int) < (m : Int) := by omega
      obtain ⟨bv, o, rfl, hcell⟩ := H3.out hl
      have q0 : 0 ≤ n / 4 := by omega
      have hm0 : (0 : Int) ≤ n / 4 % (m : Int) := Int.emod_nonneg _ (by omega)
      have hm1 : n / 4 % (m : Int) < (m : Int) := Int.emod_lt_of_pos _ (by omega)
      obtain ⟨z, hz⟩ : ∃ z : Nat, (z : Int) = n / 4 := ⟨(n / 4).toNat, by omega⟩
      have hm2 : (n / 4 % (m : Int)).toNat = (n / 4).toNat % m := by rw [← hz, ← Int.natCast_emod, Int.toNat_natCast, Int.toNat_natCast]
      have hlt : (n / 4).toNat % m < m := Nat.mod_lt _ hl
      obtain ⟨x, hx⟩ : ∃ x, L[(n / 4).toNat % m]? = some x := ⟨_, List.getElem?_eq_getElem (by rw [← HN.out]; exact hlt)⟩
      have hx2 := hcell _ x hx
      rw [← hm2] at hx2
      have hres : whoF t n L = x := by
        unfold whoF
        rw [if_pos ⟨hc, by rw [← HN.out]; exact hl⟩, ← HN.out, List.getD_eq_getElem?_getD, hx]
        rfl
      have HR := Lib.hid hres
      have hk := block_lt_of_cell hx2
      simp only at hk
      have hx3 : (w.alloc (.cells #[.int .u8 d, .int .i64 t, .int .u8 n] 55)).cell? ⟨bv, o + (n / 4 % (m : Int)).toNat, none⟩ = some (.int .i64 x) := by
        rw [World.cell?_of_block (Below.heap_alloc w _ _ hk)]
        exact hx2
      clear hz hm2 hx hx2 hres hcell
      go_enter Try.func38, Try.ntmps38
      go_wp2_with fail
      go_ret
      rw [HR.out]
      exact ⟨rfl, (Below.refl _ _).alloc (Nat.le_refl _) _⟩
    · have hl' : ¬ (0 : Int) < (m : Int) := by omega
      have HR := Lib.hid (show whoF t n L = t by unfold whoF; rw [if_neg (by rw [← HN.out]; omega)])
      go_enter Try.func38, Try.ntmps38
      go_wp2_with fail
      go_ret
      rw [HR.out]
      exact ⟨rfl, (Below.refl _ _).alloc (Nat.le_refl _) _⟩
  · have HR := Lib.hid (show whoF t n L = t by unfold whoF; rw [if_neg (by omega)])
    go_enter Try.func38, Try.ntmps38
    go_wp2_with fail
    go_ret
    rw [HR.out]
    exact ⟨rfl, (Below.refl _ _).alloc (Nat.le_refl _) _⟩
theorem nodup_len : ∀ (l m : List Int), l.Nodup → (∀ x ∈ l, x ∈ m) → l.length ≤ m.length
  | [], _, _, _ => by simp
  | a :: l, m, h, hs => by
    rw [List.nodup_cons] at h
    have ha := hs a (by simp)
    have ih := nodup_len l (m.erase a) h.2 (fun x hx => (List.mem_erase_of_ne (fun e => h.1 (by rw [← e]; exact hx))).2 (hs x (by simp [hx])))
    rw [List.length_erase_of_mem ha] at ih
    have := List.length_pos_of_mem ha
    simp only [List.length_cons]
    omega
theorem live_len (A : Ar) : A.live.length ≤ A.list.length := by
  unfold Ar.live
  rw [List.length_map]
  exact Nat.le_trans (List.length_filter_le _ _) (by simp)
theorem IsT.run_live {w : World} {b : SB} {A : Ar} {fs : List Nat} {rl : List Int} (h : IsT w b A fs rl) : rl.length ≤ A.live.length := nodup_len _ _ h.nodup (fun x hx => (mem_live h.good.ok x).2 (h.live x hx))
theorem IsT.live_bd {w : World} {b : SB} {A : Ar} {fs : List Nat} {rl : List Int} (h : IsT w b A fs rl) : ∀ x ∈ A.live, x ≤ 4096 := fun x hx => (place_bound h.good.ok ((mem_live h.good.ok x).1 hx)).2
theorem IsT.run_bd {w : World} {b : SB} {A : Ar} {fs : List Nat} {rl : List Int} (h : IsT w b A fs rl) : ∀ x ∈ rl, x ≤ 4096 := fun x hx => (place_bound h.good.ok (h.live x hx)).2
theorem spnA_size (A : Ar) : (spnA A).list.length = A.list.length := by
  unfold spnA
  split
  · exact take_size A
  · rfl
end Go.Proofs.Ytkiogbenbicghaa
