/- What the document's queues (parcloseref07) are in memory, and what New and Where do. Condition of each: they lie in memory (IsQ). -/
import Derived.Test.YtkiogbenbicghaaLaw07b
import Derived.Test.YtkiogbenbicghaaOnePure
import Derived.Deep.LoopGhost
namespace Go.Proofs.Ytkiogbenbicghaa
open Go.RowKit BigFrame

/-- A slice of ints at rest: it reads as l, in a block of its own. -/
def RowV (w : World) (n0 g b : Nat) (v : Value) (l : List Nat) : Prop := Reads w 1 v l.length (ints (asInts l)) ∧ (∀ k, v.ownBlock = some k → k ≠ g ∧ k ≠ b ∧ n0 ≤ k ∧ k < w.heap.size) ∧ (v = .slice none 0 0 ∨ ∃ bl o n c, v = .slice (some ⟨bl, o, none⟩) n c)
structure IsQ (w : World) (n0 g b : Nat) (L : List (List Nat)) (N : Nat) : Prop where
  obj : w.heap[g]? = some (.cells #[.slice (some ⟨b, 0, none⟩) L.length L.length, .int .i64 N] 35 (0, 0))
  row : ∃ cur, w.heap[b]? = some (.cells cur 37 (0, 0)) ∧ cur.size = L.length ∧ ∀ (i : Nat) (l : List Nat), L[i]? = some l → ∃ v, cur[i]? = some v ∧ RowV w n0 g b v l
  ne : g ≠ b
  g0 : n0 ≤ g
  b0 : n0 ≤ b
  small : L.length ≤ 32
  items : N ≤ 32
theorem set_look' {α : Type} {l : List α} {n i : Nat} {x y : α} (h : (l.set n y)[i]? = some x) : (i = n ∧ x = y ∧ i < l.length) ∨ (i ≠ n ∧ l[i]? = some x) := by
  by_cases hin : n = i
  · subst hin
    have hi : n < l.length := by have := (List.getElem?_eq_some_iff.1 h).1; simpa using this
    rw [List.getElem?_set_self hi] at h
    injection h with h
    exact .inl ⟨rfl, h.symm, hi⟩
  · rw [List.getElem?_set_ne hin] at h
    exact .inr ⟨fun e => hin e.symm, h⟩
section
variable {w w' : World} {n0 g b N : Nat} {L : List (List Nat)}
theorem RowV.frame {v : Value} {l : List Nat} (h : RowV w n0 g b v l) (hf : ∀ k, v.ownBlock = some k → w'.heap[k]? = w.heap[k]?) (hs : w.heap.size ≤ w'.heap.size) : RowV w' n0 g b v l :=
  ⟨h.1.frame hf, fun k hk => by obtain ⟨h1, h2, h3, h4⟩ := h.2.1 k hk; exact ⟨h1, h2, h3, by omega⟩, h.2.2⟩
theorem IsQ.glt (h : IsQ w n0 g b L N) : g < w.heap.size := lt_of_block h.obj
theorem IsQ.blt (h : IsQ w n0 g b L N) : b < w.heap.size := by obtain ⟨_, h1, _⟩ := h.row; exact lt_of_block h1
theorem IsQ.frame (h : IsQ w n0 g b L N) (hs : w.heap.size ≤ w'.heap.size) (hf : ∀ k, n0 ≤ k → k < w.heap.size → w'.heap[k]? = w.heap[k]?) : IsQ w' n0 g b L N := by
  obtain ⟨cur, h1, h2, h3⟩ := h.row
  refine ⟨(hf g h.g0 h.glt).trans h.obj, ⟨cur, (hf b h.b0 h.blt).trans h1, h2, fun i l hl => ?_⟩, h.ne, h.g0, h.b0, h.small, h.items⟩
  obtain ⟨v, hv, hr⟩ := h3 i l hl
  exact ⟨v, hv, hr.frame (fun k hk => hf k (hr.2.1 k hk).2.2.1 (hr.2.1 k hk).2.2.2) hs⟩
theorem IsQ.below (h : IsQ w n0 g b L N) (hb : Below w.heap.size w w') : IsQ w' n0 g b L N := h.frame hb.size (fun k _ hk => hb.block k hk)
theorem IsQ.c0 (h : IsQ w n0 g b L N) : w.cell? ⟨g, 0, none⟩ = some (.slice (some ⟨b, 0, none⟩) L.length L.length) := blk_cell h.obj 0
theorem IsQ.c1 (h : IsQ w n0 g b L N) : w.cell? ⟨g, 1, none⟩ = some (.int .i64 N) := blk_cell h.obj 1
/-- The cell of one list, and the list's own cells. -/
theorem IsQ.list (h : IsQ w n0 g b L N) {i : Nat} {l : List Nat} (hl : L[i]? = some l) : ∃ a c, w.cell? ⟨b, i, none⟩ = some (.slice a l.length c) ∧ l.length ≤ c ∧ c ≤ maxLen ∧ RowV w n0 g b (.slice a l.length c) l ∧
    (0 < l.length → ∃ bl o, a = some ⟨bl, o, none⟩ ∧ ∀ (k x : Nat), l[k]? = some x → w.cell? ⟨bl, o + k, none⟩ = some (.int .i64 x)) := by
  obtain ⟨cur, h1, h2, h3⟩ := h.row
  obtain ⟨v, hv, hr⟩ := h3 i l hl
  obtain ⟨_, a, c, rfl, h4, h5, h6⟩ := reads_int hr.1
  refine ⟨a, c, (blk_cell h1 i).trans hv, h4, h5, hr, fun h0 => ?_⟩
  obtain ⟨bl, o, rfl, h7⟩ := h6 h0
  exact ⟨bl, o, rfl, fun k x hx => h7 k x (by simp [asInts, hx])⟩
theorem IsQ.free (h : IsQ w n0 g b L N) (i : Nat) : w.frozen? ⟨b, i, none⟩ = false := by
  obtain ⟨cur, h1, _⟩ := h.row
  exact blk_free h1 i
/-- Another list is stored. -/
theorem IsQ.set (h : IsQ w n0 g b L N) (i : Nat) {v : Value} {l : List Nat} (hr : RowV w n0 g b v l) : IsQ (w.setCell ⟨b, i, none⟩ v) n0 g b (L.set i l) N := by
  obtain ⟨cur, h1, h2, h3⟩ := h.row
  have hs : (w.setCell ⟨b, i, none⟩ v).heap.size = w.heap.size := by simp [World.setCell]
  refine ⟨?_, ⟨cur.setIfInBounds i v, blk_set h1 i v, by simpa using h2, fun j m hm => ?_⟩, h.ne, h.g0, h.b0, by simpa using h.small, h.items⟩
  · rw [List.length_set]
    exact (heap_setCell_other _ _ _ _ h.ne).trans h.obj
  · rcases set_look' hm with ⟨rfl, rfl, hi⟩ | ⟨hji, hm⟩
    · exact ⟨v, by rw [Array.getElem?_setIfInBounds_self_of_lt (by omega)], hr.frame (fun k hk => heap_setCell_other _ _ _ _ (hr.2.1 k hk).2.1) (by omega)⟩
    · obtain ⟨u, hu, hru⟩ := h3 j m hm
      exact ⟨u, by rw [Array.getElem?_setIfInBounds_ne (by omega)]; exact hu, hru.frame (fun k hk => heap_setCell_other _ _ _ _ (hru.2.1 k hk).2.1) (by omega)⟩
end

theorem whereL_miss {L : List (List Nat)} {x : Int} (h : ∀ (j : Nat) (l : List Nat), L[j]? = some l → ∀ y ∈ l, (y : Int) ≠ x) : whereL L x = -1 := by
  unfold whereL
  split
  · rfl
  · rename_i h0
    cases hf : L.findIdx? (fun l => l.contains x.toNat) with
    | none => rfl
    | some i =>
      exfalso
      rw [List.findIdx?_eq_some_iff_getElem] at hf
      obtain ⟨hi, hc, _⟩ := hf
      have hx : x.toNat ∈ L[i] := by simpa using hc
      exact h i _ (List.getElem?_eq_getElem hi) _ hx (by omega)
theorem whereL_hit {L : List (List Nat)} {x : Nat} {i : Nat} {l : List Nat} (hl : L[i]? = some l) (hx : x ∈ l) (h : ∀ (j : Nat) (m : List Nat), j < i → L[j]? = some m → ∀ y ∈ m, (y : Int) ≠ (x : Int)) : whereL L x = i := by
  unfold whereL
  rw [if_neg (by omega)]
  have hi := (List.getElem?_eq_some_iff.1 hl).1
  rw [show L.findIdx? (fun l => l.contains (x : Int).toNat) = some i by
    rw [List.findIdx?_eq_some_iff_getElem]
    refine ⟨hi, ?_, fun j hj => ?_⟩
    · have := (List.getElem?_eq_some_iff.1 hl).2
      simp [this, hx]
    · have := h j _ hj (List.getElem?_eq_getElem (by omega))
      simp only [Int.toNat_natCast, List.contains_iff_mem, Bool.not_eq_true, decide_eq_true_eq]
      intro hm
      exact this x (by simpa using hm) rfl]

set_option maxRecDepth 100000 in
set_option maxHeartbeats 8000000 in
theorem rwhere_calls {w : World} {n0 g b N : Nat} {L : List (List Nat)} (h : IsQ w n0 g b L N) (x : Int) :
    Calls Try.prog 25 #[.pointer (some ⟨g, 0, none⟩), .int .i64 x] w fun e w' => e = .returned (.int .i64 (whereL L x)) ∧ w = w' := by
  have c0 := h.c0
  have hsm := h.small
  have H := Lib.hid h
  have HM := Lib.hid (fun hh => whereL_miss (L := L) (x := x) hh)
  obtain ⟨nl, hnl⟩ : ∃ n, n = L.length := ⟨_, rfl⟩
  rw [← hnl] at c0 hsm
  have HN := Lib.hid hnl
  obtain ⟨r, hr⟩ : ∃ r, r = whereL L x := ⟨_, rfl⟩
  rw [← hr]
  have HR := Lib.hid hr
  clear h hnl hr
  go_enter Try.func25, Try.ntmps25
  go_wp2_with fail
  go_loopw [5] (fun u wr => w = wr ∧ ∃ i : Nat, u = .int .i64 i ∧ i ≤ nl ∧ Hid (∀ (j : Nat) (m : List Nat), j < i → L[j]? = some m → ∀ y ∈ m, (y : Int) ≠ x)) (fun u _ => nl - (intOf u).toNat)
  case atStart => exact ⟨rfl, 0, rfl, Nat.zero_le _, Lib.hid (fun j m hj => by omega)⟩
  case round =>
    obtain ⟨rfl, i, rfl, hin, HF⟩ := hrel
    have iz : (0 : Int) ≤ (i : Int) := Int.natCast_nonneg _
    by_cases hc1 : i < nl
    · have hc1' : (i : Int) < (nl : Int) := by omega
      obtain ⟨l, hl⟩ : ∃ l, L[i]? = some l := ⟨_, List.getElem?_eq_getElem (by rw [← HN.out]; exact hc1)⟩
      obtain ⟨a, c, d0, hlc, hcm, _, hcells⟩ := H.out.list hl
      unfold maxLen at hcm
      obtain ⟨n, hn⟩ : ∃ n, n = l.length := ⟨_, rfl⟩
      rw [← hn] at d0 hlc hcells
      have HL := Lib.hid hl
      have HC := Lib.hid hcells
      have HNL := Lib.hid hn
      clear hl hcells hn
      go_wp2_with fail
      go_loopw [6] (fun u wr => w = wr ∧ ∃ k : Nat, u = .int .i64 k ∧ k ≤ n ∧ Hid (∀ (m y : Nat), m < k → l[m]? = some y → (y : Int) ≠ x)) (fun u _ => n - (intOf u).toNat)
      case atStart => exact ⟨rfl, 0, rfl, Nat.zero_le _, Lib.hid (fun j m hj => by omega)⟩
      case round =>
        obtain ⟨rfl, k, rfl, hkn, HG⟩ := hrel
        have kz : (0 : Int) ≤ (k : Int) := Int.natCast_nonneg _
        by_cases hc2 : k < n
        · have hc2' : (k : Int) < (n : Int) := by omega
          obtain ⟨bl, o, rfl, hcell⟩ := HC.out (by omega)
          obtain ⟨y, hy⟩ : ∃ y, l[k]? = some y := ⟨_, List.getElem?_eq_getElem (by rw [← HNL.out]; exact hc2)⟩
          have e0 := hcell k y hy
          have HY := Lib.hid hy
          clear hcell hy
          by_cases hxy : (y : Int) = x
          · have hxy' : ((y : Int) == x) = true := by rw [hxy]; exact beq_self_eq_true x
            have HE := Lib.hid (show r = i by
              rw [HR.out, ← hxy]
              exact whereL_hit HL.out (List.mem_of_getElem? HY.out) (fun j m hj hm z hz => by rw [hxy]; exact HF.out j m hj hm z hz))
            clear hxy
            go_wp2_with fail
            go_ret
            rw [HE.out]
            exact ⟨rfl, rfl⟩
          · have hxy' : ((y : Int) == x) = false := beq_eq_false_iff_ne.2 hxy
            have HE := Lib.hid hxy
            clear hxy
            go_wp2_with fail
            go_roundw
            case rel =>
              refine ⟨trivial, k + 1, by go_num, by omega, Lib.hid (fun m z hm hz => ?_)⟩
              by_cases hmk : m = k
              · subst hmk
                rw [HY.out] at hz
                injection hz with hz
                subst hz
                exact HE.out
              · exact HG.out m z (by omega) hz
            case measure => simp [intOf]; omega
        · obtain rfl : k = n := by omega
          have hc2' : ¬ (k : Int) < (k : Int) := by omega
          go_wp2_with fail
          go_roundw
          case rel =>
            refine ⟨trivial, i + 1, by go_num, by omega, Lib.hid (fun j m hj hm z hz => ?_)⟩
            by_cases hji : j = i
            · subst hji
              rw [HL.out] at hm
              injection hm with hm
              subst hm
              obtain ⟨t, ht⟩ := List.getElem?_of_mem hz
              exact HG.out t z (by rw [HNL.out]; exact (List.getElem?_eq_some_iff.1 ht).1) ht
            · exact HF.out j m (by omega) hm z hz
          case measure => simp [intOf]; omega
    · obtain rfl : i = nl := by omega
      have HE := Lib.hid (show r = -1 by rw [HR.out]; exact HM.out (fun j l hj => HF.out j l (by rw [HN.out]; exact (List.getElem?_eq_some_iff.1 hj).1) hj))
      go_wp2_with fail
      go_ret
      rw [HE.out]
      exact ⟨rfl, rfl⟩
theorem rheld_calls (n : Int) (w : World) : Calls Try.prog 51 #[.int .i64 n] w fun e w' => e = .returned (.int .i64 (heldN n)) ∧ w = w' := by
  rw [show ((heldN n : Nat) : Int) = max 0 (min n 32) by unfold heldN; omega]
  go_enter Try.func51, Try.ntmps51
  go_wp2
  all_goals go_ret
  all_goals refine ⟨?_, rfl⟩
  all_goals show Ending.returned (Value.int _ _) = _
  all_goals congr 2
  all_goals omega
end Go.Proofs.Ytkiogbenbicghaa
