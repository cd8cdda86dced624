/- A policy in memory, and what policy.in, most, find, label.Leq, and the document's Find and Leq do. Conditions: the lists can be read, numbers are int64s. -/
import Derived.Test.YtbgpniepgbmkaaaDoorSignRead2
import Derived.Test.YtbgpniepgbmkaaaDoorView
namespace Go.Proofs.YtbgpniepgbmkaaaDoor
open Go.RowKit BigFrame

theorem plus_one1 (w : World) (o : Obj) : Below w.heap.size w (w.alloc o) := (Below.refl _ _).alloc (Nat.le_refl _) o
theorem below_cell1 {B : Nat} {w w' : World} (h : Below B w w') {b o : Nat} (hb : b < B) {v : Value} (hc : w.cell? ⟨b, o, none⟩ = some v) : w'.cell? ⟨b, o, none⟩ = some v := (h.cell (p := ⟨b, o, none⟩) hb).trans hc
structure Dm where
  nm : ByteArray
  lv : Int
  ct : Int
  ta : Int
  ob : Int
  ri : Int
def Dm.cells (d : Dm) : List Value := [.string d.nm, .int .i64 d.lv, .int .i64 d.ct, .int .i64 d.ta, .int .i64 d.ob, .int .i64 d.ri]
def Dm.val (d : Dm) : Value := .agg #[.string d.nm, .int .i64 d.lv, .int .i64 d.ct, .int .i64 d.ta, .int .i64 d.ob, .int .i64 d.ri]
/-- The cells of row i. -/
theorem rows_at {α : Type} {f : α → List Value} {k : Nat} {w : World} {bl o n c : Nat} {xs : List α} (h : Reads w k (.slice (some ⟨bl, o, none⟩) n c) n (xs.flatMap f)) (hf : ∀ x ∈ xs, (f x).length = k) {i : Nat} {x : α} (hx : xs[i]? = some x) (hi : i < n) {j : Nat} {u : Value} (hj : (f x)[j]? = some u) : w.cell? ⟨bl, o + i * k + j, none⟩ = some u := by
  obtain ⟨_, a', c', e, _, _, h4⟩ := h
  injection e with e1 _ e3
  subst e1 e3
  obtain ⟨b', o', e, hc⟩ := h4 (by omega)
  injection e with e
  injection e with e1 e2
  subst e1 e2
  rw [Nat.add_assoc]
  refine hc _ _ ?_
  have hjk : j < k := by
    have := (List.getElem?_eq_some_iff.1 hj).1
    rw [hf x (List.mem_of_getElem? hx)] at this
    exact this
  rw [flat_get_mem f k xs i j hf hjk, hx]
  exact hj
theorem dm_len (d : Dm) : d.cells.length = 6 := rfl
/-- What a walk needs of a list of domains. -/
theorem doms_open {w : World} {v : Value} {n : Nat} {D : List Dm} (h : Reads w 6 v n (D.flatMap Dm.cells)) : D.length = n ∧ ∃ a c, v = .slice a n c ∧ n ≤ c ∧ c ≤ maxLen ∧ (0 < n → ∃ bl o, a = some ⟨bl, o, none⟩ ∧ bl < w.heap.size ∧ ∀ (i : Nat) (d : Dm), D[i]? = some d →
    w.cell? ⟨bl, o + i * 6, none⟩ = some (.string d.nm) ∧ w.cell? ⟨bl, o + i * 6 + 1, none⟩ = some (.int .i64 d.lv) ∧ w.cell? ⟨bl, o + i * 6 + 2, none⟩ = some (.int .i64 d.ct) ∧ w.cell? ⟨bl, o + i * 6 + 3, none⟩ = some (.int .i64 d.ta) ∧ w.cell? ⟨bl, o + i * 6 + 4, none⟩ = some (.int .i64 d.ob) ∧ w.cell? ⟨bl, o + i * 6 + 5, none⟩ = some (.int .i64 d.ri)) := by
  have h' := h
  obtain ⟨h1, a, c, rfl, h2, h3, h4⟩ := h
  have hl : ∀ D : List Dm, (D.flatMap Dm.cells).length = D.length * 6 := by
    intro D
    induction D with
    | nil => rfl
    | cons d D ih => rw [List.flatMap_cons, List.length_append, ih, List.length_cons, dm_len]; omega
  have hD : D.length = n := by have := hl D; omega
  refine ⟨hD, a, c, rfl, h2, h3, fun hn => ?_⟩
  obtain ⟨bl, o, rfl, _⟩ := h4 hn
  refine ⟨bl, o, rfl, h'.lt hn (by omega) bl rfl, fun i d hd => ?_⟩
  have hi : i < n := by have := (List.getElem?_eq_some_iff.1 hd).1; omega
  have hc := fun (j : Nat) (u : Value) (hj : d.cells[j]? = some u) => rows_at h' (fun x _ => dm_len x) hd hi hj
  exact ⟨hc 0 _ rfl, hc 1 _ rfl, hc 2 _ rfl, hc 3 _ rfl, hc 4 _ rfl, hc 5 _ rfl⟩
theorem tl_eq (a b : ByteArray) : (a.toList == b.toList) = decide (a = b) := by
  by_cases h : a = b
  · subst h
    simp
  · rw [decide_eq_false h]
    cases h2 : a.toList == b.toList with
    | false => rfl
    | true =>
      exfalso
      apply h
      have h4 := eq_of_beq h2
      rw [ByteArray.toList_eq, ByteArray.toList_eq] at h4
      exact ByteArray.ext (Array.ext' h4)
def inB (n a b : Int) : Bool := decide (a ≤ n ∧ n ≤ b)
set_option maxHeartbeats 1000000 in
theorem in_calls (n a b : Int) (w : World) :
    Calls Tryd.prog 27 #[.int .i64 n, .int .i64 a, .int .i64 b] w fun e w' => e = .returned (.bool (inB n a b)) ∧ w = w' := by
  by_cases h1 : a ≤ n
  · by_cases h2 : n ≤ b
    · have H := Lib.hid (show inB n a b = true from decide_eq_true ⟨h1, h2⟩)
      go_enter Tryd.func27, Tryd.ntmps27
      go_wp2
      go_ret
      exact ⟨by rw [H.out]; rfl, rfl⟩
    · have H := Lib.hid (show inB n a b = false from decide_eq_false (by omega))
      go_enter Tryd.func27, Tryd.ntmps27
      go_wp2
      go_ret
      exact ⟨by rw [H.out]; rfl, rfl⟩
  · have H := Lib.hid (show inB n a b = false from decide_eq_false (by omega))
    go_enter Tryd.func27, Tryd.ntmps27
    go_wp2
    go_ret
    exact ⟨by rw [H.out]; rfl, rfl⟩
def mostM (k : Int) : Int := if k = 1 then 4 else if k = 2 then 8 else 0
set_option maxHeartbeats 1000000 in
theorem rin_calls (n a b : Int) (w : World) :
    Calls Tryd.prog 35 #[.int .i64 n, .int .i64 a, .int .i64 b] w fun e w' => e = .returned (.bool (inB n a b)) ∧ w = w' := by
  by_cases h1 : a ≤ n
  · by_cases h2 : n ≤ b
    · have H := Lib.hid (show inB n a b = true from decide_eq_true ⟨h1, h2⟩)
      go_enter Tryd.func35, Tryd.ntmps35
      go_wp2
      go_ret
      exact ⟨by rw [H.out]; rfl, rfl⟩
    · have H := Lib.hid (show inB n a b = false from decide_eq_false (by omega))
      go_enter Tryd.func35, Tryd.ntmps35
      go_wp2
      go_ret
      exact ⟨by rw [H.out]; rfl, rfl⟩
  · have H := Lib.hid (show inB n a b = false from decide_eq_false (by omega))
    go_enter Tryd.func35, Tryd.ntmps35
    go_wp2
    go_ret
    exact ⟨by rw [H.out]; rfl, rfl⟩
set_option maxHeartbeats 1000000 in
theorem most_calls (k : Int) (w : World) : Calls Tryd.prog 55 #[.int .i64 k] w fun e w' => e = .returned (.int .i64 (mostM k)) ∧ w = w' := by
  by_cases h1 : k = 1
  · subst h1
    go_enter Tryd.func55, Tryd.ntmps55
    go_wp2
    go_ret
    exact ⟨rfl, rfl⟩
  · by_cases h2 : k = 2
    · subst h2
      go_enter Tryd.func55, Tryd.ntmps55
      go_wp2
      go_ret
      exact ⟨rfl, rfl⟩
    · have H := Lib.hid (show mostM k = 0 by unfold mostM; rw [if_neg h1, if_neg h2])
      have t1 : (k == 1) = false := by simpa using h1
      have t2 : (k == 2) = false := by simpa using h2
      clear h1 h2
      go_enter Tryd.func55, Tryd.ntmps55
      go_wp2
      go_ret
      exact ⟨by rw [H.out]; rfl, rfl⟩
/-- Where a name is; below 0: nowhere. -/
def findD (D : List Dm) (s : ByteArray) : Int := match D.findIdx? (fun d => decide (d.nm = s)) with | some i => i | none => -1
theorem findD_hit {D : List Dm} {s : ByteArray} {i : Nat} {d : Dm} (hno : ∀ d ∈ D.take i, decide (d.nm = s) = false) (hd : D[i]? = some d) (h : decide (d.nm = s) = true) : findD D s = i := by
  unfold findD
  have : D.findIdx? (fun d => decide (d.nm = s)) = some i := by
    rw [List.findIdx?_eq_some_iff_getElem]
    obtain ⟨hi, rfl⟩ := List.getElem?_eq_some_iff.1 hd
    refine ⟨hi, h, fun j hj => ?_⟩
    have := hno D[j] (by rw [List.mem_take_iff_getElem]; exact ⟨j, by omega, rfl⟩)
    simpa using this
  rw [this]
theorem findD_none {D : List Dm} {s : ByteArray} (hno : ∀ d ∈ D, decide (d.nm = s) = false) : findD D s = -1 := by
  unfold findD
  have : D.findIdx? (fun d => decide (d.nm = s)) = none := by
    rw [List.findIdx?_eq_none_iff]
    exact hno
  rw [this]
theorem take_no {D : List Dm} {s : ByteArray} {i : Nat} {d : Dm} (hno : ∀ d ∈ D.take i, decide (d.nm = s) = false) (hd : D[i]? = some d) (h : decide (d.nm = s) = false) : ∀ d ∈ D.take (i + 1), decide (d.nm = s) = false := by
  rw [List.take_add_one, hd, Option.toList_some]
  intro x hx
  rcases List.mem_append.1 hx with hx | hx
  · exact hno x hx
  · rw [List.mem_singleton] at hx
    rw [hx]
    exact h
set_option maxRecDepth 100000 in
set_option maxHeartbeats 4000000 in
theorem rFind_calls {w : World} {v : Value} {n : Nat} {D : List Dm} (h : Reads w 6 v n (D.flatMap Dm.cells)) (s : ByteArray) :
    Calls Tryd.prog 37 #[v, .string s] w fun e w' => e = .returned (.int .i64 (findD D s)) ∧ w = w' := by
  obtain ⟨hl, a, c, rfl, h2, h3, h4⟩ := doms_open h
  unfold maxLen at h3
  have HL := Lib.hid hl
  have H4 := Lib.hid h4
  clear h hl h4
  go_enter Tryd.func37, Tryd.ntmps37
  go_wp2_with fail
  go_loop [5] (fun u => ∃ j : Nat, u = .int .i64 j ∧ j ≤ n ∧ ∀ d ∈ D.take j, decide (d.nm = s) = false) (fun u => n - (intOf u).toNat)
  case atStart => exact ⟨0, rfl, Nat.zero_le _, by simp⟩
  case round =>
    obtain ⟨j, rfl, hj, hno⟩ := hrel
    have HNO := Lib.hid hno
    have hjz : (0 : Int) ≤ (j : Int) := Int.natCast_nonneg _
    clear hno
    by_cases hc : j < n
    · have hc' : (j : Int) < (n : Int) := by omega
      obtain ⟨d, hd⟩ : ∃ d, D[j]? = some d := ⟨_, List.getElem?_eq_getElem (by rw [HL.out]; exact hc)⟩
      obtain ⟨bl, o, rfl, hbl, hcx⟩ := H4.out (by omega)
      have k0 := (hcx j d hd).1
      have HD := Lib.hid hd
      obtain ⟨nm, lv, ct, ta, ob, ri⟩ := d
      simp only at k0
      clear hcx hd
      by_cases hx : decide (nm = s) = true
      · have HV := Lib.hid (findD_hit HNO.out HD.out hx)
        have hx1 : (nm.toList == s.toList) = true := by rw [tl_eq]; exact hx
        clear hx
        go_wp2_with fail
        go_ret
        rw [HV.out]
        exact ⟨rfl, rfl⟩
      · have hx2 : decide (nm = s) = false := by simpa using hx
        have HV := Lib.hid (take_no HNO.out HD.out hx2)
        have hx1 : (nm.toList == s.toList) = false := by rw [tl_eq]; exact hx2
        clear hx hx2
        go_wp2_with fail
        go_round
        case rel => exact ⟨j + 1, by go_num, by omega, HV.out⟩
        case measure => simp [intOf]; omega
    · obtain rfl : j = n := by omega
      have hc' : ¬ (j : Int) < (j : Int) := by omega
      have HV := Lib.hid (findD_none (D := D) (s := s) (by
        have := HNO.out
        rwa [List.take_of_length_le (by rw [HL.out]; exact Nat.le_refl _)] at this))
      go_wp2_with fail
      go_ret
      rw [HV.out]
      exact ⟨rfl, rfl⟩
set_option maxRecDepth 100000 in
set_option maxHeartbeats 4000000 in
theorem find1_calls (d : Dm) (s : ByteArray) (nb : Nat) (w : World) (hc : w.cell? ⟨nb, 0, none⟩ = some (.string s)) :
    Calls Tryd.prog 65 #[d.val, .pointer (some ⟨nb, 0, none⟩)] w fun e w' => e = .returned (.bool (decide (d.nm = s))) ∧ Below w.heap.size w w' := by
  have hlt := block_lt_of_cell hc
  have c2 := below_cell1 (plus_one1 w (.cells #[.string d.nm, .int .i64 d.lv, .int .i64 d.ct, .int .i64 d.ta, .int .i64 d.ob, .int .i64 d.ri] 51)) hlt hc
  obtain ⟨nm, lv, ct, ta, ob, ri⟩ := d
  have HT := Lib.hid (tl_eq nm s)
  simp only at c2
  unfold Dm.val
  simp only
  go_enter Tryd.func65, Tryd.ntmps65
  go_wp2_with fail
  go_ret
  rw [← HT.out]
  exact ⟨rfl, plus_one1 _ _⟩
end Go.Proofs.YtbgpniepgbmkaaaDoor
