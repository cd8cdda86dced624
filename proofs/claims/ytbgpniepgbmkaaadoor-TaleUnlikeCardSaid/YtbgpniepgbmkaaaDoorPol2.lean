/- What policy.find, slices.Contains of bools, label.Leq do. Conditions: the lists can be read. -/
import Derived.Test.YtbgpniepgbmkaaaDoorPol1
namespace Go.Proofs.YtbgpniepgbmkaaaDoor
open Go.RowKit BigFrame

set_option maxRecDepth 100000 in
set_option maxHeartbeats 4000000 in
theorem indexFunc_calls {w : World} {v : Value} {n : Nat} {D : List Dm} (h : Reads w 6 v n (D.flatMap Dm.cells)) (s : ByteArray) (nb : Nat) (hc : w.cell? ⟨nb, 0, none⟩ = some (.string s)) :
    Calls Tryd.prog 44 #[v, .func (.func 65) #[] #[.pointer (some ⟨nb, 0, none⟩)]] w fun e w' => e = .returned (.int .i64 (findD D s)) ∧ Below w.heap.size w w' := by
  obtain ⟨hl, a, c, rfl, h2, h3, h4⟩ := doms_open h
  have hnb := block_lt_of_cell hc
  unfold maxLen at h3
  have HL := Lib.hid hl
  have H4 := Lib.hid h4
  have HC := Lib.hid hc
  clear h hl h4 hc
  go_enter Tryd.func44, Tryd.ntmps44
  go_wp2_with fail
  go_loopw [8] (fun u wr => ∃ j : Nat, u = .int .i64 j ∧ j ≤ n ∧ (∀ d ∈ D.take j, decide (d.nm = s) = false) ∧ Below w.heap.size w wr) (fun u _ => n - (intOf u).toNat)
  case atStart => exact ⟨0, rfl, Nat.zero_le _, by simp, Below.refl _ _⟩
  case round =>
    obtain ⟨j, rfl, hj, hno, hb⟩ := hrel
    have HNO := Lib.hid hno
    have HB := Lib.hid hb
    have hjz : (0 : Int) ≤ (j : Int) := Int.natCast_nonneg _
    clear hno hb
    by_cases hc : j < n
    · have hc' : (j : Int) < (n : Int) := by omega
      obtain ⟨d, hd⟩ : ∃ d, D[j]? = some d := ⟨_, List.getElem?_eq_getElem (by rw [HL.out]; exact hc)⟩
      obtain ⟨bl, o, rfl, hbl, hcx⟩ := H4.out (by omega)
      obtain ⟨k0, k1, k2, k3, k4, k5⟩ := hcx j d hd
      have k0 := below_cell1 HB.out hbl k0
      have k1 := below_cell1 HB.out hbl k1
      have k2 := below_cell1 HB.out hbl k2
      have k3 := below_cell1 HB.out hbl k3
      have k4 := below_cell1 HB.out hbl k4
      have k5 := below_cell1 HB.out hbl k5
      have HD := Lib.hid hd
      have hf := find1_calls d s nb wr (below_cell1 HB.out hnb HC.out)
      have HX := Lib.hid (fun h : decide (d.nm = s) = true => findD_hit HNO.out HD.out h)
      have HY := Lib.hid (fun h : decide (d.nm = s) = false => take_no HNO.out HD.out h)
      obtain ⟨nm, lv, ct, ta, ob, ri⟩ := d
      unfold Dm.val at hf
      simp only at k0 k1 k2 k3 k4 k5 hf HX HY
      have HF := Lib.hid hf
      clear hcx hd hf
      cases hx : decide (nm = s) with
      | true =>
        rw [hx] at HF HX
        have HV := Lib.hid (HX.out rfl)
        clear hx
        go_wp2_with fail
        refine HF.out.mono ?_
        rintro e w4 ⟨rfl, hb4⟩
        have HB4 := Lib.hid (HB.out.trans (hb4.mono HB.out.size))
        clear hb4
        go_wp2_with fail
        go_ret
        rw [HV.out]
        exact ⟨rfl, HB4.out⟩
      | false =>
        rw [hx] at HF HY
        have HV := Lib.hid (HY.out rfl)
        clear hx
        go_wp2_with fail
        refine HF.out.mono ?_
        rintro e w4 ⟨rfl, hb4⟩
        have HB4 := Lib.hid (HB.out.trans (hb4.mono HB.out.size))
        clear hb4
        go_wp2_with fail
        go_roundw
        case rel => exact ⟨j + 1, by go_num, by omega, HV.out, HB4.out⟩
        case measure => simp [intOf]; omega
    · obtain rfl : j = n := by omega
      have hc' : ¬ (j : Int) < (j : Int) := by omega
      have HV := Lib.hid (findD_none (D := D) (s := s) (by
        have := HNO.out
        rwa [List.take_of_length_le (by rw [HL.out]; exact Nat.le_refl _)] at this))
      go_wp2_with fail
      go_ret
      rw [HV.out]
      exact ⟨rfl, HB.out⟩
set_option maxRecDepth 100000 in
set_option maxHeartbeats 4000000 in
theorem find_calls {w : World} {v : Value} {n : Nat} {D : List Dm} (h : Reads w 6 v n (D.flatMap Dm.cells)) (s : ByteArray) :
    Calls Tryd.prog 52 #[v, .string s] w fun e w' => e = .returned (.int .i64 (findD D s)) ∧ Below w.heap.size w w' := by
  have hr : Reads (w.alloc (.cells #[.string s] 9)) 6 v n (D.flatMap Dm.cells) := by
    by_cases hn : 0 < n
    · exact h.frame (fun k hk => Below.heap_alloc _ _ _ (h.lt hn (by omega) k hk))
    · obtain ⟨h1, a, c, rfl, h2, h3, h4⟩ := h
      exact ⟨h1, a, c, rfl, h2, h3, fun h => absurd h hn⟩
  have HI := Lib.hid (indexFunc_calls hr s w.heap.size (blk_cell (heap_alloc_new w _) 0))
  have hmf : ∀ (fn : Fn) (first cap : Array Value) (w : World), (Instr.makeFunc fn first cap).run Tryd.prog w = .ok (.func fn first cap) w := fun _ _ _ _ => rfl
  obtain ⟨_, a, c, rfl, _⟩ := h
  clear hr
  go_enter Tryd.func52, Tryd.ntmps52
  go_wp2_with fail
  refine HI.out.mono ?_
  rintro e w4 ⟨rfl, hb4⟩
  have HB := Lib.hid ((plus_one1 w (.cells #[.string s] 9)).trans (hb4.mono (plus_one1 w (.cells #[.string s] 9)).size))
  clear hb4
  go_wp2_with fail
  go_ret
  exact ⟨rfl, HB.out⟩
/-- Is there a false? -/
def hasF (l : List Bool) : Bool := l.any (fun b => !b)
theorem bools_at {w : World} {bl o n c : Nat} {l : List Bool} (h : Reads w 1 (.slice (some ⟨bl, o, none⟩) n c) n (bools l)) {i : Nat} {x : Bool} (hx : l[i]? = some x) (hi : i < n) : w.cell? ⟨bl, o + i, none⟩ = some (.bool x) := by
  obtain ⟨_, a', c', e, _, _, h4⟩ := h
  injection e with e1 _ e3
  subst e1 e3
  obtain ⟨b', o', e, hc⟩ := h4 (by omega)
  injection e with e
  injection e with e1 e2
  subst e1 e2
  exact hc i _ (by simp [bools, hx])
set_option maxRecDepth 100000 in
set_option maxHeartbeats 4000000 in
theorem indexBool_calls {w : World} {v : Value} {n : Nat} {l : List Bool} (h : Reads w 1 v n (bools l)) :
    Calls Tryd.prog 66 #[v, .bool false] w fun e w' => ∃ k : Int, e = .returned (.int .i64 k) ∧ decide (0 ≤ k) = hasF l ∧ w = w' := by
  have hl : l.length = n := by have := h.1; simpa [bools] using this
  have h' := h
  obtain ⟨_, a, c, rfl, h2, h3, h4⟩ := h
  unfold maxLen at h3
  have HL := Lib.hid hl
  have H4 := Lib.hid (fun hn : 0 < n => (h4 hn).imp (fun b h => h.imp (fun o h => h.1)))
  have HR := Lib.hid h'
  clear hl h4 h'
  go_enter Tryd.func66, Tryd.ntmps66
  go_wp2_with fail
  go_loop [8] (fun u => ∃ j : Nat, u = .int .i64 j ∧ j ≤ n ∧ ∀ x ∈ l.take j, x = true) (fun u => n - (intOf u).toNat)
  case atStart => exact ⟨0, rfl, Nat.zero_le _, by simp⟩
  case round =>
    obtain ⟨j, rfl, hj, hno⟩ := hrel
    have HNO := Lib.hid hno
    have hjz : (0 : Int) ≤ (j : Int) := Int.natCast_nonneg _
    clear hno
    by_cases hc : j < n
    · have hc' : (j : Int) < (n : Int) := by omega
      obtain ⟨x, hx⟩ : ∃ x, l[j]? = some x := ⟨_, List.getElem?_eq_getElem (by rw [HL.out]; exact hc)⟩
      obtain ⟨bl, o, rfl⟩ := H4.out (by omega)
      have k0 := bools_at HR.out hx hc
      cases x with
      | false =>
        have HV := Lib.hid (show hasF l = true by
          unfold hasF
          rw [List.any_eq_true]
          exact ⟨false, List.mem_of_getElem? hx, rfl⟩)
        clear hx
        go_wp2_with fail
        go_ret
        exact ⟨j, rfl, by rw [HV.out]; exact decide_eq_true (by omega), rfl⟩
      | true =>
        have HV := Lib.hid (show ∀ x ∈ l.take (j + 1), x = true by
          rw [List.take_add_one, hx, Option.toList_some]
          intro y hy
          rcases List.mem_append.1 hy with hy | hy
          · exact HNO.out y hy
          · rw [List.mem_singleton] at hy
            exact hy)
        clear hx
        go_wp2_with fail
        go_round
        case rel => exact ⟨j + 1, by go_num, by omega, HV.out⟩
        case measure => simp [intOf]; omega
    · obtain rfl : j = n := by omega
      have hc' : ¬ (j : Int) < (j : Int) := by omega
      have HV := Lib.hid (show hasF l = false by
        unfold hasF
        rw [List.any_eq_false]
        intro x hx
        have := HNO.out
        rw [List.take_of_length_le (by rw [HL.out]; exact Nat.le_refl _)] at this
        rw [this x hx]
        simp)
      go_wp2_with fail
      go_ret
      exact ⟨-1, rfl, by rw [HV.out]; rfl, rfl⟩
set_option maxRecDepth 100000 in
set_option maxHeartbeats 4000000 in
theorem contains_calls {w : World} {v : Value} {n : Nat} {l : List Bool} (h : Reads w 1 v n (bools l)) :
    Calls Tryd.prog 54 #[v, .bool false] w fun e w' => e = .returned (.bool (hasF l)) ∧ w = w' := by
  have HI := Lib.hid (indexBool_calls h)
  obtain ⟨_, a, c, rfl, _⟩ := h
  go_enter Tryd.func54, Tryd.ntmps54
  go_wp2_with fail
  refine HI.out.mono ?_
  rintro e w4 ⟨k, rfl, hk, rfl⟩
  have HK := Lib.hid hk
  clear hk
  go_wp2_with fail
  go_ret
  rw [← HK.out]
  exact ⟨rfl, rfl⟩
def leqB (l1 c1 l2 c2 : Int) : Bool := decide (l1 ≤ l2) && (bits .andNot .i64 c1 c2 == 0)
set_option maxRecDepth 100000 in
set_option maxHeartbeats 4000000 in
theorem leq_calls (l1 c1 l2 c2 : Int) (w : World) :
    Calls Tryd.prog 56 #[lab l1 c1, lab l2 c2] w fun e w' => e = .returned (.bool (leqB l1 c1 l2 c2)) ∧ Below w.heap.size w w' := by
  unfold lab
  by_cases h : l1 ≤ l2
  · have H := Lib.hid (show leqB l1 c1 l2 c2 = (bits .andNot .i64 c1 c2 == 0) by unfold leqB; rw [decide_eq_true h, Bool.true_and])
    generalize hz : (bits .andNot .i64 c1 c2 == 0) = z at H
    go_enter Tryd.func56, Tryd.ntmps56
    go_wp2_with fail
    go_ret
    rw [H.out]
    exact ⟨by rw [← hz]; rfl, ((Below.refl _ _).alloc (Nat.le_refl _) _).alloc (by simp) _⟩
  · have H := Lib.hid (show leqB l1 c1 l2 c2 = false by unfold leqB; rw [decide_eq_false h, Bool.false_and])
    go_enter Tryd.func56, Tryd.ntmps56
    go_wp2_with fail
    go_ret
    rw [H.out]
    exact ⟨rfl, ((Below.refl _ _).alloc (Nat.le_refl _) _).alloc (by simp) _⟩
end Go.Proofs.YtbgpniepgbmkaaaDoor
