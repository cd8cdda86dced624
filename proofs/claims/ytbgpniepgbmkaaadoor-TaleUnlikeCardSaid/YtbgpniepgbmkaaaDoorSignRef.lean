/- What the document's Name, Read and Print of labels do (parcloseref02), byte by byte. Condition: a text's length, at most 2^47 bytes. -/
import Derived.Test.YtbgpniepgbmkaaaDoorSignPrint
import Derived.Test.YtbgpniepgbmkaaaDoorSignRead2
namespace Go.Proofs.YtbgpniepgbmkaaaDoor
open Go.RowKit BigFrame

theorem below_dN {B : Nat} {a w : World} (h : Below B a w) (n : Nat) : Below B a (w.drewN n) := h.trans ⟨rfl, rfl, rfl, Nat.le_refl _, fun _ _ => rfl⟩

set_option maxHeartbeats 4000000 in
theorem rName_calls (s : ByteArray) (hs : s.size ≤ 140737488351232) (w : World) :
    Calls Tryd.prog 36 #[.string s] w fun e w' => e = .returned (.bool (nameB (bl s 0))) ∧ Below w.heap.size w w' := by
  go_enter Tryd.func36, Tryd.ntmps36
  go_wp2_with fail
  go_loopw [3, 4] (fun u v wr => ∃ i k : Nat, u = .int .i64 k ∧ v = .int .i64 i ∧ k ≤ i ∧ i ≤ s.size ∧ Below w.heap.size w wr ∧ nameLen (bl s 0) = (nameLen (bl s i)).map (· + k)) (fun _ v _ => s.size - (intOf v).toNat)
  case atStart => exact ⟨0, 0, rfl, rfl, Nat.le_refl _, Nat.zero_le _, Below.refl _ _, by simp⟩
  case round =>
    obtain ⟨i, k, rfl, rfl, hk, his, hbw, hnl⟩ := hrel
    have HN := Lib.hid hnl
    clear hnl
    have i0 : (0 : Int) ≤ (i : Int) := Int.natCast_nonneg _
    have hn9 : (i : Int) ≤ 140737488351232 := by omega
    by_cases hp : i < s.size
    · have i1 : (i : Int) < (s.size : Int) := by omega
      obtain ⟨x, hx⟩ : ∃ x : Int, x = (bAt s i : Int) := ⟨_, rfl⟩
      have hb0 : ((s[i]'hp).toNat : Int) = x := by rw [hx, bAt_eq s i hp]
      have hx0 : 0 ≤ x ∧ x < 256 := by have := bAt_lt s i; omega
      have HX := Lib.hid hx
      have HB := Lib.hid (bl_cons s i hp)
      clear hx
      by_cases hlet : 97 ≤ x ∧ x ≤ 122
      · obtain ⟨ha, hb⟩ := hlet
        have HL := Lib.hid (show nameLen (bl s 0) = (nameLen (bl s (i + 1))).map (· + (k + 1)) by
          rw [HN.out, HB.out, nameLen_letter _ (by have := HX.out; omega), Option.map_map]
          congr 1
          funext z
          simp
          omega)
        go_wp2_with fail
        go_roundw
        case rel => exact ⟨i + 1, k + 1, by go_num, by go_num, by omega, by omega, hbw, HL.out⟩
        case measure => simp [intOf]; omega
      · by_cases hp2 : i + 1 < s.size
        · have i2 : (i : Int) + 1 < (s.size : Int) := by omega
          have i3 : decide ((s.size : Int) ≤ (i : Int) + 1) = false := decide_eq_false (by omega)
          have i5 : (0 : Int) ≤ (i : Int) + 1 := by omega
          have i6 : ((i : Int) + 1).toNat = i + 1 := by omega
          have i4 : IntKind.i64.wrap ((i : Int) + 1) = (i : Int) + 1 := wrap_small _ (by omega) (by omega)
          obtain ⟨y, hy⟩ : ∃ y : Int, y = (bAt s (i + 1) : Int) := ⟨_, rfl⟩
          have hb1 : ((s[i + 1]'hp2).toNat : Int) = y := by rw [hy, bAt_eq s (i + 1) hp2]
          have hy0 : 0 ≤ y ∧ y < 256 := by have := bAt_lt s (i + 1); omega
          have hgr0 := fun (u : World) => greek_calls (bAt s i) (bAt s (i + 1)) (bAt_lt _ _) (bAt_lt _ _) u
          rw [← hy, ← HX.out] at hgr0
          obtain ⟨g, hg⟩ : ∃ g : Int, g = greek (bAt s i) (bAt s (i + 1)) := ⟨_, rfl⟩
          rw [← hg] at hgr0
          have hgr := fun (u : World) => (hgr0 u).mono (fun e w' ⟨h1, h2⟩ => (⟨h1, h2.symm⟩ : e = Ending.returned (.int .i64 g) ∧ u = w'))
          clear hgr0
          have HY := Lib.hid hy
          have HG := Lib.hid hg
          have HB2 := Lib.hid (bl_cons s (i + 1) hp2)
          have HGR := Lib.hid hgr
          clear hy hg hgr
          by_cases hok : 0 ≤ g ∧ g ≤ 24
          · obtain ⟨hc, hd⟩ := hok
            have hc2 : decide (g < 0) = false := decide_eq_false (by omega)
            have hd2 : decide (24 < g) = false := decide_eq_false (by omega)
            have HL := Lib.hid (show nameLen (bl s 0) = (nameLen (bl s (i + 2))).map (· + (k + 1)) by
              rw [HN.out, HB.out, HB2.out, nameLen_sign _ _ (by have := HX.out; omega) _ (by rw [← HG.out]; omega), Option.map_map]
              congr 1
              funext z
              simp
              omega)
            have h3 : x < 97 ∨ 122 < x := by omega
            clear hlet
            rcases h3 with ha | ha
            all_goals
              go_wp2_with fail
              go_big_quiet ((go_at_call 60; exact quiet_eq (HGR.out _)))
              go_wp2_with fail
              go_roundw
              case rel => exact ⟨i + 2, k + 1, by go_num, by go_num, by omega, by omega, below_dN hbw _, HL.out⟩
              case measure => simp [intOf]; omega
          · have HL := Lib.hid (show nameB (bl s 0) = false by
              unfold nameB
              rw [HN.out, HB.out, HB2.out, nameLen_bad _ _ (by have := HX.out; omega) _ (by rw [← HG.out]; omega)]
              rfl)
            have h3 : x < 97 ∨ 122 < x := by omega
            have h4 : g = -1 ∨ (¬ g < 0 ∧ 24 < g) := by have := greek_ge (bAt s i) (bAt s (i + 1)); have := HG.out; omega
            clear hlet hok
            rcases h4 with rfl | ⟨hc, hd⟩
            · rcases h3 with ha | ha
              all_goals
                go_wp2_with fail
                go_big_quiet ((go_at_call 60; exact quiet_eq (HGR.out _)))
                go_wp2_with fail
                go_ret
                exact ⟨by rw [HL.out]; rfl, below_dN hbw _⟩
            · have hc2 : decide (g < 0) = false := decide_eq_false hc
              rcases h3 with ha | ha
              all_goals
                go_wp2_with fail
                go_big_quiet ((go_at_call 60; exact quiet_eq (HGR.out _)))
                go_wp2_with fail
                go_ret
                exact ⟨by rw [HL.out]; rfl, below_dN hbw _⟩
        · have i2 : ¬ (i : Int) + 1 < (s.size : Int) := by omega
          have i3 : decide ((s.size : Int) ≤ (i : Int) + 1) = true := decide_eq_true (by omega)
          have i4 : IntKind.i64.wrap ((i : Int) + 1) = (i : Int) + 1 := wrap_small _ (by omega) (by omega)
          have HL := Lib.hid (show nameB (bl s 0) = false by
            unfold nameB
            rw [HN.out, HB.out, bl_nil s (i + 1) hp2, nameLen_stop _ (by have := HX.out; omega)]
            rfl)
          have h3 : x < 97 ∨ 122 < x := by omega
          clear hlet
          rcases h3 with ha | ha
          all_goals
            go_wp2_with fail
            go_big_quiet (fail)
            go_wp2_with fail
            go_ret
            exact ⟨by rw [HL.out]; rfl, below_dN hbw _⟩
    · have i1 : ¬ (i : Int) < (s.size : Int) := by omega
      have hN : nameB (bl s 0) = decide (1 ≤ k ∧ k ≤ 12) := by
        unfold nameB
        rw [HN.out, bl_nil s i hp]
        simp [nameLen]
      have HO := Lib.hid hN
      clear hN
      by_cases h1 : (0 : Int) < (k : Int)
      · by_cases h2 : (k : Int) < 13
        · go_wp2_with fail
          go_ret
          exact ⟨by rw [HO.out, decide_eq_true (by omega)]; try rfl, hbw⟩
        · go_wp2_with fail
          go_ret
          exact ⟨by rw [HO.out, decide_eq_false (by omega)]; try rfl, hbw⟩
      · go_wp2_with fail
        go_ret
        exact ⟨by rw [HO.out, decide_eq_false (by omega)]; try rfl, hbw⟩
end Go.Proofs.YtbgpniepgbmkaaaDoor
