/- The laws of layer 6 without the document's answer, walked: each returns true, and leaves all memory that was there as it was. No condition but that the numbers fit their kinds. -/
import Derived.Test.YtbmkioaomjnggaaArenaAwake
namespace Go.Proofs.Ytbmkioaomjnggaa
open Go.RowKit

theorem Ar.new_none {n : Int} (h : n ≤ 0) : Ar.new n = ⟨[], -1⟩ := by
  unfold Ar.new
  rw [show (max 0 (min n 16)).toNat = 0 by omega]
  rfl
theorem Ar.place_none (h : Int) : (⟨[], -1⟩ : Ar).place h = -1 := by
  unfold Ar.place
  repeat' split
  all_goals first | rfl | (simp at *; omega)

set_option maxHeartbeats 4000000 in
theorem arenaNone_walk (w : World) (h : Int) (h0 : -9223372036854775808 ≤ h) (h1 : h ≤ 9223372036854775807) (m : Int) (m0 : -9223372036854775808 ≤ m) (m1 : m ≤ 9223372036854775807) :
    Calls Try.prog 6 #[.int .i64 h, .int .i64 m] w fun e w' => e = .returned (.bool true) ∧ Below w.heap.size w w' := by
  have key : ∀ n : Int, n ≤ 0 → -9223372036854775808 ≤ n → ∀ W, Calls Try.prog 13 #[.int .i64 n] W fun e w' => ∃ g F, e = .returned (.pointer (some ⟨g, 0, none⟩)) ∧ IsArena w' g ⟨[], -1⟩ F ∧ (∀ k, F k → W.heap.size ≤ k) ∧ Below W.heap.size W w' := by
    intro n hn hn0 W
    have := anew_calls n W hn0 (by omega)
    rw [Ar.new_none hn] at this
    exact this
  have hk := Lib.hid (show ∀ W, Calls Try.prog 13 #[.int .i64 (if 0 < m then 0 else m)] W fun e w' => ∃ g F, e = .returned (.pointer (some ⟨g, 0, none⟩)) ∧ IsArena w' g ⟨[], -1⟩ F ∧ (∀ k, F k → W.heap.size ≤ k) ∧ Below W.heap.size W w' from fun W => key _ (by split <;> omega) (by split <;> omega) W)
  clear key
  by_cases hm : 0 < m
  all_goals
    first | rw [if_pos hm] at hk | rw [if_neg hm] at hk
    go_enter Try.func6, Try.ntmps6
    go_wp2_with fail
    refine (take_nil w).mono ?_
    rintro e w1 ⟨rfl, rfl⟩
    go_wp2_with fail
    refine (free_nil h w).mono ?_
    rintro e w1 ⟨rfl, rfl⟩
    go_wp2_with fail
    refine (is_nil h w).mono ?_
    rintro e w1 ⟨rfl, rfl⟩
    go_wp2_with fail
    refine (place_nil h w).mono ?_
    rintro e w1 ⟨rfl, rfl⟩
    go_wp2_with fail
    refine (live_nil w).mono ?_
    rintro e w1 ⟨rfl, rfl⟩
    go_wp2_with fail
    refine (hk.out _).mono ?_
    rintro e w1 ⟨g, F, rfl, hA, hF, hb⟩
    have hx1 := Ext.of_below (F := F) hb
    go_wp2_with fail
    refine (take_calls hA).mono ?_
    rw [show (⟨[], -1⟩ : Ar).take = (0, false, ⟨[], -1⟩) from rfl]
    rintro e w2 ⟨rfl, hA, hx⟩
    have hx1 := hx1.then hx
    go_wp2_with fail
    refine (awake6_calls w2).mono ?_
    rintro e w3 ⟨rfl, hb3⟩
    have hA := hA.frame (fun k hk => hb3.block k (hA.lt k hk))
    have hx1 := hx1.then (Ext.of_below hb3)
    go_wp2_with fail
    refine (free_calls hA h h1).mono ?_
    rw [show (⟨[], -1⟩ : Ar).giveBack h = (false, ⟨[], -1⟩) by simp [Ar.giveBack, Ar.place_none]]
    rintro e w4 ⟨rfl, hA, hx⟩
    have hx1 := hx1.then hx
    go_wp2_with fail
    refine (live_calls hA).mono ?_
    rw [show (⟨[], -1⟩ : Ar).live = [] from rfl]
    rintro e w5 ⟨v, rfl, hr, hv, hb5⟩
    obtain ⟨_, a, cap, rfl, _, _, _⟩ := hr
    have hx1 := hx1.then (Ext.of_below hb5)
    go_wp2
    go_ret
    exact ⟨rfl, hx1.below (fun k hk h => by have := hF k h; omega)⟩

/-- An arena of n places whose first p are worn out, and place p given k times. -/
def worn (n p k : Nat) : Ar :=
  ⟨(List.range n).map (fun i => ⟨if i < p then 255 else if i = p then ((k : Nat) : Int) else 0, if i + 1 < n then ((i + 1 : Nat) : Int) else -1, false⟩), if p < n then (p : Int) else -1⟩
theorem worn_at {n p k : Nat} (hp : p < n) : (worn n p k).at (p : Int) = ⟨k, if p + 1 < n then ((p + 1 : Nat) : Int) else -1, false⟩ := by
  simp [Ar.at, worn, hp]
theorem worn_new (n : Nat) (h0 : 1 ≤ n) (h1 : n ≤ 16) : worn n 0 0 = Ar.new n := by
  unfold Ar.new worn
  rw [show (max 0 (min (n : Int) 16)).toNat = n by omega]
  simp only [Nat.not_lt_zero, if_false, Ar.mk.injEq]
  refine ⟨?_, ?_⟩
  · apply List.map_congr_left
    intro i hi
    by_cases h : i = 0
    · rw [if_pos h]; rfl
    · rw [if_neg h]
  · rw [if_pos (by omega), if_neg (by omega)]; rfl
theorem worn_next {n p : Nat} (h : p < n) : worn n p 256 = worn n p 256 := rfl
/-- Taken and given back. -/
theorem worn_take {n p k : Nat} (hp : p < n) (hn : n ≤ 16) (hk : k ≤ 255) :
    (worn n p k).take.1 = 1 + (p : Int) + 16 * (k : Int) ∧ (worn n p k).take.2.1 = true ∧
    ((worn n p k).take.2.2).giveBack (1 + (p : Int) + 16 * (k : Int)) = (true, if k < 255 then worn n p (k + 1) else worn n (p + 1) 0) := by
  have hf : (worn n p k).free = p := by simp [worn, hp]
  have hne : ¬ ((worn n p k).free = -1) := by rw [hf]; omega
  have hl : (worn n p k).list.length = n := by simp [worn]
  have ht : (worn n p k).take = (1 + (p : Int) + 16 * (k : Int), true, (⟨(worn n p k).list.set p ⟨k, if p + 1 < n then ((p + 1 : Nat) : Int) else -1, true⟩, if p + 1 < n then ((p + 1 : Nat) : Int) else -1⟩ : Ar)) := by
    rw [Ar.take, if_neg hne, hf, worn_at hp]
    simp only [Ar.handle, worn_at hp, Int.toNat_natCast]
  rw [ht]
  refine ⟨rfl, rfl, ?_⟩
  generalize hA : (⟨(worn n p k).list.set p ⟨k, if p + 1 < n then ((p + 1 : Nat) : Int) else -1, true⟩, if p + 1 < n then ((p + 1 : Nat) : Int) else -1⟩ : Ar) = A
  have hat : A.at (p : Int) = ⟨k, if p + 1 < n then ((p + 1 : Nat) : Int) else -1, true⟩ := by
    rw [← hA]
    simp [Ar.at, List.getD, hl, hp]
  have hpl : A.place (1 + (p : Int) + 16 * (k : Int)) = p := by
    have e : (1 + (p : Int) + 16 * k - 1) % 16 = p := by omega
    rw [Ar.place, if_neg (by omega), e, if_neg (by rw [← hA]; simp [hl]; omega), hat, if_neg (by simp), Ar.handle, hat, if_pos rfl]
  rw [Ar.giveBack, hpl, if_neg (by omega), Ar.back, hat]
  simp only [Int.toNat_natCast]
  have hset : ∀ x, A.list.set p x = (worn n p k).list.set p x := by intro x; rw [← hA]; simp
  by_cases h : k < 255
  · rw [if_pos (show ((k : Int)) < 255 by omega), if_pos h, hset]
    refine Prod.ext rfl ?_
    show Ar.mk _ _ = _
    unfold worn
    simp only [Ar.mk.injEq, hp, if_true, and_true]
    rw [← hA]
    apply List.ext_getElem (by simp)
    intro i h1 h2
    simp only [List.length_set, List.length_map, List.length_range] at h1
    rw [List.getElem_set]
    by_cases hi : p = i
    · subst hi; simp
    · rw [if_neg hi]; simp [Ne.symm hi]
  · rw [if_neg (show ¬ ((k : Int)) < 255 by omega), if_neg h, hset]
    obtain rfl : k = 255 := by omega
    refine Prod.ext rfl ?_
    show Ar.mk _ _ = _
    unfold worn
    simp only [Ar.mk.injEq]
    refine ⟨?_, by rw [← hA]⟩
    apply List.ext_getElem (by simp)
    intro i h1 h2
    simp only [List.length_set, List.length_map, List.length_range] at h1
    rw [List.getElem_set]
    by_cases hi : p = i
    · subst hi; simp
    · rw [if_neg hi]
      simp only [List.getElem_map, List.getElem_range]
      by_cases h3 : i < p
      · have h4 : i < p + 1 := by omega
        simp [h3, h4]
      · have h4 : ¬ i < p + 1 := by omega
        have h5 : ¬ i = p := fun e => hi e.symm
        simp [h3, h4, h5]

theorem worn_live (n k : Nat) : (worn n n k).live = [] := by
  unfold Ar.live worn
  rw [List.map_eq_nil_iff, List.filter_eq_nil_iff]
  intro x hx
  obtain ⟨hx1, hx2⟩ := List.mem_zipIdx hx |>.2
  simp at hx2
  rw [hx2]
  simp
theorem worn_none (n k : Nat) : (worn n n k).take = (0, false, worn n n k) := by
  rw [Ar.take, if_pos (by simp [worn])]

set_option maxHeartbeats 4000000 in
set_option maxRecDepth 100000 in
theorem arenaWorn_walk (w : World) (m : Int) (m0 : 0 ≤ m) (m1 : m ≤ 255) :
    Calls Try.prog 5 #[.int .u8 m] w fun e w' => e = .returned (.bool true) ∧ Below w.heap.size w w' := by
  obtain ⟨n, hn⟩ : ∃ n : Nat, (n : Int) = 1 + m % 16 := ⟨(1 + m % 16).toNat, by omega⟩
  have hn1 : 1 ≤ n := by omega
  have hn16 : n ≤ 16 := by omega
  have HN := Lib.hid hn
  have e1 : 1 + m % 16 = (n : Int) := hn.symm
  clear hn
  go_enter Try.func5, Try.ntmps5
  go_wp2_with fail
  refine (anew_calls n _ (by omega) (by omega)).mono ?_
  rw [← worn_new n hn1 hn16]
  rintro e w1 ⟨g, F, rfl, hA, hF, hb⟩
  have hx1 := Ext.of_below (F := F) hb
  go_wp2_with fail
  go_loopw [5] (fun i wr => ∃ p : Nat, p ≤ n ∧ i = .int .i64 p ∧ IsArena wr g (worn n p 0) F ∧ Ext w wr F) (fun i _ => n - (intOf i).toNat)
  case atStart => exact ⟨0, Nat.zero_le _, by go_num, hA, hx1⟩
  case round =>
    clear hA hx1 hb
    obtain ⟨p, hp, rfl, hA, hx1⟩ := hrel
    by_cases hpn : p < n
    · go_wp2_with fail
      go_loopw [6] (fun j wr => ∃ k : Nat, k ≤ 256 ∧ j = .int .i64 k ∧ IsArena wr g (if k < 256 then worn n p k else worn n (p + 1) 0) F ∧ Ext w wr F) (fun j _ => 256 - (intOf j).toNat)
      case atStart => exact ⟨0, by omega, by go_num, by rw [if_pos (by omega)]; exact hA, hx1⟩
      case round =>
        clear hA hx1
        obtain ⟨k, hk, rfl, hA, hx1⟩ := hrel
        by_cases hk1 : k < 256
        · rw [if_pos hk1] at hA
          obtain ⟨t1, t2, t3⟩ := worn_take (k := k) hpn hn16 (by omega)
          have T1 := Lib.hid t1
          have T2 := Lib.hid t2
          have T3 := Lib.hid t3
          clear t1 t2 t3
          go_wp2_with fail
          refine (take_calls hA).mono ?_
          rw [T1.out, T2.out]
          rintro e w2 ⟨rfl, hA2, hx⟩
          have hx2 := hx1.then hx
          go_wp2_with fail
          refine (free_calls hA2 _ (by omega)).mono ?_
          rw [T3.out]
          rintro e w3 ⟨rfl, hA3, hx3⟩
          have hx4 := hx2.then hx3
          clear hx1 hx2 hx hx3 hA hA2
          go_wp2
          go_roundw
          case rel =>
            refine ⟨k + 1, by omega, by go_num, ?_, hx4⟩
            by_cases h2 : k < 255
            · rw [if_pos (by omega)]
              simp only [h2, if_true] at hA3
              exact hA3
            · rw [if_neg (by omega)]
              simp only [h2, if_false] at hA3
              exact hA3
          case measure => simp [intOf]; omega
        · obtain rfl : k = 256 := by omega
          rw [if_neg (by omega)] at hA
          go_wp2
          go_roundw
          case rel => exact ⟨p + 1, by omega, by go_num, hA, hx1⟩
          case measure => simp [intOf]; omega
    · obtain rfl : p = n := by omega
      go_wp2_with fail
      refine (take_calls hA).mono ?_
      rw [worn_none]
      rintro e w2 ⟨rfl, hA, hx⟩
      have hx1 := hx1.then hx
      go_wp2_with fail
      refine (awake6_calls w2).mono ?_
      rintro e w3 ⟨rfl, hb3⟩
      have hA := hA.frame (fun k hk => hb3.block k (hA.lt k hk))
      have hx1 := hx1.then (Ext.of_below hb3)
      go_wp2_with fail
      refine (live_calls hA).mono ?_
      rw [worn_live]
      rintro e w5 ⟨v, rfl, hr, hv, hb5⟩
      obtain ⟨_, a, cap, rfl, _, _, _⟩ := hr
      have hx1 := hx1.then (Ext.of_below hb5)
      go_wp2
      go_ret
      exact ⟨rfl, hx1.below (fun k hk h => by have := hF k h; omega)⟩
end Go.Proofs.Ytbmkioaomjnggaa
