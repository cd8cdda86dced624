/- What label.Good, the document's Good, and sign.Print do. Conditions: numbers are int64s. -/
import Derived.Test.YtbgpniepgbmkaaaDoorSign
import Derived.Test.YtbgpniepgbmkaaaDoorSb
import Derived.Test.YtbgpniepgbmkaaaDoorShelf
import Derived.Deep.CutBlock
import Derived.Deep.LoopGhost
namespace Go.Proofs.YtbgpniepgbmkaaaDoor
open Go.RowKit

set_option maxHeartbeats 1000000 in
theorem good_calls (l c : Int) (w : World) :
    Calls Tryd.prog 53 #[lab l c] w fun e w' => e = .returned (.bool (goodL l c)) ∧ Below w.heap.size w w' := by
  have H := Lib.hid (show goodL l c = decide (0 ≤ l ∧ l ≤ 7 ∧ 0 ≤ c ∧ c < 65536) from rfl)
  unfold lab
  go_enter Tryd.func53, Tryd.ntmps53
  by_cases a : 0 ≤ l
  · by_cases b : l ≤ 7
    · by_cases d : 0 ≤ c
      · by_cases e : c < 65536
        · go_wp2_with fail
          go_ret
          exact ⟨by rw [H.out, decide_eq_true ⟨a, b, d, e⟩]; rfl, (Below.refl _ _).alloc (Nat.le_refl _) _⟩
        · go_wp2_with fail
          go_ret
          exact ⟨by rw [H.out, decide_eq_false (by omega)]; rfl, (Below.refl _ _).alloc (Nat.le_refl _) _⟩
      · go_wp2_with fail
        go_ret
        exact ⟨by rw [H.out, decide_eq_false (by omega)]; rfl, (Below.refl _ _).alloc (Nat.le_refl _) _⟩
    · go_wp2_with fail
      go_ret
      exact ⟨by rw [H.out, decide_eq_false (by omega)]; rfl, (Below.refl _ _).alloc (Nat.le_refl _) _⟩
  · go_wp2_with fail
    go_ret
    exact ⟨by rw [H.out, decide_eq_false (by omega)]; rfl, (Below.refl _ _).alloc (Nat.le_refl _) _⟩

/-- Bit n of a number's 64. -/
def bitU (x : Int) (n : Nat) : Bool := decide (x % 18446744073709551616 / 2 ^ n % 2 = 1)
set_option maxHeartbeats 1000000 in
theorem bit_calls (x : Int) (n : Nat) (_x0 : -9223372036854775808 ≤ x) (_x1 : x ≤ 9223372036854775807) (hn : n < 64) (w : World) :
    Calls Tryd.prog 61 #[.int .i64 x, .int .i64 n] w fun e w' => e = .returned (.bool (bitU x n)) ∧ w' = w := by
  have H := Lib.hid (show bitU x n = decide (x % 18446744073709551616 / 2 ^ n % 2 = 1) from rfl)
  have hn0 : (0 : Int) ≤ (n : Int) := Int.natCast_nonneg _
  have hn1 : (n : Int) < 64 := by omega
  go_enter Tryd.func61, Tryd.ntmps61
  go_wp2
  go_ret
  refine ⟨?_, rfl⟩
  rw [H.out]
  show Ending.returned (Value.bool (bits BinOp.and IntKind.u64 (IntKind.u64.wrap x / 2 ^ n) 1 == 1)) = _
  rw [IntKind.wrap_u64]
  obtain ⟨N, hN⟩ : ∃ N : Nat, x % 18446744073709551616 = N := ⟨(x % 18446744073709551616).toNat, by omega⟩
  rw [hN]
  have hdiv : (N : Int) / 2 ^ n = ((N / 2 ^ n : Nat) : Int) := by simp
  have hlt : N / 2 ^ n ≤ N := Nat.div_le_self _ _
  rw [hdiv]
  have h1 := bits_and_u64_nat (N / 2 ^ n) 1 (by omega) (by omega)
  rw [show ((1 : Nat) : Int) = 1 from rfl] at h1
  rw [h1, Nat.and_one_is_mod]
  have h2 : (((N / 2 ^ n % 2 : Nat) : Int) == 1) = decide (((N / 2 ^ n : Nat) : Int) % 2 = 1) := by
    rw [show ((N / 2 ^ n : Nat) : Int) % 2 = ((N / 2 ^ n % 2 : Nat) : Int) by simp]
    rfl
  rw [h2]
theorem bits_small {c : Int} (x0 : -9223372036854775808 ≤ c) (x1 : c ≤ 9223372036854775807) : (∀ j : Nat, 16 ≤ j → j < 64 → bitU c j = false) ↔ 0 ≤ c ∧ c < 65536 := by
  obtain ⟨N, hN⟩ : ∃ N : Nat, c % 18446744073709551616 = N := ⟨(c % 18446744073709551616).toNat, by omega⟩
  have hlt : N < 2 ^ 64 := by omega
  have ht : ∀ j, bitU c j = N.testBit j := by
    intro j
    unfold bitU
    rw [hN, Nat.testBit_eq_decide_div_mod_eq]
    have : (N : Int) / 2 ^ j % 2 = ((N / 2 ^ j % 2 : Nat) : Int) := by simp
    rw [this]
    congr 1
    exact propext ⟨fun h => by omega, fun h => by omega⟩
  constructor
  · intro h
    have hs : N < 2 ^ 16 := by
      apply Nat.lt_pow_two_of_testBit
      intro i hi
      by_cases h6 : i < 64
      · rw [← ht]; exact h i hi h6
      · exact Nat.testBit_lt_two_pow (Nat.lt_of_lt_of_le hlt (Nat.pow_le_pow_right (by decide) (by omega)))
    omega
  · rintro ⟨h0, h1⟩ j hj _
    rw [ht]
    exact Nat.testBit_lt_two_pow (Nat.lt_of_lt_of_le (show N < 2 ^ 16 by omega) (Nat.pow_le_pow_right (by decide) hj))
set_option maxHeartbeats 2000000 in
theorem rgood_calls (l c : Int) (x0 : -9223372036854775808 ≤ c) (x1 : c ≤ 9223372036854775807) (w : World) :
    Calls Tryd.prog 38 #[lab l c] w fun e w' => e = .returned (.bool (goodL l c)) ∧ Below w.heap.size w w' := by
  have H := Lib.hid (show goodL l c = decide (0 ≤ l ∧ l ≤ 7 ∧ 0 ≤ c ∧ c < 65536) from rfl)
  have HB := Lib.hid (bits_small x0 x1)
  unfold lab
  go_enter Tryd.func38, Tryd.ntmps38
  go_wp2_with fail
  go_loopw [3] (fun v wr => ∃ n : Nat, v = .int .i64 n ∧ 16 ≤ n ∧ n ≤ 64 ∧ wr = w.alloc (.cells #[.int .i64 l, .int .i64 c] 49) ∧ ∀ j : Nat, 16 ≤ j → j < n → bitU c j = false) (fun v _ => 64 - (intOf v).toNat)
  case atStart => exact ⟨16, rfl, Nat.le_refl _, by omega, rfl, fun j h1 h2 => by omega⟩
  case round =>
    obtain ⟨n, rfl, h16, h64, rfl, hall⟩ := hrel
    have HA := Lib.hid hall
    clear hall
    by_cases hn : n < 64
    · have hn1 : (n : Int) < 64 := by omega
      have hn0 : (0 : Int) ≤ (n : Int) := Int.natCast_nonneg _
      have hbit := fun u : World => bit_calls c n x0 x1 hn u
      obtain ⟨t, ht⟩ : ∃ t, t = bitU c n := ⟨_, rfl⟩
      rw [← ht] at hbit
      have HT := Lib.hid ht
      clear ht
      cases t
      · go_wp2_with (go_at_call 61; refine (hbit _).mono ?_; rintro e w' ⟨rfl, rfl⟩)
        go_roundw
        case rel =>
          refine ⟨n + 1, by go_num, by omega, by omega, by first | rfl | trivial, fun j h1 h2 => ?_⟩
          by_cases hj : j = n
          · rw [hj]; exact HT.out.symm
          · exact HA.out j h1 (by omega)
        case measure => simp [intOf]; omega
      · go_wp2_with (go_at_call 61; refine (hbit _).mono ?_; rintro e w' ⟨rfl, rfl⟩)
        go_ret
        refine ⟨?_, (Below.refl _ _).alloc (Nat.le_refl _) _⟩
        rw [H.out, decide_eq_false (fun h => by
          have h3 := HB.out.2 ⟨h.2.2.1, h.2.2.2⟩ n h16 hn
          rw [← HT.out] at h3
          cases h3)]
        rfl
    · have hn1 : ¬ (n : Int) < 64 := by omega
      have hc : 0 ≤ c ∧ c < 65536 := HB.out.1 (fun j h1 h2 => HA.out j h1 (by omega))
      have HC := Lib.hid hc
      clear hc
      by_cases a : 0 ≤ l
      · by_cases b : l < 8
        · go_wp2_with fail
          go_ret
          exact ⟨by rw [H.out, decide_eq_true ⟨a, by omega, HC.out⟩]; rfl, (Below.refl _ _).alloc (Nat.le_refl _) _⟩
        · go_wp2_with fail
          go_ret
          exact ⟨by rw [H.out, decide_eq_false (by omega)]; rfl, (Below.refl _ _).alloc (Nat.le_refl _) _⟩
      · go_wp2_with fail
        go_ret
        exact ⟨by rw [H.out, decide_eq_false (by omega)]; rfl, (Below.refl _ _).alloc (Nat.le_refl _) _⟩

def toB (l : List Nat) : List UInt8 := l.map UInt8.ofNat
def u8s (l : List Nat) : List Value := l.map (fun n : Nat => Value.int .u8 (n : Int))
theorem byteCells_toB {l : List Nat} (h : ∀ x ∈ l, x < 256) : Lib.byteCells (toB l) = u8s l := by
  unfold Lib.byteCells toB u8s
  rw [List.map_map]
  apply List.map_congr_left
  intro x hx
  have := h x hx
  simp
  omega
def textS (l c : Int) : ByteArray := ⟨(toB (textL l c)).toArray⟩
def printV (l c : Int) : ByteArray × Int := if goodL l c then (textS l c, 0) else (⟨#[]⟩, 3)
theorem gk_rune (n : Nat) (h : n < 16) : u8s (gk n) = [.int .u8 (192 + (945 + (n : Int)) / 64), .int .u8 (128 + (945 + (n : Int)) % 64)] := by
  unfold gk u8s
  split
  · simp; omega
  · simp; omega
theorem gk_small (n : Nat) (h : n < 16) : ∀ x ∈ gk n, x < 256 := by
  unfold gk
  split <;> simp <;> omega
theorem gk_len (n : Nat) : (gk n).length = 2 := by unfold gk; split <;> rfl

end Go.Proofs.YtbgpniepgbmkaaaDoor
