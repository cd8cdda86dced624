/- What the small functions of sign, label and their references do: Cat, Good, Greek, greek, Name, Read. Conditions: a text's length. -/
import Derived.Test.YtbgpniepgbmkaaaDoorSignStep
import Derived.Lib.OthersKept
import Derived.BigCall
namespace Go.Proofs.YtbgpniepgbmkaaaDoor
open Go.RowKit

def lab (l c : Int) : Value := .agg #[.int .i64 l, .int .i64 c]

def goodL (l c : Int) : Bool := decide (0 ≤ l ∧ l ≤ 7 ∧ 0 ≤ c ∧ c < 65536)

theorem ofInt_toNat (a : Nat) (h : a < 18446744073709551616) : (BitVec.ofInt 64 (a : Int)).toNat = a := by
  rw [BitVec.ofInt_natCast, BitVec.toNat_ofNat]
  exact Nat.mod_eq_of_lt (by omega)
theorem or_plus (m n : Int) (h0 : 0 ≤ m) (h1 : m < 2 ^ n.toNat) (hn : n ≤ 15) : bits .or .i64 m (wrap64 (2 ^ n.toNat)) = m + 2 ^ n.toNat := by
  obtain ⟨a, rfl⟩ : ∃ a : Nat, m = a := ⟨m.toNat, by omega⟩
  obtain ⟨j, hj⟩ : ∃ j, j = n.toNat := ⟨_, rfl⟩
  rw [← hj] at h1 ⊢
  have hle : (2 : Nat) ^ j ≤ 2 ^ 15 := Nat.pow_le_pow_right (by decide) (by omega)
  obtain ⟨p, hp⟩ : ∃ p : Nat, p = 2 ^ j := ⟨_, rfl⟩
  have hpI : (2 : Int) ^ j = (p : Int) := by rw [hp]; simp
  rw [← hp] at hle
  rw [hpI] at h1 ⊢
  have hw : wrap64 (p : Int) = p := by unfold wrap64; omega
  rw [hw]
  have ha : a < p := by omega
  have hor : a ||| p = a + p := by
    have := Nat.two_pow_add_eq_or_of_lt (i := j) (b := a) (by rw [← hp]; exact ha) 1
    rw [Nat.mul_one, ← hp] at this
    rw [Nat.or_comm, ← this]
    omega
  show IntKind.i64.wrap ((BitVec.ofInt 64 (a : Int) ||| BitVec.ofInt 64 (p : Int)).toNat : Int) = _
  rw [BitVec.toNat_or, ofInt_toNat a (by omega), ofInt_toNat p (by omega), hor, wrap_small _ (by omega) (by omega)]
  omega
/-- The bit of a small number that is not negative. -/
theorem and_one (c : Nat) (h : c < 9223372036854775808) : bits .and .i64 (c : Int) 1 = (c : Int) % 2 := by
  have h2 : c &&& 1 = c % 2 := Nat.and_one_is_mod c
  show IntKind.i64.wrap ((BitVec.ofInt 64 (c : Int) &&& BitVec.ofInt 64 ((1 : Nat) : Int)).toNat : Int) = _
  rw [BitVec.toNat_and, ofInt_toNat c (by omega), ofInt_toNat 1 (by omega), h2, wrap_small _ (by omega) (by omega)]
  omega

set_option maxHeartbeats 1000000 in
theorem greek_calls (a b : Nat) (ha : a < 256) (hb : b < 256) (w : World) :
    Calls Tryd.prog 60 #[.int .u8 a, .int .u8 b] w fun e w' => e = .returned (.int .i64 (greek a b)) ∧ w' = w := by
  have H := Lib.hid (show greek a b = if a = 206 ∧ 177 ≤ b ∧ b ≤ 191 then (b : Int) - 177 else if a = 207 ∧ 128 ≤ b ∧ b ≤ 191 then (b : Int) - 128 + 15 else -1 from rfl)
  obtain ⟨x, hx⟩ : ∃ x : Int, x = (a : Int) := ⟨_, rfl⟩
  obtain ⟨y, hy⟩ : ∃ y : Int, y = (b : Int) := ⟨_, rfl⟩
  rw [← hx, ← hy]
  have hx0 : 0 ≤ x ∧ x < 256 := by omega
  have hy0 : 0 ≤ y ∧ y < 256 := by omega
  have HX := Lib.hid hx
  have HY := Lib.hid hy
  clear hx hy ha hb
  go_enter Tryd.func60, Tryd.ntmps60
  go_wp2
  all_goals go_ret
  all_goals refine ⟨?_, rfl⟩
  all_goals rw [H.out]
  all_goals have hx := HX.out
  all_goals have hy := HY.out
  all_goals congr 2
  all_goals repeat' split
  all_goals simp_all
  all_goals omega
end Go.Proofs.YtbgpniepgbmkaaaDoor
