/- Plain Lean: a label's text read rune by rune comes to what is read byte by byte. No program, no condition. -/
import Derived.Test.YtbgpniepgbmkaaaDoorSignPure
namespace Go.Proofs.YtbgpniepgbmkaaaDoor
open Go.RowKit

def catOf (r : Int) : Int := if r < 945 ∨ 961 ≤ r then -1 else r - 945

/-- Where a reader by runes stands. -/
def RSt (s : ByteArray) (pos k : Nat) (la : Int) (en : Bool) (lv m : Int) : Prop :=
  pos ≤ s.size ∧ k ≤ pos ∧ -1 ≤ la ∧ la ≤ 15 ∧ 0 ≤ m ∧ m < 2 ^ (la + 1).toNat ∧
  ((k = 0 ∧ pos = 0 ∧ la = -1 ∧ en = false ∧ lv = 0) ∨
   (k = 1 ∧ pos = 1 ∧ la = -1 ∧ en = false ∧ 48 ≤ bAt s 0 ∧ bAt s 0 ≤ 55 ∧ lv = (bAt s 0 : Int) - 48) ∨
   (2 ≤ k ∧ en = false ∧ parseL (bl s 0) = (catsM (bl s pos) la m).map (fun c => (lv, c))) ∨
   (2 ≤ k ∧ en = true ∧ parseL (bl s 0) = if pos < s.size then none else some (lv, m)))

theorem rst_start (s : ByteArray) : RSt s 0 0 (-1) false 0 0 := ⟨Nat.zero_le _, Nat.le_refl _, by omega, by omega, by omega, by decide, .inl ⟨rfl, rfl, rfl, rfl, rfl⟩⟩

theorem parse_two (s : ByteArray) (h0 : 0 < s.size) (h1 : 1 < s.size) : parseL (bl s 0) = if 48 ≤ bAt s 0 ∧ bAt s 0 ≤ 55 ∧ bAt s 1 = 123 then (catsM (bl s 2) (-1) 0).map fun m => ((bAt s 0 : Int) - 48, m) else none := by
  rw [bl_cons s 0 h0, bl_cons s 1 h1]
  rfl
theorem parse_short (s : ByteArray) (h1 : ¬ 1 < s.size) : parseL (bl s 0) = none := by
  by_cases h0 : 0 < s.size
  · rw [bl_cons s 0 h0, bl_nil s 1 h1]
    rfl
  · rw [bl_nil s 0 h0]
    rfl

section
variable {s : ByteArray} {pos k r wd : Nat} {la : Int} {en : Bool} {lv m : Int}
theorem low_of (hp : pos < s.size) (hd : Utf8.decode s pos = (r, wd)) (h : r < 128) : bAt s pos = r ∧ wd = 1 := by
  rcases dec_cases s pos hp with ⟨h1, h2⟩ | ⟨h1, h2, h3, h4, h5⟩ | ⟨h1, h2, h3, h4, h5⟩
  · rw [hd] at h2
    injection h2 with h2 h2'
    exact ⟨h2.symm, h2'⟩
  · rw [hd] at h4; simp only at h4; omega
  · rw [hd] at h3; simp only at h3; omega
theorem rst_wd (hp : pos < s.size) (hd : Utf8.decode s pos = (r, wd)) : 1 ≤ wd := by
  rcases dec_cases s pos hp with ⟨h1, h2⟩ | ⟨h1, h2, h3, h4, h5⟩ | ⟨h1, h2, h3, h4, h5⟩
  · rw [hd] at h2
    injection h2 with h2 h2'
    omega
  · rw [hd] at h5; simp only at h5; omega
  · rw [hd] at h5; simp only at h5; omega
theorem rst_level (h : RSt s pos k la en lv m) (hp : pos < s.size) (hd : Utf8.decode s pos = (r, wd)) (hk : k = 0) (h0 : 48 ≤ r) (h1 : r ≤ 55) : RSt s (pos + wd) (k + 1) la en ((r : Int) - 48) m := by
  obtain ⟨a1, a2, a3, a4, a5, a6, a7⟩ := h
  obtain ⟨b1, b2⟩ := low_of hp hd (by omega)
  subst hk b2
  rcases a7 with ⟨c1, c2, c3, c4, c5⟩ | ⟨c1, _⟩ | ⟨c1, _⟩ | ⟨c1, _⟩
  · subst c2 c3 c4
    refine ⟨by omega, by omega, by omega, by omega, a5, a6, .inr (.inl ⟨rfl, rfl, rfl, rfl, by omega, by omega, by omega⟩)⟩
  · omega
  · omega
  · omega
theorem rst_open (h : RSt s pos k la en lv m) (hp : pos < s.size) (hd : Utf8.decode s pos = (r, wd)) (hk : k = 1) (h0 : r = 123) : RSt s (pos + wd) (k + 1) la en lv m := by
  obtain ⟨a1, a2, a3, a4, a5, a6, a7⟩ := h
  obtain ⟨b1, b2⟩ := low_of hp hd (by omega)
  subst hk b2
  rcases a7 with ⟨c1, _⟩ | ⟨c1, c2, c3, c4, c5, c6, c7⟩ | ⟨c1, _⟩ | ⟨c1, _⟩
  · omega
  · subst c2 c3 c4
    have hm : m = 0 := by simp at a6; omega
    subst hm
    refine ⟨by omega, by omega, by omega, by omega, a5, a6, .inr (.inr (.inl ⟨by omega, rfl, ?_⟩))⟩
    rw [parse_two s (by omega) hp, if_pos ⟨c5, c6, by omega⟩, c7]
  · omega
  · omega
theorem rst_close (h : RSt s pos k la en lv m) (hp : pos < s.size) (hd : Utf8.decode s pos = (r, wd)) (hk : 2 ≤ k) (hen : en = false) (h0 : r = 125) : RSt s (pos + wd) (k + 1) la true lv m := by
  obtain ⟨a1, a2, a3, a4, a5, a6, a7⟩ := h
  obtain ⟨b1, b2⟩ := low_of hp hd (by omega)
  subst b2
  rcases a7 with ⟨c1, _⟩ | ⟨c1, _⟩ | ⟨c1, c2, c3⟩ | ⟨c1, c2, _⟩
  · omega
  · omega
  · refine ⟨by omega, by omega, a3, a4, a5, a6, .inr (.inr (.inr ⟨by omega, rfl, ?_⟩))⟩
    rw [c3, bl_cons s pos hp, b1, h0]
    by_cases hp2 : pos + 1 < s.size
    · rw [if_pos hp2, catsM_brace_more _ (by rw [bl_cons s (pos + 1) hp2]; simp) _ _ a3]
      rfl
    · rw [if_neg hp2, bl_nil s (pos + 1) hp2, catsM_brace]
      rfl
  · rw [hen] at c2; cases c2
theorem rst_sign (h : RSt s pos k la en lv m) (hp : pos < s.size) (hd : Utf8.decode s pos = (r, wd)) (hk : 2 ≤ k) (hen : en = false) (h0 : la < catOf r) : RSt s (pos + wd) (k + 1) (catOf r) en lv (m + 2 ^ (catOf r).toNat) := by
  obtain ⟨a1, a2, a3, a4, a5, a6, a7⟩ := h
  have hr : 945 ≤ r ∧ r ≤ 960 := by unfold catOf at h0; split at h0 <;> omega
  have hcat : catOf r = (r : Int) - 945 := by unfold catOf; rw [if_neg (by omega)]
  have hg : pos + 1 < s.size ∧ greek (bAt s pos) (bAt s (pos + 1)) = catOf r ∧ wd = 2 := by
    rcases dec_cases s pos hp with ⟨h1, h2⟩ | ⟨h1, h2, h3, h4, h5⟩ | ⟨h1, h2, h3, h4, h5⟩
    · rw [hd] at h2
      injection h2 with h2 h2'
      omega
    · rw [hd] at h4 h5; simp only at h4 h5; exact ⟨h2, by omega, h5⟩
    · rw [hd] at h4; simp only at h4; omega
  obtain ⟨g1, g2, g3⟩ := hg
  subst g3
  rcases a7 with ⟨c1, _⟩ | ⟨c1, _⟩ | ⟨c1, c2, c3⟩ | ⟨c1, c2, _⟩
  · omega
  · omega
  · have e1 : (catOf r + 1).toNat = (catOf r).toNat + 1 := by omega
    have hpow : (2 : Int) ^ (la + 1).toNat ≤ 2 ^ (catOf r).toNat := by
      have : (2 : Nat) ^ (la + 1).toNat ≤ 2 ^ (catOf r).toNat := Nat.pow_le_pow_right (by decide) (by omega)
      exact_mod_cast this
    have hpp := pow_pos' (catOf r).toNat
    refine ⟨by omega, by omega, by omega, by omega, by omega, by rw [e1, pow_succ']; omega, .inr (.inr (.inl ⟨by omega, c2, ?_⟩))⟩
    rw [c3, bl_cons s pos hp, bl_cons s (pos + 1) g1, catsM_two, g2, if_pos ⟨h0, by omega⟩]
  · rw [hen] at c2; cases c2
theorem rst_bad (h : RSt s pos k la en lv m) (hp : pos < s.size) (hd : Utf8.decode s pos = (r, wd)) (h0 : k = 0 → r < 48 ∨ 55 < r) (h1 : k = 1 → r ≠ 123) (h2 : 2 ≤ k → en = true ∨ (r ≠ 125 ∧ ¬ la < catOf r)) : parseL (bl s 0) = none := by
  obtain ⟨a1, a2, a3, a4, a5, a6, a7⟩ := h
  have hb : bAt s pos = r ∨ (128 ≤ bAt s pos ∧ 128 ≤ r) := by
    rcases dec_cases s pos hp with ⟨b1, b2⟩ | ⟨b1, b2, b3, b4, b5⟩ | ⟨b1, b2, b3, b4, b5⟩
    · rw [hd] at b2
      injection b2 with b2 b2'
      exact .inl b2.symm
    · rw [hd] at b4; simp only at b4; exact .inr ⟨b1, by omega⟩
    · rw [hd] at b3; simp only at b3; exact .inr ⟨b1, b3⟩
  rcases a7 with ⟨c1, c2, c3, c4, c5⟩ | ⟨c1, c2, c3, c4, c5, c6, c7⟩ | ⟨c1, c2, c3⟩ | ⟨c1, c2, c3⟩
  · subst c2
    have := h0 c1
    by_cases hs : 1 < s.size
    · rw [parse_two s hp hs, if_neg (by omega)]
    · exact parse_short s hs
  · subst c2
    have := h1 c1
    rw [parse_two s (by omega) hp, if_neg (by omega)]
  · rw [c3, bl_cons s pos hp]
    have h3 : r ≠ 125 ∧ ¬ la < catOf r := by
      rcases h2 c1 with h | h
      · rw [c2] at h; cases h
      · exact h
    have hz : catsM (bAt s pos :: bl s (pos + 1)) la m = none := by
      by_cases hs : pos + 1 < s.size
      · rw [bl_cons s (pos + 1) hs, catsM_two]
        apply if_neg
        rcases dec_cases s pos hp with ⟨b1, b2⟩ | ⟨b1, b2, b3, b4, b5⟩ | ⟨b1, b2, b3, b4, b5⟩
        · unfold greek
          rw [if_neg (by omega), if_neg (by omega)]
          omega
        · rw [hd] at b4
          simp only at b4
          intro ⟨i1, i2⟩
          have : catOf r = greek (bAt s pos) (bAt s (pos + 1)) := by unfold catOf; rw [if_neg (by omega)]; omega
          omega
        · rw [b2 hs]
          omega
      · rw [bl_nil s (pos + 1) hs]
        exact catsM_one _ (by omega) _ _
    rw [hz]
    rfl
  · rw [c3, if_pos hp]
theorem rst_end (h : RSt s pos k la en lv m) (hp : ¬ pos < s.size) : parseL (bl s 0) = if en then some (lv, m) else none := by
  obtain ⟨a1, a2, a3, a4, a5, a6, a7⟩ := h
  rcases a7 with ⟨c1, c2, c3, c4, c5⟩ | ⟨c1, c2, c3, c4, c5, c6, c7⟩ | ⟨c1, c2, c3⟩ | ⟨c1, c2, c3⟩
  · rw [c4, parse_short s (by omega)]
    rfl
  · rw [c4, parse_short s (by omega)]
    rfl
  · rw [c3, c2, bl_nil s pos hp]
    simp [catsM_nil]
  · rw [c3, c2, if_neg hp]
    rfl
/-- The bits before the one to set: 'or' is 'plus'. -/
theorem rst_or (h : RSt s pos k la en lv m) (h0 : la < catOf r) : m < 2 ^ (catOf r).toNat ∧ 0 ≤ m := by
  obtain ⟨a1, a2, a3, a4, a5, a6, a7⟩ := h
  have hpow : (2 : Int) ^ (la + 1).toNat ≤ 2 ^ (catOf r).toNat := by
    have : (2 : Nat) ^ (la + 1).toNat ≤ 2 ^ (catOf r).toNat := Nat.pow_le_pow_right (by decide) (by omega)
    exact_mod_cast this
  exact ⟨by omega, a5⟩
end
end Go.Proofs.YtbgpniepgbmkaaaDoor
