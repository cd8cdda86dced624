/- The words of a text, byte by byte (lexM), in two goes as the document has them: first what may not be, then the words. Plain Lean, no program. No condition.
   The words of a text (lexM) in two goes: first what may not be, then the words, line by line. Plain Lean, no program. No condition.
   The words of one line of a text, as the document reckons them. Plain Lean, no program. No condition.
   How many bytes the rune has that a text begins with (parcloseref03.Wide). Condition: the text is not too long.
   The first sign of a text that may not be (parcloseref03.Bad). Condition: the text is not too long. -/
import Derived.Test.YtbgpniepgbmkaaaDoorLin
import Derived.Lib.DecodeN
namespace Go.Proofs.YtbgpniepgbmkaaaDoor

/-- How many bytes the rune has that begins with these; 0: none begins. -/
def wideN (n b0 b1 b2 b3 : Nat) : Nat :=
  if n = 0 then 0 else if b0 < 128 then 1
  else if 194 ≤ b0 ∧ b0 ≤ 223 then (if 1 < n ∧ 128 ≤ b1 ∧ b1 ≤ 191 then 2 else 0)
  else if 224 ≤ b0 ∧ b0 ≤ 239 then (if 2 < n ∧ ((b0 = 224 → 160 ≤ b1) ∧ 128 ≤ b1 ∧ b1 ≤ 191 ∧ (b0 = 237 → b1 ≤ 159)) ∧ 128 ≤ b2 ∧ b2 ≤ 191 then 3 else 0)
  else if 240 ≤ b0 ∧ b0 ≤ 244 then (if 3 < n ∧ ((b0 = 240 → 144 ≤ b1) ∧ 128 ≤ b1 ∧ b1 ≤ 191 ∧ (b0 = 244 → b1 ≤ 143)) ∧ (128 ≤ b2 ∧ b2 ≤ 191) ∧ 128 ≤ b3 ∧ b3 ≤ 191 then 4 else 0)
  else 0
set_option maxHeartbeats 4000000 in
theorem wide_dec {n b0 b1 b2 b3 : Nat} (hn : 0 < n) (h0 : b0 < 256) (h1 : b1 < 256) (h2 : b2 < 256) (h3 : b3 < 256) :
    (wideN n b0 b1 b2 b3 = 0 ∧ Lib.decodeN n b0 b1 b2 b3 = (65533, 1) ∧ 128 ≤ b0) ∨
    (1 ≤ wideN n b0 b1 b2 b3 ∧ wideN n b0 b1 b2 b3 = (Lib.decodeN n b0 b1 b2 b3).2 ∧ (b0 < 128 → (Lib.decodeN n b0 b1 b2 b3).1 = b0) ∧ (128 ≤ b0 → 128 ≤ (Lib.decodeN n b0 b1 b2 b3).1) ∧ ((Lib.decodeN n b0 b1 b2 b3).1 = 65533 → b0 = 239 ∧ b1 = 191 ∧ b2 = 189 ∧ 2 < n)) := by
  by_cases c1 : b0 < 128
  · right
    have e1 : wideN n b0 b1 b2 b3 = 1 := by unfold wideN; rw [if_neg (by omega), if_pos c1]
    have e2 : Lib.decodeN n b0 b1 b2 b3 = (b0, 1) := by unfold Lib.decodeN; rw [if_pos c1]
    rw [e1, e2]
    exact ⟨Nat.le_refl _, rfl, fun _ => rfl, fun h => by omega, fun h => by simp only at h; omega⟩
  · by_cases c2 : b0 / 32 = 6
    · by_cases d : 1 < n ∧ b1 / 64 = 2
      · by_cases f : b0 % 32 * 64 + b1 % 64 ≥ 128
        · right
          have e1 : wideN n b0 b1 b2 b3 = 2 := by unfold wideN; rw [if_neg (by omega), if_neg c1, if_pos (by omega), if_pos (by omega)]
          have e2 : Lib.decodeN n b0 b1 b2 b3 = (b0 % 32 * 64 + b1 % 64, 2) := by unfold Lib.decodeN; rw [if_neg c1, if_pos ⟨c2, d⟩, if_pos f]
          rw [e1, e2]
          exact ⟨by omega, rfl, fun h => by omega, fun h => by simp only; omega, fun h => by simp only at h; omega⟩
        · left
          have e1 : wideN n b0 b1 b2 b3 = 0 := by unfold wideN; rw [if_neg (by omega), if_neg c1, if_neg (by omega), if_neg (by omega), if_neg (by omega)]
          have e2 : Lib.decodeN n b0 b1 b2 b3 = (65533, 1) := by unfold Lib.decodeN; rw [if_neg c1, if_pos ⟨c2, d⟩, if_neg f]
          exact ⟨e1, e2, by omega⟩
      · left
        have e1 : wideN n b0 b1 b2 b3 = 0 := by
          unfold wideN
          rw [if_neg (by omega), if_neg c1]
          by_cases g : 194 ≤ b0 ∧ b0 ≤ 223
          · rw [if_pos g, if_neg (by omega)]
          · rw [if_neg g, if_neg (by omega), if_neg (by omega)]
        have e2 : Lib.decodeN n b0 b1 b2 b3 = (65533, 1) := by unfold Lib.decodeN; rw [if_neg c1, if_neg (fun h => d h.2), if_neg (by omega), if_neg (by omega)]
        exact ⟨e1, e2, by omega⟩
    · by_cases c3 : b0 / 16 = 14
      · by_cases d : (1 < n ∧ b1 / 64 = 2) ∧ (2 < n ∧ b2 / 64 = 2)
        · by_cases f : b0 % 16 * 4096 + b1 % 64 * 64 + b2 % 64 ≥ 2048 ∧ (b0 % 16 * 4096 + b1 % 64 * 64 + b2 % 64 < 55296 ∨ (57344 ≤ b0 % 16 * 4096 + b1 % 64 * 64 + b2 % 64 ∧ b0 % 16 * 4096 + b1 % 64 * 64 + b2 % 64 ≤ 1114111))
          · right
            have e1 : wideN n b0 b1 b2 b3 = 3 := by unfold wideN; rw [if_neg (by omega), if_neg c1, if_neg (by omega), if_pos (by omega), if_pos (by omega)]
            have e2 : Lib.decodeN n b0 b1 b2 b3 = (b0 % 16 * 4096 + b1 % 64 * 64 + b2 % 64, 3) := by unfold Lib.decodeN; rw [if_neg c1, if_neg (by omega), if_pos ⟨c3, d⟩, if_pos f]
            rw [e1, e2]
            exact ⟨by omega, rfl, fun h => by omega, fun h => by simp only; omega, fun h => by simp only at h; omega⟩
          · left
            have e1 : wideN n b0 b1 b2 b3 = 0 := by unfold wideN; rw [if_neg (by omega), if_neg c1, if_neg (by omega), if_pos (by omega), if_neg (by omega)]
            have e2 : Lib.decodeN n b0 b1 b2 b3 = (65533, 1) := by unfold Lib.decodeN; rw [if_neg c1, if_neg (by omega), if_pos ⟨c3, d⟩, if_neg f]
            exact ⟨e1, e2, by omega⟩
        · left
          have e1 : wideN n b0 b1 b2 b3 = 0 := by unfold wideN; rw [if_neg (by omega), if_neg c1, if_neg (by omega), if_pos (by omega), if_neg (by omega)]
          have e2 : Lib.decodeN n b0 b1 b2 b3 = (65533, 1) := by unfold Lib.decodeN; rw [if_neg c1, if_neg (by omega), if_neg (fun h => d h.2), if_neg (by omega)]
          exact ⟨e1, e2, by omega⟩
      · by_cases c4 : b0 / 8 = 30
        · by_cases d : (1 < n ∧ b1 / 64 = 2) ∧ (2 < n ∧ b2 / 64 = 2) ∧ (3 < n ∧ b3 / 64 = 2)
          · by_cases f : b0 % 8 * 262144 + b1 % 64 * 4096 + b2 % 64 * 64 + b3 % 64 ≥ 65536 ∧ (b0 % 8 * 262144 + b1 % 64 * 4096 + b2 % 64 * 64 + b3 % 64 < 55296 ∨ (57344 ≤ b0 % 8 * 262144 + b1 % 64 * 4096 + b2 % 64 * 64 + b3 % 64 ∧ b0 % 8 * 262144 + b1 % 64 * 4096 + b2 % 64 * 64 + b3 % 64 ≤ 1114111))
            · right
              have e1 : wideN n b0 b1 b2 b3 = 4 := by unfold wideN; rw [if_neg (by omega), if_neg c1, if_neg (by omega), if_neg (by omega), if_pos (by omega), if_pos (by omega)]
              have e2 : Lib.decodeN n b0 b1 b2 b3 = (b0 % 8 * 262144 + b1 % 64 * 4096 + b2 % 64 * 64 + b3 % 64, 4) := by unfold Lib.decodeN; rw [if_neg c1, if_neg (by omega), if_neg (by omega), if_pos ⟨c4, d⟩, if_pos f]
              rw [e1, e2]
              exact ⟨by omega, rfl, fun h => by omega, fun h => by simp only; omega, fun h => by simp only at h; omega⟩
            · left
              have e1 : wideN n b0 b1 b2 b3 = 0 := by
                unfold wideN
                rw [if_neg (by omega), if_neg c1, if_neg (by omega), if_neg (by omega)]
                by_cases g : 240 ≤ b0 ∧ b0 ≤ 244
                · rw [if_pos g, if_neg (by omega)]
                · rw [if_neg g]
              have e2 : Lib.decodeN n b0 b1 b2 b3 = (65533, 1) := by unfold Lib.decodeN; rw [if_neg c1, if_neg (by omega), if_neg (by omega), if_pos ⟨c4, d⟩, if_neg f]
              exact ⟨e1, e2, by omega⟩
          · left
            have e1 : wideN n b0 b1 b2 b3 = 0 := by
              unfold wideN
              rw [if_neg (by omega), if_neg c1, if_neg (by omega), if_neg (by omega)]
              by_cases g : 240 ≤ b0 ∧ b0 ≤ 244
              · rw [if_pos g, if_neg (by omega)]
              · rw [if_neg g]
            have e2 : Lib.decodeN n b0 b1 b2 b3 = (65533, 1) := by unfold Lib.decodeN; rw [if_neg c1, if_neg (by omega), if_neg (by omega), if_neg (fun h => d h.2)]
            exact ⟨e1, e2, by omega⟩
        · left
          have e1 : wideN n b0 b1 b2 b3 = 0 := by unfold wideN; rw [if_neg (by omega), if_neg c1, if_neg (by omega), if_neg (by omega), if_neg (by omega)]
          have e2 : Lib.decodeN n b0 b1 b2 b3 = (65533, 1) := by unfold Lib.decodeN; rw [if_neg c1, if_neg (by omega), if_neg (by omega), if_neg (by omega)]
          exact ⟨e1, e2, by omega⟩
def wideM (s : ByteArray) (pos : Nat) : Nat := wideN (s.size - pos) (bAt s pos) (bAt s (pos + 1)) (bAt s (pos + 2)) (bAt s (pos + 3))
theorem wide_at (s : ByteArray) (pos : Nat) (hp : pos < s.size) :
    (wideM s pos = 0 ∧ Utf8.decode s pos = (65533, 1) ∧ 128 ≤ bAt s pos) ∨
    (1 ≤ wideM s pos ∧ wideM s pos = (Utf8.decode s pos).2 ∧ (bAt s pos < 128 → (Utf8.decode s pos).1 = bAt s pos) ∧ (128 ≤ bAt s pos → 128 ≤ (Utf8.decode s pos).1) ∧ ((Utf8.decode s pos).1 = 65533 → bAt s pos = 239 ∧ bAt s (pos + 1) = 191 ∧ bAt s (pos + 2) = 189 ∧ 2 < s.size - pos)) := by
  rw [Lib.decode_at]
  exact wide_dec (by omega) (bAt_lt _ _) (bAt_lt _ _) (bAt_lt _ _) (bAt_lt _ _)
/-- The bytes behind the first of a rune are no bytes below 128, and lie in the text. -/
theorem wide_inner {s : ByteArray} {pos j : Nat} (h1 : 1 ≤ j) (hj : j < wideM s pos) : pos + j < s.size ∧ 128 ≤ bAt s (pos + j) := by
  have key : ∀ n b0 b1 b2 b3 : Nat, j < wideN n b0 b1 b2 b3 → j < n ∧ (j = 1 → 128 ≤ b1) ∧ (j = 2 → 128 ≤ b2) ∧ (j = 3 → 128 ≤ b3) ∧ j < 4 := by
    intro n b0 b1 b2 b3 h
    unfold wideN at h
    split at h
    · omega
    · split at h
      · omega
      · split at h
        · split at h <;> omega
        · split at h
          · split at h <;> omega
          · split at h
            · split at h <;> omega
            · omega
  obtain ⟨a, b, c, d, e⟩ := key _ _ _ _ _ hj
  refine ⟨by omega, ?_⟩
  match j, h1, e, b, c, d with
  | 1, _, _, b, _, _ => exact b rfl
  | 2, _, _, _, c, _ => exact c rfl
  | 3, _, _, _, _, d => exact d rfl
theorem wide_le {s : ByteArray} {pos : Nat} (hp : pos < s.size) : pos + wideM s pos ≤ s.size := by
  by_cases h : wideM s pos ≤ 1
  · omega
  · have := (wide_inner (s := s) (pos := pos) (j := wideM s pos - 1) (by omega) (by omega)).1
    omega
/-- May the sign at a place not be? -/
def badAt (s : ByteArray) (pos : Nat) : Bool := decide (wideM s pos = 0) || ((decide (bAt s pos ≠ 10) && decide (bAt s pos < 32)) || decide (bAt s pos = 127))
theorem u8_is (a : UInt8) (n : Nat) (hn : n < 256) : ((UInt8.ofNat n) == a) = decide (a.toNat = n) := by
  rw [Bool.eq_iff_iff, beq_iff_eq, decide_eq_true_iff]
  constructor
  · rintro rfl
    simp
    omega
  · intro h
    apply UInt8.toNat_inj.1
    rw [h]
    simp
    omega
theorem fffd_prefix (s : ByteArray) (pos : Nat) (hp : pos < s.size) : Lib.hasPrefix (s.extract pos s.size).data.toList fffd.data.toList = decide (bAt s pos = 239 ∧ bAt s (pos + 1) = 191 ∧ bAt s (pos + 2) = 189 ∧ 2 < s.size - pos) := by
  have hl := rs_len s pos
  have e : (s.extract pos s.size).data.toList = rs s pos := by
    rw [ByteArray.data_extract, Array.toList_extract, List.extract_eq_take_drop]
    show (rs s pos).take (s.size - pos) = _
    rw [List.take_of_length_le (by omega)]
  rw [e]
  show List.isPrefixOf [UInt8.ofNat 239, UInt8.ofNat 191, UInt8.ofNat 189] (rs s pos) = _
  rcases hr : rs s pos with _ | ⟨a, _ | ⟨b, _ | ⟨c, r⟩⟩⟩
  · rw [hr] at hl; simp at hl; omega
  · rw [hr] at hl
    simp only [List.length_cons, List.length_nil] at hl
    rw [decide_eq_false (by omega)]
    simp [List.isPrefixOf]
  · rw [hr] at hl
    simp only [List.length_cons, List.length_nil] at hl
    rw [decide_eq_false (by omega)]
    simp [List.isPrefixOf]
  · rw [hr] at hl
    simp only [List.length_cons] at hl
    obtain ⟨_, h1, hr1⟩ := rs_cons hr
    obtain ⟨_, h2, hr2⟩ := rs_cons hr1
    obtain ⟨_, h3, _⟩ := rs_cons hr2
    rw [Nat.add_assoc] at h3
    rw [h1, h2, h3]
    simp only [List.isPrefixOf, Bool.and_true]
    rw [u8_is a 239 (by omega), u8_is b 191 (by omega), u8_is c 189 (by omega), ← Bool.decide_and, ← Bool.decide_and]
    exact decide_eq_decide.2 ⟨fun h => ⟨h.1, h.2.1, h.2.2, by omega⟩, fun h => ⟨h.1, h.2.1, h.2.2.1⟩⟩
theorem bad_at {s : ByteArray} {pos : Nat} (hp : pos < s.size) (h10 : bAt s pos ≠ 10) : badR ((Utf8.decode s pos).1 : Int) (s.extract pos s.size) = badAt s pos := by
  unfold badR badAt
  rw [fffd_prefix s pos hp]
  rcases wide_at s pos hp with ⟨h1, h2, h3⟩ | ⟨h1, h2, h3, h4, h5⟩
  · rw [h1, h2]
    have hn : ¬ (bAt s pos = 239 ∧ bAt s (pos + 1) = 191 ∧ bAt s (pos + 2) = 189 ∧ 2 < s.size - pos) := by
      rintro ⟨e1, e2, e3, e4⟩
      have : wideM s pos = 3 := by
        unfold wideM wideN
        rw [if_neg (by omega), if_neg (by omega), if_neg (by omega), if_pos (by omega), if_pos (by omega)]
      omega
    rw [decide_eq_false hn]
    simp
  · rw [decide_eq_false (show ¬ wideM s pos = 0 by omega), Bool.false_or]
    by_cases c : bAt s pos < 128
    · have e := h3 c
      rw [e]
      have hx : ((bAt s pos : Int) == 65533) = false := by simpa using (by omega : (bAt s pos : Int) ≠ 65533)
      rw [hx, Bool.false_and, Bool.or_false, decide_eq_true h10, Bool.true_and]
      congr 1
      · exact decide_eq_decide.2 ⟨fun h => by omega, fun h => by omega⟩
      · by_cases h127 : bAt s pos = 127
        · rw [h127]; rfl
        · rw [decide_eq_false h127]
          simpa using (by omega : (bAt s pos : Int) ≠ 127)
    · have e := h4 (by omega)
      rw [decide_eq_false (show ¬ ((Utf8.decode s pos).1 : Int) < 32 by omega), show (((Utf8.decode s pos).1 : Int) == 127) = false by simpa using (by omega : ((Utf8.decode s pos).1 : Int) ≠ 127), decide_eq_false (show ¬ bAt s pos < 32 by omega), decide_eq_false (show ¬ bAt s pos = 127 by omega)]
      by_cases hx : (Utf8.decode s pos).1 = 65533
      · rw [decide_eq_true (h5 hx)]
        simp
      · rw [show (((Utf8.decode s pos).1 : Int) == 65533) = false by simpa using (by omega : ((Utf8.decode s pos).1 : Int) ≠ 65533)]
        simp
end Go.Proofs.YtbgpniepgbmkaaaDoor

namespace Go.Proofs.YtbgpniepgbmkaaaDoor

/-- The first sign that may not be: its line and column; 0: there is none. -/
def badRun (s : ByteArray) : Nat → Nat → Int → Int → Int × Int
  | 0, _, _, _ => (0, 0)
  | f + 1, pos, ln, co => if pos < s.size then
      (if badAt s pos = true then (ln, co + 1) else if bAt s pos = 10 then badRun s f (pos + wideM s pos) (ln + 1) 0 else badRun s f (pos + wideM s pos) ln (co + 1))
    else (0, 0)
/-- The words alone, of a text in which all may be. -/
def tokRun (s : ByteArray) : Nat → Nat → LS → List Wd
  | 0, _, st => endL st.L s st.ln st.fr st.ca s.size
  | f + 1, pos, st => if pos < s.size then
      (if bAt s pos = 10 then tokRun s f (pos + wideM s pos) ⟨endL st.L s st.ln st.fr st.ca pos, st.ln + 1, 0, -1, st.ca, false⟩
      else tokRun s f (pos + wideM s pos) ⟨nxL st.L s st.ln st.fr st.ca pos st.re (bAt s pos), st.ln, st.co + 1, nxF st.fr pos st.re (bAt s pos), nxC st.fr (st.co + 1) st.ca st.re (bAt s pos), st.re || (bAt s pos : Int) == 35⟩)
    else endL st.L s st.ln st.fr st.ca s.size
theorem badRun_end {s : ByteArray} {f pos : Nat} {ln co : Int} (h : ¬ pos < s.size) : badRun s f pos ln co = (0, 0) := by
  cases f with
  | zero => rfl
  | succ f => rw [badRun, if_neg h]
theorem tokRun_end {s : ByteArray} {f pos : Nat} {st : LS} (h : ¬ pos < s.size) : tokRun s f pos st = endL st.L s st.ln st.fr st.ca s.size := by
  cases f with
  | zero => rfl
  | succ f => rw [tokRun, if_neg h]
theorem cut_eq (re : Bool) {s : ByteArray} {pos : Nat} (hp : pos < s.size) (hb : badAt s pos = false) : cutB re ((Utf8.decode s pos).1 : Int) = cutB re (bAt s pos) ∧ (((Utf8.decode s pos).1 : Int) == 35) = ((bAt s pos : Int) == 35) ∧ (((Utf8.decode s pos).1 : Int) = 10 ↔ bAt s pos = 10) ∧ (Utf8.decode s pos).2 = wideM s pos := by
  unfold badAt at hb
  simp only [Bool.or_eq_false_iff, decide_eq_false_iff_not] at hb
  rcases wide_at s pos hp with ⟨h1, _⟩ | ⟨h1, h2, h3, h4, _⟩
  · exact absurd h1 hb.1
  · by_cases c : bAt s pos < 128
    · rw [h3 c]
      exact ⟨rfl, rfl, by omega, h2.symm⟩
    · have e := h4 (by omega)
      have x1 : (((Utf8.decode s pos).1 : Int) == 35) = false := by simpa using (by omega : ((Utf8.decode s pos).1 : Int) ≠ 35)
      have x2 : (((Utf8.decode s pos).1 : Int) == 32) = false := by simpa using (by omega : ((Utf8.decode s pos).1 : Int) ≠ 32)
      have x3 : ((bAt s pos : Int) == 35) = false := by simpa using (by omega : (bAt s pos : Int) ≠ 35)
      have x4 : ((bAt s pos : Int) == 32) = false := by simpa using (by omega : (bAt s pos : Int) ≠ 32)
      refine ⟨?_, by rw [x1, x3], by omega, h2.symm⟩
      unfold cutB
      rw [x1, x2, x3, x4]
theorem nx_eq {st : LS} {s : ByteArray} {pos : Nat} (hp : pos < s.size) (hb : badAt s pos = false) :
    nxL st.L s st.ln st.fr st.ca pos st.re ((Utf8.decode s pos).1 : Int) = nxL st.L s st.ln st.fr st.ca pos st.re (bAt s pos) ∧ nxF st.fr pos st.re ((Utf8.decode s pos).1 : Int) = nxF st.fr pos st.re (bAt s pos) ∧ nxC st.fr (st.co + 1) st.ca st.re ((Utf8.decode s pos).1 : Int) = nxC st.fr (st.co + 1) st.ca st.re (bAt s pos) := by
  obtain ⟨h, _⟩ := cut_eq st.re hp hb
  unfold nxL nxF nxC
  rw [h]
  exact ⟨rfl, rfl, rfl⟩
/-- IN TWO GOES. -/
theorem lex_two (s : ByteArray) : ∀ (f pos : Nat) (st : LS), 1 ≤ st.ln → lexRun s f pos st = (if (badRun s f pos st.ln st.co).1 = 0 then (tokRun s f pos st, 0, 0, 0) else ([], 2, (badRun s f pos st.ln st.co).1, (badRun s f pos st.ln st.co).2))
  | 0, pos, st, _ => rfl
  | f + 1, pos, st, h => by
    by_cases hp : pos < s.size
    · rw [lexRun, badRun, tokRun, if_pos hp, if_pos hp, if_pos hp]
      by_cases h10 : ((Utf8.decode s pos).1 : Int) = 10
      · have hb10 : bAt s pos = 10 ∧ wideM s pos = (Utf8.decode s pos).2 := by
          rcases wide_at s pos hp with ⟨_, h2, _⟩ | ⟨h1, h2, h3, h4, _⟩
          · rw [h2] at h10; simp at h10
          · by_cases c : bAt s pos < 128
            · have := h3 c; exact ⟨by omega, h2⟩
            · have := h4 (by omega); omega
        have hb : badAt s pos = false := by
          unfold badAt
          have : 1 ≤ wideM s pos := by
            unfold wideM wideN
            rw [if_neg (by omega), if_pos (by omega)]
            exact Nat.le_refl _
          rw [decide_eq_false (by omega), hb10.1]
          rfl
        rw [if_pos h10, show (if badAt s pos = true then (st.ln, st.co + 1) else if bAt s pos = 10 then badRun s f (pos + wideM s pos) (st.ln + 1) 0 else badRun s f (pos + wideM s pos) st.ln (st.co + 1)) = badRun s f (pos + wideM s pos) (st.ln + 1) 0 by rw [if_neg (by rw [hb]; simp), if_pos hb10.1], if_pos hb10.1, hb10.2]
        exact lex_two s f _ ⟨endL st.L s st.ln st.fr st.ca pos, st.ln + 1, 0, -1, st.ca, false⟩ (by simp only; omega)
      · have hn10 : bAt s pos ≠ 10 := by
          intro e
          rcases wide_at s pos hp with ⟨_, _, h3⟩ | ⟨_, _, h3, _, _⟩
          · omega
          · have := h3 (by omega); omega
        rw [if_neg h10, bad_at hp hn10]
        by_cases hb : badAt s pos = true
        · rw [if_pos hb, if_pos hb, if_neg (show ¬ (st.ln, st.co + 1).1 = 0 by simp only; omega)]
        · have hb : badAt s pos = false := by simpa using hb
          obtain ⟨e1, e2, e3, e4⟩ := cut_eq st.re hp hb
          obtain ⟨n1, n2, n3⟩ := nx_eq (st := st) hp hb
          rw [if_neg (show ¬ badAt s pos = true by rw [hb]; simp), show (if badAt s pos = true then (st.ln, st.co + 1) else if bAt s pos = 10 then badRun s f (pos + wideM s pos) (st.ln + 1) 0 else badRun s f (pos + wideM s pos) st.ln (st.co + 1)) = badRun s f (pos + wideM s pos) st.ln (st.co + 1) by rw [if_neg (by rw [hb]; simp), if_neg hn10], if_neg hn10, n1, n2, n3, e2, e4]
          exact lex_two s f _ ⟨nxL st.L s st.ln st.fr st.ca pos st.re (bAt s pos), st.ln, st.co + 1, nxF st.fr pos st.re (bAt s pos), nxC st.fr (st.co + 1) st.ca st.re (bAt s pos), st.re || (bAt s pos : Int) == 35⟩ h
    · rw [lexRun_end hp, badRun_end hp, tokRun_end hp]
      rfl
end Go.Proofs.YtbgpniepgbmkaaaDoor

namespace Go.Proofs.YtbgpniepgbmkaaaDoor

/-- No sign that may not be from a place on. -/
def goodRun (s : ByteArray) : Nat → Nat → Prop
  | 0, _ => True
  | f + 1, pos => pos < s.size → badAt s pos = false ∧ goodRun s f (pos + wideM s pos)
theorem good_of (s : ByteArray) : ∀ (f pos : Nat) (ln co : Int), 1 ≤ ln → (badRun s f pos ln co).1 = 0 → goodRun s f pos
  | 0, _, _, _, _, _ => trivial
  | f + 1, pos, ln, co, hl, h => by
    intro hp
    rw [badRun, if_pos hp] at h
    split at h
    · simp only at h; omega
    · next hb =>
      refine ⟨by simpa using hb, ?_⟩
      split at h
      · exact good_of s f _ _ _ (by omega) h
      · exact good_of s f _ _ _ hl h
theorem bad_zero (s : ByteArray) : ∀ (f pos : Nat) (ln co : Int), 1 ≤ ln → (badRun s f pos ln co).1 = 0 → badRun s f pos ln co = (0, 0)
  | 0, _, _, _, _, _ => rfl
  | f + 1, pos, ln, co, hl, h => by
    rw [badRun] at h ⊢
    split
    · next hp =>
      rw [if_pos hp] at h
      split
      · next hb => rw [if_pos hb] at h; simp only at h; omega
      · next hb =>
        rw [if_neg hb] at h
        split
        · next h10 => rw [if_pos h10] at h; exact bad_zero s f _ _ _ (by omega) h
        · next h10 => rw [if_neg h10] at h; exact bad_zero s f _ _ _ hl h
    · rfl
theorem wide_pos {s : ByteArray} {pos : Nat} (h : badAt s pos = false) : 1 ≤ wideM s pos := by
  unfold badAt at h
  simp only [Bool.or_eq_false_iff, decide_eq_false_iff_not] at h
  omega
/-- Where a line's remark begins. -/
def hashAt (t : ByteArray) : Nat := t.data.toList.findIdx (fun x => x == 35)
theorem hash_le (t : ByteArray) : hashAt t ≤ t.size := by
  unfold hashAt
  have := List.findIdx_le_length (xs := t.data.toList) (p := fun x => x == 35)
  rw [Array.length_toList] at this
  exact this
theorem bAt_list {t : ByteArray} {p : Nat} (hp : p < t.size) : ∃ x : UInt8, t.data.toList[p]? = some x ∧ bAt t p = x.toNat := by
  refine ⟨t[p]'hp, ?_, bAt_eq t p hp⟩
  rw [Array.getElem?_toList, Array.getElem?_eq_getElem hp]
  rfl
theorem hash_before {t : ByteArray} {p : Nat} (hp : p < hashAt t) : bAt t p ≠ 35 := by
  have hl := hash_le t
  obtain ⟨x, hx, hb⟩ := bAt_list (t := t) (p := p) (by omega)
  rw [hb]
  intro e
  have hpl : p < t.data.toList.length := by rw [Array.length_toList]; show p < t.size; omega
  unfold hashAt at hp
  have h1 := List.not_of_lt_findIdx hp
  have h2 : t.data.toList[p]'hpl = x := by
    have := List.getElem?_eq_some_iff.1 hx
    exact this.2
  rw [h2] at h1
  have : x = 35 := by
    apply UInt8.toNat_inj.1
    rw [e]
    rfl
  rw [this] at h1
  simp at h1
theorem hash_there {t : ByteArray} (h : hashAt t < t.size) : bAt t (hashAt t) = 35 := by
  obtain ⟨x, hx, hb⟩ := bAt_list h
  rw [hb]
  have h0 : hashAt t < t.data.toList.length := by rw [Array.length_toList]; exact h
  have h1 := List.findIdx_getElem (xs := t.data.toList) (p := fun x => x == 35) (w := h0)
  have h2 : t.data.toList[hashAt t]'h0 = x := (List.getElem?_eq_some_iff.1 hx).2
  have h3 : (x == 35) = true := by rw [← h2]; exact h1
  have : x = 35 := by simpa using h3
  rw [this]
  rfl
/-- The words of a line without its remark. -/
def oneRun (u : ByteArray) : Nat → Nat → LS → List Wd
  | 0, _, st => endL st.L u st.ln st.fr st.ca u.size
  | f + 1, pos, st => if pos < u.size then
      (if bAt u pos = 32 then oneRun u f (pos + wideM u pos) ⟨endL st.L u st.ln st.fr st.ca pos, st.ln, st.co + 1, -1, st.ca, false⟩
      else oneRun u f (pos + wideM u pos) ⟨st.L, st.ln, st.co + 1, if st.fr < 0 then (pos : Int) else st.fr, if st.fr < 0 then st.co + 1 else st.ca, false⟩)
    else endL st.L u st.ln st.fr st.ca u.size
theorem oneRun_end {u : ByteArray} {f pos : Nat} {st : LS} (h : ¬ pos < u.size) : oneRun u f pos st = endL st.L u st.ln st.fr st.ca u.size := by
  cases f with
  | zero => rfl
  | succ f => rw [oneRun, if_neg h]
def oneM (t : ByteArray) (ln : Int) : List Wd := oneRun (t.extract 0 (hashAt t)) (hashAt t) 0 ⟨[], ln, 0, -1, 0, false⟩
theorem bAt_extract {s : ByteArray} {a b p : Nat} (hb : b ≤ s.size) (hp : p < b - a) : bAt (s.extract a b) p = bAt s (a + p) := by
  have h1 : p < (s.extract a b).size := by rw [ByteArray.size_extract]; omega
  rw [bAt_eq _ p h1, bAt_eq s (a + p) (by omega)]
  congr 1
  exact ByteArray.getElem_extract h1
theorem extract_two {s : ByteArray} {a b q p : Nat} (hb : b ≤ s.size) (hp : a + p ≤ b) : (s.extract a b).extract q p = s.extract (a + q) (a + p) := by
  apply ByteArray.ext
  apply Array.toList_inj.1
  simp only [ByteArray.data_extract, Array.toList_extract, List.extract_eq_take_drop]
  rw [List.drop_take, List.drop_drop, List.take_take]
  congr 1
  omega
theorem wideN_same {n n' b0 b1 b2 b3 c1 c2 c3 : Nat} (h1 : 1 ≤ wideN n b0 b1 b2 b3) (hn : wideN n b0 b1 b2 b3 ≤ n') (e1 : 1 < wideN n b0 b1 b2 b3 → c1 = b1) (e2 : 2 < wideN n b0 b1 b2 b3 → c2 = b2) (e3 : 3 < wideN n b0 b1 b2 b3 → c3 = b3) : wideN n' b0 c1 c2 c3 = wideN n b0 b1 b2 b3 := by
  unfold wideN at *
  by_cases z : n = 0
  · rw [if_pos z] at h1; omega
  · rw [if_neg z] at h1 hn e1 e2 e3 ⊢
    by_cases a : b0 < 128
    · rw [if_pos a] at h1 hn e1 e2 e3 ⊢
      rw [if_neg (by omega), if_pos a]
    · rw [if_neg a] at h1 hn e1 e2 e3 ⊢
      by_cases b : 194 ≤ b0 ∧ b0 ≤ 223
      · rw [if_pos b] at h1 hn e1 e2 e3 ⊢
        split at h1
        · next c =>
          rw [if_pos c] at hn e1 e2 e3 ⊢
          have := e1 (by omega)
          subst this
          rw [if_neg (by omega), if_neg a, if_pos b, if_pos (by omega)]
        · omega
      · rw [if_neg b] at h1 hn e1 e2 e3 ⊢
        by_cases c : 224 ≤ b0 ∧ b0 ≤ 239
        · rw [if_pos c] at h1 hn e1 e2 e3 ⊢
          split at h1
          · next d =>
            rw [if_pos d] at hn e1 e2 e3 ⊢
            have := e1 (by omega)
            have := e2 (by omega)
            subst c1 c2
            rw [if_neg (by omega), if_neg a, if_neg b, if_pos c, if_pos ⟨by omega, d.2⟩]
          · omega
        · rw [if_neg c] at h1 hn e1 e2 e3 ⊢
          by_cases d : 240 ≤ b0 ∧ b0 ≤ 244
          · rw [if_pos d] at h1 hn e1 e2 e3 ⊢
            split at h1
            · next e =>
              rw [if_pos e] at hn e1 e2 e3 ⊢
              have := e1 (by omega)
              have := e2 (by omega)
              have := e3 (by omega)
              subst c1 c2 c3
              rw [if_neg (by omega), if_neg a, if_neg b, if_neg c, if_pos d, if_pos ⟨by omega, e.2⟩]
            · omega
          · rw [if_neg d] at h1; omega
theorem wide_same {s : ByteArray} {a b p : Nat} (hb : b ≤ s.size) (h1 : 1 ≤ wideM s (a + p)) (h2 : a + p + wideM s (a + p) ≤ b) : wideM (s.extract a b) p = wideM s (a + p) := by
  have hsz : (s.extract a b).size = b - a := by rw [ByteArray.size_extract]; omega
  unfold wideM at *
  rw [hsz, bAt_extract hb (show p < b - a by omega)]
  exact wideN_same h1 (by omega) (fun h => by rw [bAt_extract hb (by omega)]; rfl) (fun h => by rw [bAt_extract hb (by omega)]; rfl) (fun h => by rw [bAt_extract hb (by omega)]; rfl)
/-- A place of the text against the same of the line. -/
structure SimL (fr : Nat) (L : List Wd) (st st' : LS) : Prop where
  l : st.L = L ++ st'.L
  ln : st.ln = st'.ln
  co : st.co = st'.co
  f : (st.fr = -1 ∧ st'.fr = -1) ∨ ∃ q : Nat, st'.fr = q ∧ st.fr = (fr + q : Nat) ∧ st.ca = st'.ca
  r : st.re = false
  r' : st'.re = false
theorem SimL.endL {s : ByteArray} {a h p : Nat} {L : List Wd} {st st' : LS} (hs : SimL a L st st') (hb : a + h ≤ s.size) (hp : p ≤ h) : endL st.L s st.ln st.fr st.ca (a + p) = L ++ Go.Proofs.YtbgpniepgbmkaaaDoor.endL st'.L (s.extract a (a + h)) st'.ln st'.fr st'.ca p := by
  obtain ⟨h1, h2, _, h4, _, _⟩ := hs
  unfold Go.Proofs.YtbgpniepgbmkaaaDoor.endL
  rcases h4 with ⟨e1, e2⟩ | ⟨q, e1, e2, e3⟩
  · rw [e1, e2, if_neg (by omega), if_neg (by omega), h1]
  · rw [e1, e2, if_pos (by omega), if_pos (by omega), h1, Int.toNat_natCast, Int.toNat_natCast, extract_two hb (by omega), h2, e3, List.append_assoc]
/-- THE LINE WITHOUT ITS REMARK. -/
theorem sim_one (s : ByteArray) (a h : Nat) (L : List Wd) (hb : a + h ≤ s.size) (hno : ∀ p, p < h → bAt s (a + p) ≠ 10 ∧ bAt s (a + p) ≠ 35) (hend : a + h = s.size ∨ bAt s (a + h) < 128) :
    ∀ (f F p : Nat) (st st' : LS), p ≤ h → h - p ≤ f → s.size - (a + p) ≤ F → SimL a L st st' → goodRun s F (a + p) →
      goodRun (s.extract a (a + h)) f p ∧ ∃ F2 st2, s.size - (a + h) ≤ F2 ∧ goodRun s F2 (a + h) ∧ tokRun s F (a + p) st = tokRun s F2 (a + h) st2 ∧ st2.re = false ∧ st2.ln = st.ln ∧ endL st2.L s st2.ln st2.fr st2.ca (a + h) = L ++ oneRun (s.extract a (a + h)) f p st' := by
  intro f
  have hsz : (s.extract a (a + h)).size = h := by rw [ByteArray.size_extract]; omega
  induction f with
  | zero =>
    intro F p st st' hp hf hF hs hg
    have : p = h := by omega
    subst this
    refine ⟨trivial, F, st, hF, hg, rfl, hs.r, rfl, ?_⟩
    rw [hs.endL hb (Nat.le_refl _), oneRun, hsz]
  | succ f ih =>
    intro F p st st' hp hf hF hs hg
    by_cases hph : p < h
    · obtain ⟨F, rfl⟩ : ∃ F', F = F' + 1 := ⟨F - 1, by omega⟩
      have hpos : a + p < s.size := by omega
      obtain ⟨hbad, hg2⟩ := hg hpos
      have hw := wide_pos hbad
      have hwe : a + p + wideM s (a + p) ≤ a + h := by
        refine Nat.le_of_not_lt fun hlt => ?_
        have hin := wide_inner (s := s) (pos := a + p) (j := h - p) (by omega) (by omega)
        rw [show a + p + (h - p) = a + h by omega] at hin
        omega
      have hws := wide_same (a := a) (b := a + h) hb hw hwe
      have hbs : bAt (s.extract a (a + h)) p = bAt s (a + p) := bAt_extract hb (by omega)
      obtain ⟨n10, n35⟩ := hno p hph
      have hbu : badAt (s.extract a (a + h)) p = false := by
        unfold badAt at hbad ⊢
        rw [hws, hbs]
        exact hbad
      have hr : ((bAt s (a + p) : Int) == 35) = false := by simpa using (by omega : (bAt s (a + p) : Int) ≠ 35)
      by_cases h32 : bAt s (a + p) = 32
      · have hcut : cutB st.re (bAt s (a + p)) = true := by unfold cutB; rw [h32]; simp
        have hs2 : SimL a L ⟨nxL st.L s st.ln st.fr st.ca (a + p : Nat) st.re (bAt s (a + p)), st.ln, st.co + 1, nxF st.fr (a + p : Nat) st.re (bAt s (a + p)), nxC st.fr (st.co + 1) st.ca st.re (bAt s (a + p)), st.re || (bAt s (a + p) : Int) == 35⟩ ⟨endL st'.L (s.extract a (a + h)) st'.ln st'.fr st'.ca p, st'.ln, st'.co + 1, -1, st'.ca, false⟩ := by
          refine ⟨?_, hs.ln, by simp only; rw [hs.co], .inl ⟨by simp only [nxF, hcut, if_true], rfl⟩, by simp only; rw [hs.r, hr]; rfl, rfl⟩
          simp only [nxL, hcut, if_true]
          exact hs.endL hb (by omega)
        obtain ⟨i1, F2, st2, i2, i3, i4, i5, i6, i7⟩ := ih F (p + wideM s (a + p)) _ _ (by omega) (by omega) (by omega) hs2 (by rw [← Nat.add_assoc]; exact hg2)
        refine ⟨fun _ => ⟨hbu, by rw [hws]; exact i1⟩, F2, st2, i2, i3, ?_, i5, i6, ?_⟩
        · rw [tokRun, if_pos hpos, if_neg n10, Nat.add_assoc]
          exact i4
        · rw [i7, oneRun, if_pos (by rw [hsz]; exact hph), hbs, if_pos h32, hws]
      · have hcut : cutB st.re (bAt s (a + p)) = false := by
          unfold cutB
          rw [hs.r, hr, show ((bAt s (a + p) : Int) == 32) = false by simpa using (by omega : (bAt s (a + p) : Int) ≠ 32)]
          rfl
        have hs2 : SimL a L ⟨nxL st.L s st.ln st.fr st.ca (a + p : Nat) st.re (bAt s (a + p)), st.ln, st.co + 1, nxF st.fr (a + p : Nat) st.re (bAt s (a + p)), nxC st.fr (st.co + 1) st.ca st.re (bAt s (a + p)), st.re || (bAt s (a + p) : Int) == 35⟩ ⟨st'.L, st'.ln, st'.co + 1, if st'.fr < 0 then (p : Int) else st'.fr, if st'.fr < 0 then st'.co + 1 else st'.ca, false⟩ := by
          refine ⟨?_, hs.ln, by simp only; rw [hs.co], ?_, by simp only; rw [hs.r, hr]; rfl, rfl⟩
          · simp only [nxL, hcut]
            exact hs.l
          · simp only [nxF, nxC, hcut]
            rcases hs.f with ⟨e1, e2⟩ | ⟨q, e1, e2, e3⟩
            · right
              refine ⟨p, ?_, ?_, ?_⟩
              · rw [e2]; rfl
              · rw [e1]; rfl
              · rw [e1, e2, hs.co]; rfl
            · right
              refine ⟨q, ?_, ?_, ?_⟩
              · rw [if_neg (by omega)]; exact e1
              · simp only [Bool.false_eq_true, if_false]; rw [if_neg (by omega)]; exact e2
              · simp only [Bool.false_eq_true, if_false]; rw [if_neg (by omega), if_neg (by omega)]; exact e3
        obtain ⟨i1, F2, st2, i2, i3, i4, i5, i6, i7⟩ := ih F (p + wideM s (a + p)) _ _ (by omega) (by omega) (by omega) hs2 (by rw [← Nat.add_assoc]; exact hg2)
        refine ⟨fun _ => ⟨hbu, by rw [hws]; exact i1⟩, F2, st2, i2, i3, ?_, i5, i6, ?_⟩
        · rw [tokRun, if_pos hpos, if_neg n10, Nat.add_assoc]
          exact i4
        · rw [i7, oneRun, if_pos (show p < (s.extract a (a + h)).size by rw [hsz]; exact hph), hbs, if_neg h32, hws]
    · have : p = h := by omega
      subst this
      refine ⟨fun h0 => absurd h0 (by omega), F, st, hF, hg, rfl, hs.r, rfl, ?_⟩
      rw [hs.endL hb (Nat.le_refl _), oneRun_end (by omega), hsz]
/-- THE REMARK. -/
theorem sim_rem (s : ByteArray) (e : Nat) (he : e ≤ s.size) (hend : e = s.size ∨ bAt s e < 128) : ∀ (n F pos : Nat) (st : LS), e - pos ≤ n → pos ≤ e → (∀ p, pos ≤ p → p < e → bAt s p ≠ 10) → s.size - pos ≤ F → goodRun s F pos → st.re = true → st.fr = -1 →
    ∃ F2 ca co, s.size - e ≤ F2 ∧ goodRun s F2 e ∧ tokRun s F pos st = tokRun s F2 e ⟨st.L, st.ln, co, -1, ca, true⟩
  | 0, F, pos, st, hn, hp, _, hF, hg, hr, hf => by
    have : pos = e := by omega
    subst this
    obtain ⟨L, ln, co, fr, ca, re⟩ := st
    simp only at hr hf
    subst hr hf
    exact ⟨F, ca, co, hF, hg, rfl⟩
  | n + 1, F, pos, st, hn, hp, hno, hF, hg, hr, hf => by
    by_cases hlt : pos < e
    · obtain ⟨F, rfl⟩ : ∃ F', F = F' + 1 := ⟨F - 1, by omega⟩
      have hpos : pos < s.size := by omega
      obtain ⟨hbad, hg2⟩ := hg hpos
      have hw := wide_pos hbad
      have hwe : pos + wideM s pos ≤ e := by
        refine Nat.le_of_not_lt fun hlt2 => ?_
        have hin := wide_inner (s := s) (pos := pos) (j := e - pos) (by omega) (by omega)
        rw [show pos + (e - pos) = e by omega] at hin
        omega
      obtain ⟨L, ln, co, fr, ca, re⟩ := st
      simp only at hr hf
      subst hr hf
      have hcut : cutB true (bAt s pos) = true := rfl
      obtain ⟨F2, ca2, co2, i1, i2, i3⟩ := sim_rem s e he hend n F (pos + wideM s pos) ⟨L, ln, co + 1, -1, ca, true⟩ (by omega) hwe (fun p h1 h2 => hno p (by omega) h2) (by omega) hg2 rfl rfl
      refine ⟨F2, ca2, co2, i1, i2, ?_⟩
      rw [tokRun, if_pos hpos, if_neg (hno pos (Nat.le_refl _) hlt)]
      simp only [nxL, nxF, nxC, hcut, if_true, Bool.true_or]
      have e0 : endL L s ln (-1) ca pos = L := by unfold endL; rw [if_neg (by omega)]
      rw [e0]
      exact i3
    · have : pos = e := by omega
      subst this
      obtain ⟨L, ln, co, fr, ca, re⟩ := st
      simp only at hr hf
      subst hr hf
      exact ⟨F, ca, co, hF, hg, rfl⟩
/-- A LINE. -/
theorem line_tok {s : ByteArray} {a e F : Nat} {L : List Wd} {ln ca : Int} (hae : a ≤ e) (he : e ≤ s.size) (hno : ∀ p, a ≤ p → p < e → bAt s p ≠ 10) (hend : e = s.size ∨ bAt s e = 10) (hF : s.size - a ≤ F) (hg : goodRun s F a) :
    goodRun ((s.extract a e).extract 0 (hashAt (s.extract a e))) (hashAt (s.extract a e)) 0 ∧
    ((e = s.size → tokRun s F a ⟨L, ln, 0, -1, ca, false⟩ = L ++ oneM (s.extract a e) ln) ∧
    (e < s.size → ∃ F2 ca2, s.size - (e + 1) ≤ F2 ∧ goodRun s F2 (e + 1) ∧ tokRun s F a ⟨L, ln, 0, -1, ca, false⟩ = tokRun s F2 (e + 1) ⟨L ++ oneM (s.extract a e) ln, ln + 1, 0, -1, ca2, false⟩)) := by
  have htz : (s.extract a e).size = e - a := by rw [ByteArray.size_extract]; omega
  have hh := hash_le (s.extract a e)
  rw [htz] at hh
  obtain ⟨h, hhd⟩ : ∃ h, h = hashAt (s.extract a e) := ⟨_, rfl⟩
  have hu : (s.extract a e).extract 0 h = s.extract a (a + h) := by rw [extract_two he (by omega), Nat.add_zero]
  unfold oneM
  rw [← hhd] at hh ⊢
  rw [hu]
  have hnh : ∀ p, p < h → bAt s (a + p) ≠ 10 ∧ bAt s (a + p) ≠ 35 := by
    intro p hp
    refine ⟨hno _ (by omega) (by omega), ?_⟩
    have h1 := hash_before (t := s.extract a e) (p := p) (by omega)
    rw [bAt_extract he (by omega)] at h1
    exact h1
  have hat : a + h = e ∨ (a + h < e ∧ bAt s (a + h) = 35) := by
    by_cases c : h < e - a
    · right
      have h1 := hash_there (t := s.extract a e) (by rw [← hhd, htz]; exact c)
      rw [← hhd, bAt_extract he c] at h1
      exact ⟨by omega, h1⟩
    · left; omega
  obtain ⟨g1, F2, st2, j1, j2, j3, j4, j5, j6⟩ := sim_one s a h L (by omega) hnh (by rcases hat with hx | ⟨_, hx⟩ <;> rcases hend with hy | hy <;> first | (left; omega) | (right; rw [hx]; omega) | (right; omega)) h F 0 ⟨L, ln, 0, -1, ca, false⟩ ⟨[], ln, 0, -1, 0, false⟩ (Nat.zero_le _) (Nat.le_refl _) hF ⟨(List.append_nil _).symm, rfl, rfl, .inl ⟨rfl, rfl⟩, rfl, rfl⟩ hg
  refine ⟨g1, ?_⟩
  obtain ⟨w, hw⟩ : ∃ w, w = L ++ oneRun (s.extract a (a + h)) h 0 ⟨[], ln, 0, -1, 0, false⟩ := ⟨_, rfl⟩
  rw [← hw] at j6 ⊢
  rw [Nat.add_zero] at j3
  simp only at j5
  have key : ∃ F3 st3, s.size - e ≤ F3 ∧ goodRun s F3 e ∧ tokRun s F a ⟨L, ln, 0, -1, ca, false⟩ = tokRun s F3 e st3 ∧ st3.ln = ln ∧ endL st3.L s st3.ln st3.fr st3.ca e = w := by
    rcases hat with hx | ⟨hx, hy⟩
    · rw [hx] at j1 j2 j3 j6
      exact ⟨F2, st2, j1, j2, j3, j5, j6⟩
    · obtain ⟨F2, rfl⟩ : ∃ F', F2 = F' + 1 := ⟨F2 - 1, by omega⟩
      obtain ⟨hbad, hg2⟩ := j2 (by omega)
      have hw1 := wide_pos hbad
      have hcut : cutB st2.re (bAt s (a + h)) = true := by unfold cutB; rw [hy]; simp
      have hwe : a + h + wideM s (a + h) ≤ e := by
        refine Nat.le_of_not_lt fun hlt2 => ?_
        have hin := wide_inner (s := s) (pos := a + h) (j := e - (a + h)) (by omega) (by omega)
        rw [show a + h + (e - (a + h)) = e by omega] at hin
        rcases hend with hz | hz <;> omega
      obtain ⟨F3, ca3, co3, k1, k2, k3⟩ := sim_rem s e he (by rcases hend with hz | hz <;> first | (left; exact hz) | (right; omega)) (e - (a + h + wideM s (a + h))) F2 (a + h + wideM s (a + h)) ⟨w, ln, st2.co + 1, -1, st2.ca, true⟩ (Nat.le_refl _) hwe (fun p h1 h2 => hno p (by omega) h2) (by omega) hg2 rfl rfl
      refine ⟨F3, ⟨w, ln, co3, -1, ca3, true⟩, k1, k2, ?_, rfl, by unfold endL; rw [if_neg (show ¬ (0 : Int) ≤ -1 by omega)]⟩
      rw [j3, tokRun, if_pos (by omega), if_neg (by omega), ← k3]
      simp only [nxL, nxF, nxC, hcut, if_true]
      rw [j6, j5, hy]
      simp
  obtain ⟨F3, st3, k1, k2, k3, k4, k5⟩ := key
  refine ⟨fun hx => ?_, fun hx => ?_⟩
  · rw [k3, tokRun_end (by omega), ← hx]
    exact k5
  · obtain ⟨F3, rfl⟩ : ∃ F', F3 = F' + 1 := ⟨F3 - 1, by omega⟩
    obtain ⟨hbad, hg2⟩ := k2 hx
    have h10 : bAt s e = 10 := by rcases hend with h | h <;> omega
    have hw1 : wideM s e = 1 := by
      unfold wideM wideN
      rw [if_neg (by omega), if_pos (by omega)]
    rw [hw1] at hg2
    refine ⟨F3, st3.ca, by omega, hg2, ?_⟩
    rw [k3, tokRun, if_pos hx, if_pos h10, hw1, k5, k4]
end Go.Proofs.YtbgpniepgbmkaaaDoor

namespace Go.Proofs.YtbgpniepgbmkaaaDoor
open Go.RowKit BigFrame

def loJ (lo : Nat) (j : Nat) : Nat := if j = 1 then lo else 128
def hiJ (hi : Nat) (j : Nat) : Nat := if j = 1 then hi else 191
/-- What a text's width is, whose first byte asks for k bytes, the second of them from lo to hi. -/
structure WK (s : ByteArray) (k lo hi : Nat) : Prop where
  good : k ≤ s.size → (∀ j, 1 ≤ j → j < k → loJ lo j ≤ bAt s j ∧ bAt s j ≤ hiJ hi j) → wideM s 0 = k
  short : s.size < k → wideM s 0 = 0
  bad : ∀ j, 1 ≤ j → j < k → (bAt s j < loJ lo j ∨ hiJ hi j < bAt s j) → wideM s 0 = 0
theorem loJ1 (lo : Nat) : loJ lo 1 = lo := rfl
theorem hiJ1 (hi : Nat) : hiJ hi 1 = hi := rfl
theorem loJ2 (lo : Nat) : loJ lo 2 = 128 := rfl
theorem hiJ2 (hi : Nat) : hiJ hi 2 = 191 := rfl
theorem loJ3 (lo : Nat) : loJ lo 3 = 128 := rfl
theorem hiJ3 (hi : Nat) : hiJ hi 3 = 191 := rfl
theorem wk2 {s : ByteArray} (h : 194 ≤ bAt s 0 ∧ bAt s 0 ≤ 223) : WK s 2 128 191 := by
  have e : wideM s 0 = if 1 < s.size ∧ 128 ≤ bAt s 1 ∧ bAt s 1 ≤ 191 then 2 else 0 := by
    unfold wideM wideN
    rw [Nat.sub_zero, Nat.zero_add]
    by_cases z : s.size = 0
    · rw [if_pos z, if_neg (by omega)]
    · rw [if_neg z, if_neg (by omega), if_pos h]
  refine ⟨fun h1 h2 => ?_, fun h1 => ?_, fun j h1 h2 h3 => ?_⟩
  · have a := h2 1 (by omega) (by omega)
    rw [loJ1, hiJ1] at a
    rw [e, if_pos (by omega)]
  · rw [e, if_neg (by omega)]
  · obtain rfl : j = 1 := by omega
    rw [loJ1, hiJ1] at h3
    rw [e, if_neg (by omega)]
theorem wk3 {s : ByteArray} {lo hi : Nat} (h : 224 ≤ bAt s 0 ∧ bAt s 0 ≤ 239) (hlo : lo = if bAt s 0 = 224 then 160 else 128) (hhi : hi = if bAt s 0 = 237 then 159 else 191) : WK s 3 lo hi := by
  have e : wideM s 0 = if 2 < s.size ∧ (lo ≤ bAt s 1 ∧ bAt s 1 ≤ hi) ∧ 128 ≤ bAt s 2 ∧ bAt s 2 ≤ 191 then 3 else 0 := by
    unfold wideM wideN
    rw [Nat.sub_zero, Nat.zero_add, Nat.zero_add]
    by_cases z : s.size = 0
    · rw [if_pos z, if_neg (by omega)]
    · rw [if_neg z, if_neg (by omega), if_neg (by omega), if_pos h]
      have : (2 < s.size ∧ ((bAt s 0 = 224 → 160 ≤ bAt s 1) ∧ 128 ≤ bAt s 1 ∧ bAt s 1 ≤ 191 ∧ (bAt s 0 = 237 → bAt s 1 ≤ 159)) ∧ 128 ≤ bAt s 2 ∧ bAt s 2 ≤ 191) ↔ (2 < s.size ∧ (lo ≤ bAt s 1 ∧ bAt s 1 ≤ hi) ∧ 128 ≤ bAt s 2 ∧ bAt s 2 ≤ 191) := by
        rw [hlo, hhi]
        split <;> split <;> omega
      by_cases y : (2 < s.size ∧ (lo ≤ bAt s 1 ∧ bAt s 1 ≤ hi) ∧ 128 ≤ bAt s 2 ∧ bAt s 2 ≤ 191)
      · rw [if_pos y, if_pos (this.2 y)]
      · rw [if_neg y, if_neg (fun x => y (this.1 x))]
  refine ⟨fun h1 h2 => ?_, fun h1 => ?_, fun j h1 h2 h3 => ?_⟩
  · have a := h2 1 (by omega) (by omega)
    have b := h2 2 (by omega) (by omega)
    rw [loJ1, hiJ1] at a
    rw [loJ2, hiJ2] at b
    rw [e, if_pos (by omega)]
  · rw [e, if_neg (by omega)]
  · rcases (show j = 1 ∨ j = 2 by omega) with rfl | rfl
    · rw [loJ1, hiJ1] at h3
      rw [e, if_neg (by omega)]
    · rw [loJ2, hiJ2] at h3
      rw [e, if_neg (by omega)]
theorem wk4 {s : ByteArray} {lo hi : Nat} (h : 240 ≤ bAt s 0 ∧ bAt s 0 ≤ 244) (hlo : lo = if bAt s 0 = 240 then 144 else 128) (hhi : hi = if bAt s 0 = 244 then 143 else 191) : WK s 4 lo hi := by
  have e : wideM s 0 = if 3 < s.size ∧ (lo ≤ bAt s 1 ∧ bAt s 1 ≤ hi) ∧ (128 ≤ bAt s 2 ∧ bAt s 2 ≤ 191) ∧ 128 ≤ bAt s 3 ∧ bAt s 3 ≤ 191 then 4 else 0 := by
    unfold wideM wideN
    rw [Nat.sub_zero, Nat.zero_add, Nat.zero_add, Nat.zero_add]
    by_cases z : s.size = 0
    · rw [if_pos z, if_neg (by omega)]
    · rw [if_neg z, if_neg (by omega), if_neg (by omega), if_neg (by omega), if_pos h]
      have : (3 < s.size ∧ ((bAt s 0 = 240 → 144 ≤ bAt s 1) ∧ 128 ≤ bAt s 1 ∧ bAt s 1 ≤ 191 ∧ (bAt s 0 = 244 → bAt s 1 ≤ 143)) ∧ (128 ≤ bAt s 2 ∧ bAt s 2 ≤ 191) ∧ 128 ≤ bAt s 3 ∧ bAt s 3 ≤ 191) ↔ (3 < s.size ∧ (lo ≤ bAt s 1 ∧ bAt s 1 ≤ hi) ∧ (128 ≤ bAt s 2 ∧ bAt s 2 ≤ 191) ∧ 128 ≤ bAt s 3 ∧ bAt s 3 ≤ 191) := by
        rw [hlo, hhi]
        split <;> split <;> omega
      by_cases y : (3 < s.size ∧ (lo ≤ bAt s 1 ∧ bAt s 1 ≤ hi) ∧ (128 ≤ bAt s 2 ∧ bAt s 2 ≤ 191) ∧ 128 ≤ bAt s 3 ∧ bAt s 3 ≤ 191)
      · rw [if_pos y, if_pos (this.2 y)]
      · rw [if_neg y, if_neg (fun x => y (this.1 x))]
  refine ⟨fun h1 h2 => ?_, fun h1 => ?_, fun j h1 h2 h3 => ?_⟩
  · have a := h2 1 (by omega) (by omega)
    have b := h2 2 (by omega) (by omega)
    have c := h2 3 (by omega) (by omega)
    rw [loJ1, hiJ1] at a
    rw [loJ2, hiJ2] at b
    rw [loJ3, hiJ3] at c
    rw [e, if_pos (by omega)]
  · rw [e, if_neg (by omega)]
  · rcases (show j = 1 ∨ j = 2 ∨ j = 3 by omega) with rfl | rfl | rfl
    · rw [loJ1, hiJ1] at h3
      rw [e, if_neg (by omega)]
    · rw [loJ2, hiJ2] at h3
      rw [e, if_neg (by omega)]
    · rw [loJ3, hiJ3] at h3
      rw [e, if_neg (by omega)]
set_option maxRecDepth 100000 in
set_option maxHeartbeats 16000000 in
theorem rwide_calls (s : ByteArray) (hs : s.size ≤ 140737488351232) (w : World) :
    Calls Tryd.prog 64 #[.string s] w fun e w' => e = .returned (.int .i64 (wideM s 0)) ∧ w' = w := by
  have hn9 : (s.size : Int) ≤ 140737488351232 := by omega
  have hn0 : (0 : Int) ≤ (s.size : Int) := Int.natCast_nonneg _
  go_enter Tryd.func64, Tryd.ntmps64
  by_cases hp : s.size = 0
  · have HV := Lib.hid (show wideM s 0 = 0 by unfold wideM wideN; rw [if_pos (by omega)])
    have h1 : (s.size : Int) = 0 := by omega
    clear hp
    go_wp2_with fail
    go_ret
    rw [HV.out]
    exact ⟨rfl, rfl⟩
  have hp0 : 0 < s.size := by omega
  have hpi : (0 : Int) < (s.size : Int) := by omega
  have hpe : ((s.size : Int) == 0) = false := by simpa using hp
  have hpn : ¬ (s.size : Int) = 0 := by omega
  obtain ⟨x, hx⟩ : ∃ x : Int, x = (bAt s 0 : Int) := ⟨_, rfl⟩
  have hb0 : ((s[0]'hp0).toNat : Int) = x := by rw [hx, bAt_eq s 0 hp0]
  have hx0 : 0 ≤ x ∧ x < 256 := by have := bAt_lt s 0; omega
  have HX := Lib.hid hx
  clear hx hp
  by_cases c1 : x < 128
  · have HV := Lib.hid (show wideM s 0 = 1 by
      have := HX.out
      unfold wideM wideN
      rw [if_neg (by omega), if_pos (by omega)])
    go_wp2_with fail
    go_ret
    rw [HV.out]
    exact ⟨rfl, rfl⟩
  by_cases hcase : 194 ≤ x ∧ x ≤ 223
  · have HWK := Lib.hid (show WK s 2 128 191 by
      have := HX.out
      exact wk2 (by omega))
    have f0 : 194 ≤ x := by omega
    have f1 : x ≤ 223 := by omega
    have f2 : ¬ 224 ≤ x := by omega
    have f3 : ¬ 240 ≤ x := by omega
    clear hcase c1 HX hx0
    by_cases hlen : s.size < 2
    · have HV := Lib.hid (HWK.out.short hlen)
      have hli : (s.size : Int) < 2 := by omega
      clear hlen
      go_wp2_with fail
      go_ret
      rw [HV.out]
      exact ⟨rfl, rfl⟩
    have hli : ¬ (s.size : Int) < 2 := by omega
    go_wp2_with fail
    go_loop [5, 6, 7] (fun u5 u6 u7 => ∃ i : Nat, u7 = .int .i64 i ∧ u5 = .int .i64 (loJ 128 i) ∧ u6 = .int .i64 (hiJ 191 i) ∧ 1 ≤ i ∧ i ≤ 2 ∧ ∀ j, 1 ≤ j → j < i → loJ 128 j ≤ bAt s j ∧ bAt s j ≤ hiJ 191 j) (fun _ _ u => 2 - (intOf u).toNat)
    case atStart => exact ⟨1, rfl, rfl, rfl, Nat.le_refl _, by omega, fun j h1 h2 => by omega⟩
    case round =>
      obtain ⟨i, rfl, rfl, rfl, hi1, hi2, hall⟩ := hrel
      have HA := Lib.hid hall
      have hiz : (0 : Int) ≤ (i : Int) := Int.natCast_nonneg _
      clear hall
      by_cases hik : i < 2
      · have hik' : (i : Int) < 2 := by omega
        have his : i < s.size := by omega
        have his' : (i : Int) < (s.size : Int) := by omega
        obtain ⟨y, hy⟩ : ∃ y : Int, y = (bAt s i : Int) := ⟨_, rfl⟩
        have hbi : ((s[i]'his).toNat : Int) = y := by rw [hy, bAt_eq s i his]
        have hyz : 0 ≤ y ∧ y < 256 := by have := bAt_lt s i; omega
        have HY := Lib.hid hy
        obtain ⟨li, hli2⟩ : ∃ l, l = loJ 128 i := ⟨_, rfl⟩
        obtain ⟨ui, hui2⟩ : ∃ l, l = hiJ 191 i := ⟨_, rfl⟩
        rw [← hli2, ← hui2]
        have HLI := Lib.hid hli2
        have HUI := Lib.hid hui2
        clear hy hli2 hui2
        by_cases d1 : y < (li : Int)
        · have HV := Lib.hid (HWK.out.bad i hi1 hik (.inl (by have := HY.out; have := HLI.out; omega)))
          go_wp2_with fail
          go_ret
          rw [HV.out]
          exact ⟨rfl, rfl⟩
        by_cases d2 : (ui : Int) < y
        · have HV := Lib.hid (HWK.out.bad i hi1 hik (.inr (by have := HY.out; have := HUI.out; omega)))
          go_wp2_with fail
          go_ret
          rw [HV.out]
          exact ⟨rfl, rfl⟩
        have HN := Lib.hid (show loJ 128 i ≤ bAt s i ∧ bAt s i ≤ hiJ 191 i from by have := HY.out; have := HLI.out; have := HUI.out; omega)
        go_wp2_with fail
        go_round
        case rel => exact ⟨i + 1, by go_num, by rw [show loJ 128 (i + 1) = 128 from if_neg (by omega)]; rfl, by rw [show hiJ 191 (i + 1) = 191 from if_neg (by omega)]; rfl, by omega, by omega, fun j h1 h2 => by
          by_cases e : j = i
          · rw [e]; exact HN.out
          · exact HA.out j h1 (by omega)⟩
        case measure => simp [intOf]; omega
      obtain rfl : i = 2 := by omega
      have HV := Lib.hid (HWK.out.good (by omega) HA.out)
      go_wp2_with fail
      go_ret
      rw [HV.out]
      exact ⟨rfl, rfl⟩
  by_cases hcase : x = 224
  · have HWK := Lib.hid (show WK s 3 160 191 by
      have := HX.out
      exact wk3 (by omega) (by rw [if_pos (by omega)]) (by rw [if_neg (by omega)]))
    subst hcase
    clear c1 HX hx0
    by_cases hlen : s.size < 3
    · have HV := Lib.hid (HWK.out.short hlen)
      have hli : (s.size : Int) < 3 := by omega
      clear hlen
      go_wp2_with fail
      go_ret
      rw [HV.out]
      exact ⟨rfl, rfl⟩
    have hli : ¬ (s.size : Int) < 3 := by omega
    go_wp2_with fail
    go_loop [5, 6, 7] (fun u5 u6 u7 => ∃ i : Nat, u7 = .int .i64 i ∧ u5 = .int .i64 (loJ 160 i) ∧ u6 = .int .i64 (hiJ 191 i) ∧ 1 ≤ i ∧ i ≤ 3 ∧ ∀ j, 1 ≤ j → j < i → loJ 160 j ≤ bAt s j ∧ bAt s j ≤ hiJ 191 j) (fun _ _ u => 3 - (intOf u).toNat)
    case atStart => exact ⟨1, rfl, rfl, rfl, Nat.le_refl _, by omega, fun j h1 h2 => by omega⟩
    case round =>
      obtain ⟨i, rfl, rfl, rfl, hi1, hi2, hall⟩ := hrel
      have HA := Lib.hid hall
      have hiz : (0 : Int) ≤ (i : Int) := Int.natCast_nonneg _
      clear hall
      by_cases hik : i < 3
      · have hik' : (i : Int) < 3 := by omega
        have his : i < s.size := by omega
        have his' : (i : Int) < (s.size : Int) := by omega
        obtain ⟨y, hy⟩ : ∃ y : Int, y = (bAt s i : Int) := ⟨_, rfl⟩
        have hbi : ((s[i]'his).toNat : Int) = y := by rw [hy, bAt_eq s i his]
        have hyz : 0 ≤ y ∧ y < 256 := by have := bAt_lt s i; omega
        have HY := Lib.hid hy
        obtain ⟨li, hli2⟩ : ∃ l, l = loJ 160 i := ⟨_, rfl⟩
        obtain ⟨ui, hui2⟩ : ∃ l, l = hiJ 191 i := ⟨_, rfl⟩
        rw [← hli2, ← hui2]
        have HLI := Lib.hid hli2
        have HUI := Lib.hid hui2
        clear hy hli2 hui2
        by_cases d1 : y < (li : Int)
        · have HV := Lib.hid (HWK.out.bad i hi1 hik (.inl (by have := HY.out; have := HLI.out; omega)))
          go_wp2_with fail
          go_ret
          rw [HV.out]
          exact ⟨rfl, rfl⟩
        by_cases d2 : (ui : Int) < y
        · have HV := Lib.hid (HWK.out.bad i hi1 hik (.inr (by have := HY.out; have := HUI.out; omega)))
          go_wp2_with fail
          go_ret
          rw [HV.out]
          exact ⟨rfl, rfl⟩
        have HN := Lib.hid (show loJ 160 i ≤ bAt s i ∧ bAt s i ≤ hiJ 191 i from by have := HY.out; have := HLI.out; have := HUI.out; omega)
        go_wp2_with fail
        go_round
        case rel => exact ⟨i + 1, by go_num, by rw [show loJ 160 (i + 1) = 128 from if_neg (by omega)]; rfl, by rw [show hiJ 191 (i + 1) = 191 from if_neg (by omega)]; rfl, by omega, by omega, fun j h1 h2 => by
          by_cases e : j = i
          · rw [e]; exact HN.out
          · exact HA.out j h1 (by omega)⟩
        case measure => simp [intOf]; omega
      obtain rfl : i = 3 := by omega
      have HV := Lib.hid (HWK.out.good (by omega) HA.out)
      go_wp2_with fail
      go_ret
      rw [HV.out]
      exact ⟨rfl, rfl⟩
  by_cases hcase : x = 237
  · have HWK := Lib.hid (show WK s 3 128 159 by
      have := HX.out
      exact wk3 (by omega) (by rw [if_neg (by omega)]) (by rw [if_pos (by omega)]))
    subst hcase
    clear c1 HX hx0
    by_cases hlen : s.size < 3
    · have HV := Lib.hid (HWK.out.short hlen)
      have hli : (s.size : Int) < 3 := by omega
      clear hlen
      go_wp2_with fail
      go_ret
      rw [HV.out]
      exact ⟨rfl, rfl⟩
    have hli : ¬ (s.size : Int) < 3 := by omega
    go_wp2_with fail
    go_loop [5, 6, 7] (fun u5 u6 u7 => ∃ i : Nat, u7 = .int .i64 i ∧ u5 = .int .i64 (loJ 128 i) ∧ u6 = .int .i64 (hiJ 159 i) ∧ 1 ≤ i ∧ i ≤ 3 ∧ ∀ j, 1 ≤ j → j < i → loJ 128 j ≤ bAt s j ∧ bAt s j ≤ hiJ 159 j) (fun _ _ u => 3 - (intOf u).toNat)
    case atStart => exact ⟨1, rfl, rfl, rfl, Nat.le_refl _, by omega, fun j h1 h2 => by omega⟩
    case round =>
      obtain ⟨i, rfl, rfl, rfl, hi1, hi2, hall⟩ := hrel
      have HA := Lib.hid hall
      have hiz : (0 : Int) ≤ (i : Int) := Int.natCast_nonneg _
      clear hall
      by_cases hik : i < 3
      · have hik' : (i : Int) < 3 := by omega
        have his : i < s.size := by omega
        have his' : (i : Int) < (s.size : Int) := by omega
        obtain ⟨y, hy⟩ : ∃ y : Int, y = (bAt s i : Int) := ⟨_, rfl⟩
        have hbi : ((s[i]'his).toNat : Int) = y := by rw [hy, bAt_eq s i his]
        have hyz : 0 ≤ y ∧ y < 256 := by have := bAt_lt s i; omega
        have HY := Lib.hid hy
        obtain ⟨li, hli2⟩ : ∃ l, l = loJ 128 i := ⟨_, rfl⟩
        obtain ⟨ui, hui2⟩ : ∃ l, l = hiJ 159 i := ⟨_, rfl⟩
        rw [← hli2, ← hui2]
        have HLI := Lib.hid hli2
        have HUI := Lib.hid hui2
        clear hy hli2 hui2
        by_cases d1 : y < (li : Int)
        · have HV := Lib.hid (HWK.out.bad i hi1 hik (.inl (by have := HY.out; have := HLI.out; omega)))
          go_wp2_with fail
          go_ret
          rw [HV.out]
          exact ⟨rfl, rfl⟩
        by_cases d2 : (ui : Int) < y
        · have HV := Lib.hid (HWK.out.bad i hi1 hik (.inr (by have := HY.out; have := HUI.out; omega)))
          go_wp2_with fail
          go_ret
          rw [HV.out]
          exact ⟨rfl, rfl⟩
        have HN := Lib.hid (show loJ 128 i ≤ bAt s i ∧ bAt s i ≤ hiJ 159 i from by have := HY.out; have := HLI.out; have := HUI.out; omega)
        go_wp2_with fail
        go_round
        case rel => exact ⟨i + 1, by go_num, by rw [show loJ 128 (i + 1) = 128 from if_neg (by omega)]; rfl, by rw [show hiJ 159 (i + 1) = 191 from if_neg (by omega)]; rfl, by omega, by omega, fun j h1 h2 => by
          by_cases e : j = i
          · rw [e]; exact HN.out
          · exact HA.out j h1 (by omega)⟩
        case measure => simp [intOf]; omega
      obtain rfl : i = 3 := by omega
      have HV := Lib.hid (HWK.out.good (by omega) HA.out)
      go_wp2_with fail
      go_ret
      rw [HV.out]
      exact ⟨rfl, rfl⟩
  by_cases hcase : 224 ≤ x ∧ x ≤ 239
  · have HWK := Lib.hid (show WK s 3 128 191 by
      have := HX.out
      exact wk3 (by omega) (by rw [if_neg (by omega)]) (by rw [if_neg (by omega)]))
    have f0 : ¬ x ≤ 223 := by omega
    have f1 : 224 ≤ x := by omega
    have f2 : x ≤ 239 := by omega
    have f3 : ¬ 240 ≤ x := by omega
    have f4 : 194 ≤ x := by omega
    have g224 : (x == 224) = false := by simpa using (by omega : x ≠ 224)
    have g237 : (x == 237) = false := by simpa using (by omega : x ≠ 237)
    clear hcase c1 HX hx0
    by_cases hlen : s.size < 3
    · have HV := Lib.hid (HWK.out.short hlen)
      have hli : (s.size : Int) < 3 := by omega
      clear hlen
      go_wp2_with fail
      go_ret
      rw [HV.out]
      exact ⟨rfl, rfl⟩
    have hli : ¬ (s.size : Int) < 3 := by omega
    go_wp2_with fail
    go_loop [5, 6, 7] (fun u5 u6 u7 => ∃ i : Nat, u7 = .int .i64 i ∧ u5 = .int .i64 (loJ 128 i) ∧ u6 = .int .i64 (hiJ 191 i) ∧ 1 ≤ i ∧ i ≤ 3 ∧ ∀ j, 1 ≤ j → j < i → loJ 128 j ≤ bAt s j ∧ bAt s j ≤ hiJ 191 j) (fun _ _ u => 3 - (intOf u).toNat)
    case atStart => exact ⟨1, rfl, rfl, rfl, Nat.le_refl _, by omega, fun j h1 h2 => by omega⟩
    case round =>
      obtain ⟨i, rfl, rfl, rfl, hi1, hi2, hall⟩ := hrel
      have HA := Lib.hid hall
      have hiz : (0 : Int) ≤ (i : Int) := Int.natCast_nonneg _
      clear hall
      by_cases hik : i < 3
      · have hik' : (i : Int) < 3 := by omega
        have his : i < s.size := by omega
        have his' : (i : Int) < (s.size : Int) := by omega
        obtain ⟨y, hy⟩ : ∃ y : Int, y = (bAt s i : Int) := ⟨_, rfl⟩
        have hbi : ((s[i]'his).toNat : Int) = y := by rw [hy, bAt_eq s i his]
        have hyz : 0 ≤ y ∧ y < 256 := by have := bAt_lt s i; omega
        have HY := Lib.hid hy
        obtain ⟨li, hli2⟩ : ∃ l, l = loJ 128 i := ⟨_, rfl⟩
        obtain ⟨ui, hui2⟩ : ∃ l, l = hiJ 191 i := ⟨_, rfl⟩
        rw [← hli2, ← hui2]
        have HLI := Lib.hid hli2
        have HUI := Lib.hid hui2
        clear hy hli2 hui2
        by_cases d1 : y < (li : Int)
        · have HV := Lib.hid (HWK.out.bad i hi1 hik (.inl (by have := HY.out; have := HLI.out; omega)))
          go_wp2_with fail
          go_ret
          rw [HV.out]
          exact ⟨rfl, rfl⟩
        by_cases d2 : (ui : Int) < y
        · have HV := Lib.hid (HWK.out.bad i hi1 hik (.inr (by have := HY.out; have := HUI.out; omega)))
          go_wp2_with fail
          go_ret
          rw [HV.out]
          exact ⟨rfl, rfl⟩
        have HN := Lib.hid (show loJ 128 i ≤ bAt s i ∧ bAt s i ≤ hiJ 191 i from by have := HY.out; have := HLI.out; have := HUI.out; omega)
        go_wp2_with fail
        go_round
        case rel => exact ⟨i + 1, by go_num, by rw [show loJ 128 (i + 1) = 128 from if_neg (by omega)]; rfl, by rw [show hiJ 191 (i + 1) = 191 from if_neg (by omega)]; rfl, by omega, by omega, fun j h1 h2 => by
          by_cases e : j = i
          · rw [e]; exact HN.out
          · exact HA.out j h1 (by omega)⟩
        case measure => simp [intOf]; omega
      obtain rfl : i = 3 := by omega
      have HV := Lib.hid (HWK.out.good (by omega) HA.out)
      go_wp2_with fail
      go_ret
      rw [HV.out]
      exact ⟨rfl, rfl⟩
  by_cases hcase : x = 240
  · have HWK := Lib.hid (show WK s 4 144 191 by
      have := HX.out
      exact wk4 (by omega) (by rw [if_pos (by omega)]) (by rw [if_neg (by omega)]))
    subst hcase
    clear c1 HX hx0
    by_cases hlen : s.size < 4
    · have HV := Lib.hid (HWK.out.short hlen)
      have hli : (s.size : Int) < 4 := by omega
      clear hlen
      go_wp2_with fail
      go_ret
      rw [HV.out]
      exact ⟨rfl, rfl⟩
    have hli : ¬ (s.size : Int) < 4 := by omega
    go_wp2_with fail
    go_loop [5, 6, 7] (fun u5 u6 u7 => ∃ i : Nat, u7 = .int .i64 i ∧ u5 = .int .i64 (loJ 144 i) ∧ u6 = .int .i64 (hiJ 191 i) ∧ 1 ≤ i ∧ i ≤ 4 ∧ ∀ j, 1 ≤ j → j < i → loJ 144 j ≤ bAt s j ∧ bAt s j ≤ hiJ 191 j) (fun _ _ u => 4 - (intOf u).toNat)
    case atStart => exact ⟨1, rfl, rfl, rfl, Nat.le_refl _, by omega, fun j h1 h2 => by omega⟩
    case round =>
      obtain ⟨i, rfl, rfl, rfl, hi1, hi2, hall⟩ := hrel
      have HA := Lib.hid hall
      have hiz : (0 : Int) ≤ (i : Int) := Int.natCast_nonneg _
      clear hall
      by_cases hik : i < 4
      · have hik' : (i : Int) < 4 := by omega
        have his : i < s.size := by omega
        have his' : (i : Int) < (s.size : Int) := by omega
        obtain ⟨y, hy⟩ : ∃ y : Int, y = (bAt s i : Int) := ⟨_, rfl⟩
        have hbi : ((s[i]'his).toNat : Int) = y := by rw [hy, bAt_eq s i his]
        have hyz : 0 ≤ y ∧ y < 256 := by have := bAt_lt s i; omega
        have HY := Lib.hid hy
        obtain ⟨li, hli2⟩ : ∃ l, l = loJ 144 i := ⟨_, rfl⟩
        obtain ⟨ui, hui2⟩ : ∃ l, l = hiJ 191 i := ⟨_, rfl⟩
        rw [← hli2, ← hui2]
        have HLI := Lib.hid hli2
        have HUI := Lib.hid hui2
        clear hy hli2 hui2
        by_cases d1 : y < (li : Int)
        · have HV := Lib.hid (HWK.out.bad i hi1 hik (.inl (by have := HY.out; have := HLI.out; omega)))
          go_wp2_with fail
          go_ret
          rw [HV.out]
          exact ⟨rfl, rfl⟩
        by_cases d2 : (ui : Int) < y
        · have HV := Lib.hid (HWK.out.bad i hi1 hik (.inr (by have := HY.out; have := HUI.out; omega)))
          go_wp2_with fail
          go_ret
          rw [HV.out]
          exact ⟨rfl, rfl⟩
        have HN := Lib.hid (show loJ 144 i ≤ bAt s i ∧ bAt s i ≤ hiJ 191 i from by have := HY.out; have := HLI.out; have := HUI.out; omega)
        go_wp2_with fail
        go_round
        case rel => exact ⟨i + 1, by go_num, by rw [show loJ 144 (i + 1) = 128 from if_neg (by omega)]; rfl, by rw [show hiJ 191 (i + 1) = 191 from if_neg (by omega)]; rfl, by omega, by omega, fun j h1 h2 => by
          by_cases e : j = i
          · rw [e]; exact HN.out
          · exact HA.out j h1 (by omega)⟩
        case measure => simp [intOf]; omega
      obtain rfl : i = 4 := by omega
      have HV := Lib.hid (HWK.out.good (by omega) HA.out)
      go_wp2_with fail
      go_ret
      rw [HV.out]
      exact ⟨rfl, rfl⟩
  by_cases hcase : x = 244
  · have HWK := Lib.hid (show WK s 4 128 143 by
      have := HX.out
      exact wk4 (by omega) (by rw [if_neg (by omega)]) (by rw [if_pos (by omega)]))
    subst hcase
    clear c1 HX hx0
    by_cases hlen : s.size < 4
    · have HV := Lib.hid (HWK.out.short hlen)
      have hli : (s.size : Int) < 4 := by omega
      clear hlen
      go_wp2_with fail
      go_ret
      rw [HV.out]
      exact ⟨rfl, rfl⟩
    have hli : ¬ (s.size : Int) < 4 := by omega
    go_wp2_with fail
    go_loop [5, 6, 7] (fun u5 u6 u7 => ∃ i : Nat, u7 = .int .i64 i ∧ u5 = .int .i64 (loJ 128 i) ∧ u6 = .int .i64 (hiJ 143 i) ∧ 1 ≤ i ∧ i ≤ 4 ∧ ∀ j, 1 ≤ j → j < i → loJ 128 j ≤ bAt s j ∧ bAt s j ≤ hiJ 143 j) (fun _ _ u => 4 - (intOf u).toNat)
    case atStart => exact ⟨1, rfl, rfl, rfl, Nat.le_refl _, by omega, fun j h1 h2 => by omega⟩
    case round =>
      obtain ⟨i, rfl, rfl, rfl, hi1, hi2, hall⟩ := hrel
      have HA := Lib.hid hall
      have hiz : (0 : Int) ≤ (i : Int) := Int.natCast_nonneg _
      clear hall
      by_cases hik : i < 4
      · have hik' : (i : Int) < 4 := by omega
        have his : i < s.size := by omega
        have his' : (i : Int) < (s.size : Int) := by omega
        obtain ⟨y, hy⟩ : ∃ y : Int, y = (bAt s i : Int) := ⟨_, rfl⟩
        have hbi : ((s[i]'his).toNat : Int) = y := by rw [hy, bAt_eq s i his]
        have hyz : 0 ≤ y ∧ y < 256 := by have := bAt_lt s i; omega
        have HY := Lib.hid hy
        obtain ⟨li, hli2⟩ : ∃ l, l = loJ 128 i := ⟨_, rfl⟩
        obtain ⟨ui, hui2⟩ : ∃ l, l = hiJ 143 i := ⟨_, rfl⟩
        rw [← hli2, ← hui2]
        have HLI := Lib.hid hli2
        have HUI := Lib.hid hui2
        clear hy hli2 hui2
        by_cases d1 : y < (li : Int)
        · have HV := Lib.hid (HWK.out.bad i hi1 hik (.inl (by have := HY.out; have := HLI.out; omega)))
          go_wp2_with fail
          go_ret
          rw [HV.out]
          exact ⟨rfl, rfl⟩
        by_cases d2 : (ui : Int) < y
        · have HV := Lib.hid (HWK.out.bad i hi1 hik (.inr (by have := HY.out; have := HUI.out; omega)))
          go_wp2_with fail
          go_ret
          rw [HV.out]
          exact ⟨rfl, rfl⟩
        have HN := Lib.hid (show loJ 128 i ≤ bAt s i ∧ bAt s i ≤ hiJ 143 i from by have := HY.out; have := HLI.out; have := HUI.out; omega)
        go_wp2_with fail
        go_round
        case rel => exact ⟨i + 1, by go_num, by rw [show loJ 128 (i + 1) = 128 from if_neg (by omega)]; rfl, by rw [show hiJ 143 (i + 1) = 191 from if_neg (by omega)]; rfl, by omega, by omega, fun j h1 h2 => by
          by_cases e : j = i
          · rw [e]; exact HN.out
          · exact HA.out j h1 (by omega)⟩
        case measure => simp [intOf]; omega
      obtain rfl : i = 4 := by omega
      have HV := Lib.hid (HWK.out.good (by omega) HA.out)
      go_wp2_with fail
      go_ret
      rw [HV.out]
      exact ⟨rfl, rfl⟩
  by_cases hcase : 240 ≤ x ∧ x ≤ 244
  · have HWK := Lib.hid (show WK s 4 128 191 by
      have := HX.out
      exact wk4 (by omega) (by rw [if_neg (by omega)]) (by rw [if_neg (by omega)]))
    have f0 : ¬ x ≤ 223 := by omega
    have f1 : ¬ x ≤ 239 := by omega
    have f2 : 240 ≤ x := by omega
    have f3 : x ≤ 244 := by omega
    have f4 : 194 ≤ x := by omega
    have f5 : 224 ≤ x := by omega
    have g240 : (x == 240) = false := by simpa using (by omega : x ≠ 240)
    have g244 : (x == 244) = false := by simpa using (by omega : x ≠ 244)
    clear hcase c1 HX hx0
    by_cases hlen : s.size < 4
    · have HV := Lib.hid (HWK.out.short hlen)
      have hli : (s.size : Int) < 4 := by omega
      clear hlen
      go_wp2_with fail
      go_ret
      rw [HV.out]
      exact ⟨rfl, rfl⟩
    have hli : ¬ (s.size : Int) < 4 := by omega
    go_wp2_with fail
    go_loop [5, 6, 7] (fun u5 u6 u7 => ∃ i : Nat, u7 = .int .i64 i ∧ u5 = .int .i64 (loJ 128 i) ∧ u6 = .int .i64 (hiJ 191 i) ∧ 1 ≤ i ∧ i ≤ 4 ∧ ∀ j, 1 ≤ j → j < i → loJ 128 j ≤ bAt s j ∧ bAt s j ≤ hiJ 191 j) (fun _ _ u => 4 - (intOf u).toNat)
    case atStart => exact ⟨1, rfl, rfl, rfl, Nat.le_refl _, by omega, fun j h1 h2 => by omega⟩
    case round =>
      obtain ⟨i, rfl, rfl, rfl, hi1, hi2, hall⟩ := hrel
      have HA := Lib.hid hall
      have hiz : (0 : Int) ≤ (i : Int) := Int.natCast_nonneg _
      clear hall
      by_cases hik : i < 4
      · have hik' : (i : Int) < 4 := by omega
        have his : i < s.size := by omega
        have his' : (i : Int) < (s.size : Int) := by omega
        obtain ⟨y, hy⟩ : ∃ y : Int, y = (bAt s i : Int) := ⟨_, rfl⟩
        have hbi : ((s[i]'his).toNat : Int) = y := by rw [hy, bAt_eq s i his]
        have hyz : 0 ≤ y ∧ y < 256 := by have := bAt_lt s i; omega
        have HY := Lib.hid hy
        obtain ⟨li, hli2⟩ : ∃ l, l = loJ 128 i := ⟨_, rfl⟩
        obtain ⟨ui, hui2⟩ : ∃ l, l = hiJ 191 i := ⟨_, rfl⟩
        rw [← hli2, ← hui2]
        have HLI := Lib.hid hli2
        have HUI := Lib.hid hui2
        clear hy hli2 hui2
        by_cases d1 : y < (li : Int)
        · have HV := Lib.hid (HWK.out.bad i hi1 hik (.inl (by have := HY.out; have := HLI.out; omega)))
          go_wp2_with fail
          go_ret
          rw [HV.out]
          exact ⟨rfl, rfl⟩
        by_cases d2 : (ui : Int) < y
        · have HV := Lib.hid (HWK.out.bad i hi1 hik (.inr (by have := HY.out; have := HUI.out; omega)))
          go_wp2_with fail
          go_ret
          rw [HV.out]
          exact ⟨rfl, rfl⟩
        have HN := Lib.hid (show loJ 128 i ≤ bAt s i ∧ bAt s i ≤ hiJ 191 i from by have := HY.out; have := HLI.out; have := HUI.out; omega)
        go_wp2_with fail
        go_round
        case rel => exact ⟨i + 1, by go_num, by rw [show loJ 128 (i + 1) = 128 from if_neg (by omega)]; rfl, by rw [show hiJ 191 (i + 1) = 191 from if_neg (by omega)]; rfl, by omega, by omega, fun j h1 h2 => by
          by_cases e : j = i
          · rw [e]; exact HN.out
          · exact HA.out j h1 (by omega)⟩
        case measure => simp [intOf]; omega
      obtain rfl : i = 4 := by omega
      have HV := Lib.hid (HWK.out.good (by omega) HA.out)
      go_wp2_with fail
      go_ret
      rw [HV.out]
      exact ⟨rfl, rfl⟩
  have HV := Lib.hid (show wideM s 0 = 0 by
    have := HX.out
    unfold wideM wideN
    rw [if_neg (by omega), if_neg (by omega), if_neg (by omega), if_neg (by omega), if_neg (by omega)])
  by_cases hcase : x < 194
  · have f1 : ¬ 194 ≤ x := by omega
    have f2 : ¬ 224 ≤ x := by omega
    have f3 : ¬ 240 ≤ x := by omega
    obtain ⟨hx00, hx01⟩ := hx0
    clear hcase HX
    go_wp2_with fail
    go_ret
    rw [HV.out]
    exact ⟨rfl, rfl⟩
  · have f1 : 194 ≤ x := by omega
    have f2 : ¬ x ≤ 223 := by omega
    have f3 : ¬ x ≤ 239 := by omega
    have f4 : ¬ x ≤ 244 := by omega
    have f5 : 224 ≤ x := by omega
    have f6 : 240 ≤ x := by omega
    obtain ⟨hx00, hx01⟩ := hx0
    clear hcase HX
    go_wp2_with fail
    go_ret
    rw [HV.out]
    exact ⟨rfl, rfl⟩
end Go.Proofs.YtbgpniepgbmkaaaDoor

namespace Go.Proofs.YtbgpniepgbmkaaaDoor
open Go.RowKit BigFrame

theorem bAt_out {s : ByteArray} {p : Nat} (h : ¬ p < s.size) : bAt s p = 0 := by
  unfold bAt
  have : s.get! p = default := by
    obtain ⟨d⟩ := s
    have hd : ¬ p < d.size := h
    show d[p]! = default
    simp [hd]
  rw [this]
  rfl
theorem bAt_from {s : ByteArray} {i j : Nat} : bAt (s.extract i s.size) j = bAt s (i + j) := by
  by_cases h : i + j < s.size
  · have h1 : j < (s.extract i s.size).size := by rw [ByteArray.size_extract]; omega
    rw [bAt_eq _ j h1, bAt_eq s (i + j) h]
    congr 1
    exact ByteArray.getElem_extract h1
  · rw [bAt_out h, bAt_out (by rw [ByteArray.size_extract]; omega)]
theorem wide_from (s : ByteArray) (i : Nat) : wideM (s.extract i s.size) 0 = wideM s i := by
  unfold wideM
  rw [bAt_from, bAt_from, bAt_from, bAt_from, ByteArray.size_extract]
  congr 1
  omega
def badM (s : ByteArray) : Int × Int := badRun s s.size 0 1 0
set_option maxRecDepth 100000 in
set_option maxHeartbeats 16000000 in
theorem rbad_calls (s : ByteArray) (hs : s.size ≤ 140737488351232) (w : World) :
    Calls Tryd.prog 48 #[.string s] w fun e w' => e = .returned (.tuple #[.int .i64 (badM s).1, .int .i64 (badM s).2]) ∧ w' = w := by
  obtain ⟨M, hM⟩ : ∃ M, M = badM s := ⟨_, rfl⟩
  rw [← hM]
  have HM := Lib.hid (show badRun s s.size 0 1 0 = M from hM.symm)
  obtain ⟨m1, m2⟩ := M
  have hn9 : (s.size : Int) ≤ 140737488351232 := by omega
  have hn0 : (0 : Int) ≤ (s.size : Int) := Int.natCast_nonneg _
  clear hM
  go_enter Tryd.func48, Tryd.ntmps48
  go_wp2_with fail
  go_loop [4, 5, 6] (fun u4 u5 u6 => ∃ (f pos : Nat) (ln co : Int), u4 = .int .i64 ln ∧ u5 = .int .i64 co ∧ u6 = .int .i64 pos ∧ pos ≤ s.size ∧ s.size - pos ≤ f ∧ badRun s f pos ln co = (m1, m2) ∧ 1 ≤ ln ∧ ln ≤ pos + 1 ∧ 0 ≤ co ∧ co ≤ pos) (fun _ _ u => s.size - (intOf u).toNat)
  case atStart => exact ⟨s.size, 0, 1, 0, rfl, rfl, rfl, Nat.zero_le _, by omega, HM.out, by omega, by omega, by omega, by omega⟩
  case round =>
    clear HM
    obtain ⟨f, pos, ln, co, rfl, rfl, rfl, hp, hf, hrun, l1, l2, k1, k2⟩ := hrel
    have HR := Lib.hid hrun
    have hpz : (0 : Int) ≤ (pos : Int) := Int.natCast_nonneg _
    clear hrun
    by_cases hc : pos < s.size
    · have hc' : (pos : Int) < (s.size : Int) := by omega
      have hcl : (pos : Int) ≤ (s.size : Int) := by omega
      obtain ⟨f, rfl⟩ : ∃ f', f = f' + 1 := ⟨f - 1, by omega⟩
      have HW := Lib.hid (rwide_calls (s.extract pos s.size) (by have := extract_size s pos s.size; omega) w)
      rw [wide_from] at HW
      obtain ⟨c, hcx⟩ : ∃ c : Int, c = (bAt s pos : Int) := ⟨_, rfl⟩
      have hb0 : ((s[pos]'hc).toNat : Int) = c := by rw [hcx, bAt_eq s pos hc]
      have hc0 : 0 ≤ c ∧ c < 256 := by have := bAt_lt s pos; omega
      have HC := Lib.hid hcx
      have HR2 := Lib.hid (show (if badAt s pos = true then (ln, co + 1) else if bAt s pos = 10 then badRun s f (pos + wideM s pos) (ln + 1) 0 else badRun s f (pos + wideM s pos) ln (co + 1)) = (m1, m2) by have := HR.out; rw [badRun, if_pos hc] at this; exact this)
      have HBA := Lib.hid (show badAt s pos = (decide (wideM s pos = 0) || ((decide (bAt s pos ≠ 10) && decide (bAt s pos < 32)) || decide (bAt s pos = 127))) from rfl)
      have HWL := Lib.hid (wide_le hc)
      obtain ⟨k, hk⟩ : ∃ k, k = wideM s pos := ⟨_, rfl⟩
      rw [← hk] at HW HR2 HBA HWL
      clear hcx HR hk
      have hk0 : (0 : Int) ≤ (k : Int) := Int.natCast_nonneg _
      have hk9 : (k : Int) ≤ 140737488351232 := by have := HWL.out; omega
      go_wp2_with fail
      refine HW.out.mono ?_
      rintro e w' ⟨rfl, rfl⟩
      by_cases z : k = 0
      · have HV := Lib.hid (show ln = m1 ∧ co + 1 = m2 by
          have h1 := HR2.out
          have h2 := HBA.out
          rw [decide_eq_true z, Bool.true_or] at h2
          rw [if_pos h2] at h1
          injection h1 with h1 h3
          exact ⟨h1, h3⟩)
        have z1 : (k : Int) = 0 := by omega
        have z2 : ((k : Int) == 0) = true := by simpa using z1
        clear z
        go_wp2_with fail
        go_ret2
        rw [HV.out.1, HV.out.2]
        exact ⟨rfl, rfl⟩
      have z2 : ((k : Int) == 0) = false := by simpa using z
      by_cases t10 : c = 10
      · have HV := Lib.hid (show badRun s f (pos + k) (ln + 1) 0 = (m1, m2) by
          have h1 := HR2.out
          have h2 := HBA.out
          have h3 := HC.out
          rw [decide_eq_false z, decide_eq_false (show ¬ bAt s pos ≠ 10 by omega), decide_eq_false (show ¬ bAt s pos = 127 by omega)] at h2
          rw [if_neg (by rw [h2]; simp), if_pos (by omega)] at h1
          exact h1)
        have hwl := HWL.out
        have hkp : 1 ≤ k := by omega
        subst t10
        clear HR2 HBA HC z
        go_wp2_with fail
        go_round
        case rel => exact ⟨f, pos + k, ln + 1, 0, rfl, rfl, by go_num, by omega, by omega, HV.out, by omega, by omega, by omega, by omega⟩
        case measure => simp [intOf]; omega
      have t10a : (c == 10) = false := by simpa using t10
      have t10b : (c != 10) = true := by simpa using t10
      by_cases t32 : c < 32
      · have HV := Lib.hid (show ln = m1 ∧ co + 1 = m2 by
          have h1 := HR2.out
          have h2 := HBA.out
          have h3 := HC.out
          rw [decide_eq_false z, decide_eq_true (show bAt s pos ≠ 10 by omega), decide_eq_true (show bAt s pos < 32 by omega)] at h2
          rw [if_pos (by rw [h2]; rfl)] at h1
          injection h1 with h1 h3
          exact ⟨h1, h3⟩)
        clear z t10 HR2 HBA HC
        go_wp2_with fail
        go_ret2
        rw [HV.out.1, HV.out.2]
        exact ⟨rfl, rfl⟩
      by_cases t127 : c = 127
      · have HV := Lib.hid (show ln = m1 ∧ co + 1 = m2 by
          have h1 := HR2.out
          have h2 := HBA.out
          have h3 := HC.out
          rw [decide_eq_true (show bAt s pos = 127 by omega), Bool.or_true, Bool.or_true] at h2
          rw [if_pos h2] at h1
          injection h1 with h1 h3
          exact ⟨h1, h3⟩)
        subst t127
        clear z t10 HR2 HBA HC
        go_wp2_with fail
        go_ret2
        rw [HV.out.1, HV.out.2]
        exact ⟨rfl, rfl⟩
      have t127a : (c == 127) = false := by simpa using t127
      have HV := Lib.hid (show badRun s f (pos + k) ln (co + 1) = (m1, m2) by
        have h1 := HR2.out
        have h2 := HBA.out
        have h3 := HC.out
        rw [decide_eq_false z, decide_eq_false (show ¬ bAt s pos < 32 by omega), Bool.and_false, decide_eq_false (show ¬ bAt s pos = 127 by omega)] at h2
        rw [if_neg (by rw [h2]; simp), if_neg (by omega)] at h1
        exact h1)
      have hwl := HWL.out
      have hkp : 1 ≤ k := by omega
      clear z t10 t127 HR2 HBA HC
      go_wp2_with fail
      go_round
      case rel => exact ⟨f, pos + k, ln, co + 1, rfl, rfl, by go_num, by omega, by omega, HV.out, by omega, by omega, by omega, by omega⟩
      case measure => simp [intOf]; omega
    have hc' : ¬ (pos : Int) < (s.size : Int) := by omega
    have HV := Lib.hid (show 0 = m1 ∧ 0 = m2 by
      have h1 := HR.out
      rw [badRun_end hc] at h1
      injection h1 with h1 h3
      exact ⟨h1, h3⟩)
    clear hc
    go_wp2_with fail
    go_ret2
    rw [← HV.out.1, ← HV.out.2]
    exact ⟨rfl, rfl⟩
end Go.Proofs.YtbgpniepgbmkaaaDoor
