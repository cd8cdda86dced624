/- Plain Lean about a label's text: its bytes read two by two, what the runes say of them, and that reading and printing undo each other. No program, no condition. -/
import Derived.Test.YtbgpniepgbmkaaaDoorBase
import Derived.Lib.DecodeN
namespace Go.Proofs.YtbgpniepgbmkaaaDoor
open Go.RowKit

def bAt (s : ByteArray) (i : Nat) : Nat := (s.get! i).toNat
theorem bAt_eq (s : ByteArray) (i : Nat) (h : i < s.size) : bAt s i = (s[i]'h).toNat := by
  unfold bAt
  rw [show s.get! i = s[i]'h from get_at s i h]
theorem bAt_lt (s : ByteArray) (i : Nat) : bAt s i < 256 := (s.get! i).toNat_lt

/-- The bytes from place i on. -/
def bl (s : ByteArray) (i : Nat) : List Nat := (s.data.toList.map UInt8.toNat).drop i
theorem bl_cons (s : ByteArray) (i : Nat) (h : i < s.size) : bl s i = bAt s i :: bl s (i + 1) := by
  unfold bl
  have hl : i < (s.data.toList.map UInt8.toNat).length := by simpa using h
  rw [List.drop_eq_getElem_cons hl, bAt_eq s i h]
  simp
  rfl
theorem bl_nil (s : ByteArray) (i : Nat) (h : ¬ i < s.size) : bl s i = [] := by
  unfold bl
  have hl : (s.data.toList.map UInt8.toNat).length ≤ i := by
    have : s.size = s.data.toList.length := by simp
    simp only [List.length_map]
    omega
  exact List.drop_eq_nil_of_le hl
theorem bl_length (s : ByteArray) (i : Nat) : (bl s i).length = s.size - i := by
  unfold bl
  simp
theorem bl_last (s : ByteArray) (i : Nat) (h : i < s.size) : (bl s i).getLast? = some (bAt s (s.size - 1)) := by
  have hl : (bl s i).length = s.size - i := bl_length s i
  rw [List.getLast?_eq_getElem?, hl]
  unfold bl
  rw [List.getElem?_drop, show i + (s.size - i - 1) = s.size - 1 by omega]
  rw [bAt_eq s (s.size - 1) (by omega)]
  have hl2 : s.size - 1 < (s.data.toList.map UInt8.toNat).length := by
    have : s.size = s.data.toList.length := by simp
    simp only [List.length_map]
    omega
  rw [List.getElem?_eq_getElem hl2]
  simp
  rfl

/-- Which sign two bytes are. -/
def greek (a b : Nat) : Int := if a = 206 ∧ 177 ≤ b ∧ b ≤ 191 then (b : Int) - 177 else if a = 207 ∧ 128 ≤ b ∧ b ≤ 191 then (b : Int) - 128 + 15 else -1
/-- The two bytes of a sign. -/
def gk (n : Nat) : List Nat := if n < 15 then [206, 177 + n] else [207, 128 + n - 15]
theorem greek_ge (a b : Nat) : -1 ≤ greek a b := by unfold greek; split <;> (try split) <;> omega
theorem greek_gk (n : Nat) (h : n ≤ 24) : greek (gk n)[0]! (gk n)[1]! = n := by
  unfold gk greek
  split <;> simp <;> omega
theorem gk_greek {a b : Nat} {n : Nat} (h : greek a b = (n : Int)) : gk n = [a, b] := by
  unfold greek at h
  unfold gk
  split at h
  · rename_i hc
    obtain ⟨rfl, h1, h2⟩ := hc
    rw [if_pos (by omega)]
    congr 2
    omega
  · split at h
    · rename_i hc
      obtain ⟨rfl, h1, h2⟩ := hc
      rw [if_neg (by omega)]
      congr 2
      omega
    · omega

/-- What is decoded at a place. -/
theorem dec_low (s : ByteArray) (i : Nat) (hb : bAt s i < 128) : Utf8.decode s i = (bAt s i, 1) := by
  rw [Lib.decode_at]
  unfold bAt at hb ⊢
  simp [Lib.decodeN, hb]
theorem dec_cases (s : ByteArray) (i : Nat) (hi : i < s.size) :
    (bAt s i < 128 ∧ Utf8.decode s i = (bAt s i, 1)) ∨
    (128 ≤ bAt s i ∧ i + 1 < s.size ∧ 0 ≤ greek (bAt s i) (bAt s (i + 1)) ∧ (Utf8.decode s i).1 = 945 + (greek (bAt s i) (bAt s (i + 1))).toNat ∧ (Utf8.decode s i).2 = 2) ∨
    (128 ≤ bAt s i ∧ (i + 1 < s.size → greek (bAt s i) (bAt s (i + 1)) = -1) ∧ 128 ≤ (Utf8.decode s i).1 ∧ ((Utf8.decode s i).1 < 945 ∨ 1023 < (Utf8.decode s i).1) ∧ 1 ≤ (Utf8.decode s i).2) := by
  by_cases h0 : bAt s i < 128
  · exact .inl ⟨h0, dec_low s i h0⟩
  · right
    rw [Lib.decode_at]
    have e0 : (s.get! i).toNat = bAt s i := rfl
    have e1 : (s.get! (i + 1)).toNat = bAt s (i + 1) := rfl
    have l0 := bAt_lt s i
    have l1 := bAt_lt s (i + 1)
    rw [e0, e1]
    generalize (s.get! (i + 2)).toNat = b2
    generalize (s.get! (i + 3)).toNat = b3
    generalize bAt s i = b0 at *
    generalize bAt s (i + 1) = b1 at *
    have hn : (1 < s.size - i) ↔ i + 1 < s.size := by omega
    generalize s.size - i = n at *
    by_cases hg : i + 1 < s.size ∧ ((b0 = 206 ∧ 177 ≤ b1 ∧ b1 ≤ 191) ∨ (b0 = 207 ∧ 128 ≤ b1 ∧ b1 ≤ 191))
    · left
      obtain ⟨hs, hg⟩ := hg
      have hn1 := hn.2 hs
      have hD : Lib.decodeN n b0 b1 b2 b3 = (b0 % 32 * 64 + b1 % 64, 2) := by
        unfold Lib.decodeN
        rw [if_neg h0, if_pos (by omega), if_pos (by omega)]
      rw [hD]
      refine ⟨by omega, hs, ?_, ?_, rfl⟩
      · unfold greek; rcases hg with hg | hg
        · rw [if_pos hg]; omega
        · rw [if_neg (by omega), if_pos hg]; omega
      · unfold greek; rcases hg with hg | hg
        · rw [if_pos hg]; show b0 % 32 * 64 + b1 % 64 = _; omega
        · rw [if_neg (by omega), if_pos hg]; show b0 % 32 * 64 + b1 % 64 = _; omega
    · right
      refine ⟨by omega, ?_, ?_⟩
      · intro hs
        unfold greek
        rw [if_neg (by omega), if_neg (by omega)]
      · unfold Lib.decodeN
        rw [if_neg h0]
        repeat' split
        all_goals (simp only []; omega)

/-- The signs of a text, two bytes each, growing, up to the brace that ends it: the sum of their bits. -/
def catsM : List Nat → Int → Int → Option Int
  | [125], _, m => some m
  | a :: b :: r, last, m => if last < greek a b ∧ greek a b ≤ 15 then catsM r (greek a b) (m + 2 ^ (greek a b).toNat) else none
  | _, _, _ => none
/-- A label's text: its level and its categories. -/
def parseL : List Nat → Option (Int × Int)
  | b0 :: b1 :: r => if 48 ≤ b0 ∧ b0 ≤ 55 ∧ b1 = 123 then (catsM r (-1) 0).map fun m => ((b0 : Int) - 48, m) else none
  | _ => none

theorem catsM_nil (last m : Int) : catsM [] last m = none := by simp [catsM]
theorem catsM_brace (last m : Int) : catsM [125] last m = some m := by simp [catsM]
theorem catsM_one (a : Nat) (h : a ≠ 125) (last m : Int) : catsM [a] last m = none := by
  unfold catsM
  split <;> simp_all
theorem catsM_two (a b : Nat) (r : List Nat) (last m : Int) : catsM (a :: b :: r) last m = if last < greek a b ∧ greek a b ≤ 15 then catsM r (greek a b) (m + 2 ^ (greek a b).toNat) else none := by simp [catsM]
theorem greek_brace (b : Nat) : greek 125 b = -1 := by simp [greek]
theorem catsM_brace_more (r : List Nat) (h : r ≠ []) (last m : Int) (hl : -1 ≤ last) : catsM (125 :: r) last m = none := by
  cases r with
  | nil => exact absurd rfl h
  | cons b r => rw [catsM_two, greek_brace, if_neg (by omega)]

/-- Where the signs can be read at all, their bytes are odd in number, at most so many, and a brace ends them. -/
theorem catsM_shape : ∀ (l : List Nat) (last m k : Int), catsM l last m = some k → -1 ≤ last → last ≤ 15 → l.length % 2 = 1 ∧ l.getLast? = some 125 ∧ (l.length : Int) ≤ 31 - 2 * last
  | [125], last, m, k, _, _, h15 => by refine ⟨rfl, rfl, ?_⟩; simp; omega
  | a :: b :: r, last, m, k, h, hl, h15 => by
      rw [catsM_two] at h
      split at h
      · rename_i hc
        have := catsM_shape r (greek a b) _ k h (greek_ge a b) hc.2
        obtain ⟨h1, h2, h3⟩ := this
        refine ⟨?_, ?_, ?_⟩
        · simp only [List.length_cons]; omega
        · cases r with
          | nil => simp at h1
          | cons x r => simpa [List.getLast?_cons_cons] using h2
        · simp only [List.length_cons]; omega
      · cases h
  | [], last, m, k, h, _, _ => by simp [catsM_nil] at h
  | [a], last, m, k, h, _, h15 => by
      by_cases ha : a = 125
      · subst ha; refine ⟨rfl, rfl, ?_⟩; simp; omega
      · simp [catsM_one a ha] at h

/-- The categories' bits, from the signs n to 15. -/
def testB (c : Int) (n : Nat) : Prop := c / 2 ^ n % 2 = 1
instance (c : Int) (n : Nat) : Decidable (testB c n) := by unfold testB; infer_instance
def signsFrom (c : Int) : Nat → Nat → List Nat
  | 0, _ => []
  | f + 1, n => (if testB c n then gk n else []) ++ signsFrom c f (n + 1)
theorem signsFrom_succ (c : Int) (f n : Nat) : signsFrom c (f + 1) n = (if testB c n then gk n else []) ++ signsFrom c f (n + 1) := rfl
/-- A label's text. -/
def textL (lvl c : Int) : List Nat := (48 + lvl).toNat :: 123 :: (signsFrom c 16 0 ++ [125])

theorem pow_pos' (n : Nat) : (0 : Int) < 2 ^ n := Int.pow_pos (by decide)
theorem pow_succ' (n : Nat) : (2 : Int) ^ (n + 1) = 2 * 2 ^ n := by rw [Int.pow_succ]; omega

theorem emod_two_pow (c : Int) (n : Nat) : c % (2 ^ n * 2) = c % 2 ^ n + 2 ^ n * (c / 2 ^ n % 2) := by
  have hp := pow_pos' n
  have h1 := Int.emod_add_mul_ediv c (2 ^ n)
  have h2 := Int.emod_add_mul_ediv (c / 2 ^ n) 2
  have hr := Int.emod_lt_of_pos c hp
  have hr0 := Int.emod_nonneg c (show (2 : Int) ^ n ≠ 0 by omega)
  have h3 := Int.emod_two_eq (c / 2 ^ n)
  have h4 : c = (c % 2 ^ n + 2 ^ n * (c / 2 ^ n % 2)) + (2 ^ n * 2) * (c / 2 ^ n / 2) := by
    rw [Int.add_assoc, Int.mul_assoc, ← Int.mul_add, h2, h1]
  have h5 : (c % 2 ^ n + 2 ^ n * (c / 2 ^ n % 2)) < 2 ^ n * 2 ∧ 0 ≤ c % 2 ^ n + 2 ^ n * (c / 2 ^ n % 2) := by
    rcases h3 with h3 | h3 <;> rw [h3] <;> simp <;> omega
  rw [h4, Int.add_mul_emod_self_left, Int.emod_eq_of_lt h5.2 h5.1, ← h4]

/-- What was printed is read: the bits from n on. -/
theorem catsM_signs (c : Int) (h0 : 0 ≤ c) : ∀ (f n : Nat) (last m : Int), n + f = 16 → last < n → -1 ≤ last → c < 2 ^ 16 → m = c % 2 ^ n → catsM (signsFrom c f n ++ [125]) last m = some c
  | 0, n, last, m, hn, _, _, hc, hm => by
      obtain rfl : n = 16 := by omega
      rw [Int.emod_eq_of_lt h0 hc] at hm
      subst hm
      exact catsM_brace _ _
  | f + 1, n, last, m, hn, hl, hl1, hc, hm => by
      have hp := pow_pos' n
      have hs : c % 2 ^ (n + 1) = c % 2 ^ n + 2 ^ n * (c / 2 ^ n % 2) := by
        rw [Int.pow_succ, emod_two_pow c n]
      unfold signsFrom
      by_cases hb : testB c n
      · rw [if_pos hb]
        have hgk : ∃ a b, gk n = [a, b] ∧ greek a b = n := by
          have := greek_gk n (by omega)
          unfold gk at this ⊢
          split <;> rename_i hlt
          · rw [if_pos hlt] at this; exact ⟨_, _, rfl, by simpa using this⟩
          · rw [if_neg hlt] at this; exact ⟨_, _, rfl, by simpa using this⟩
        obtain ⟨a, b, hg, hgr⟩ := hgk
        rw [hg]
        show catsM (a :: b :: (signsFrom c f (n + 1) ++ [125])) last m = some c
        rw [catsM_two, hgr, if_pos ⟨by omega, by omega⟩]
        refine catsM_signs c h0 f (n + 1) _ _ (by omega) (by omega) (by omega) hc ?_
        unfold testB at hb
        rw [hs, hb, hm]
        simp
      · rw [if_neg hb]
        refine catsM_signs c h0 f (n + 1) last m (by omega) (by omega) hl1 hc ?_
        unfold testB at hb
        have h01 : c / 2 ^ n % 2 = 0 := by omega
        rw [hs, h01, hm]
        simp
theorem parse_text (lvl c : Int) (h0 : 0 ≤ lvl) (h7 : lvl ≤ 7) (c0 : 0 ≤ c) (c1 : c < 65536) : parseL (textL lvl c) = some (lvl, c) := by
  unfold textL
  show (if 48 ≤ (48 + lvl).toNat ∧ (48 + lvl).toNat ≤ 55 ∧ 123 = 123 then (catsM (signsFrom c 16 0 ++ [125]) (-1) 0).map fun m => (((48 + lvl).toNat : Int) - 48, m) else none) = _
  rw [if_pos ⟨by omega, by omega, rfl⟩, catsM_signs c c0 16 0 (-1) 0 rfl (by omega) (by omega) (by simpa using c1) (by simp)]
  simp
  omega

theorem signs_brace (last m k : Int) (h : catsM [125] last m = some k) (hl : -1 ≤ last) (h15 : last ≤ 15) (h0 : 0 ≤ m) (hm : m < 2 ^ (last + 1).toNat) :
    m ≤ k ∧ k < 2 ^ 16 ∧ k % 2 ^ (last + 1).toNat = m ∧ ∀ f n : Nat, (n : Int) = last + 1 → n + f = 16 → [125] = signsFrom k f n ++ [125] := by
  rw [catsM_brace] at h
  obtain rfl : m = k := Option.some.inj h
  have hle : (2 : Int) ^ (last + 1).toNat ≤ 2 ^ 16 := by
    have : (2 : Nat) ^ (last + 1).toNat ≤ 2 ^ 16 := Nat.pow_le_pow_right (by decide) (by omega)
    exact_mod_cast this
  refine ⟨Int.le_refl _, by omega, Int.emod_eq_of_lt h0 hm, ?_⟩
  intro f n hn hf
  have hz : ∀ (f n : Nat), m < 2 ^ n → signsFrom m f n = [] := by
    intro f
    induction f with
    | zero => intro n _; rfl
    | succ f ih =>
      intro n hn
      unfold signsFrom
      have hz : ¬ testB m n := by
        unfold testB
        rw [Int.ediv_eq_zero_of_lt h0 hn]
        decide
      rw [if_neg hz, ih (n + 1) (by rw [pow_succ']; have := pow_pos' n; omega)]
      rfl
  rw [hz f n (by rw [show n = (last + 1).toNat by omega]; exact hm)]
  rfl
/-- What is read is the text that is printed of it. -/
theorem signs_catsM : ∀ (l : List Nat) (last m k : Int), catsM l last m = some k → -1 ≤ last → last ≤ 15 → 0 ≤ m → m < 2 ^ (last + 1).toNat →
    m ≤ k ∧ k < 2 ^ 16 ∧ k % 2 ^ (last + 1).toNat = m ∧ ∀ f n : Nat, (n : Int) = last + 1 → n + f = 16 → l = signsFrom k f n ++ [125]
  | a :: b :: r, last, m, k, h, hl, h15, h0, hm => by
      rw [catsM_two] at h
      split at h
      · rename_i hc
        obtain ⟨g, hg⟩ : ∃ g : Nat, greek a b = g := ⟨(greek a b).toNat, by omega⟩
        rw [hg] at h hc
        have hgk := gk_greek hg
        have hpow : (2 : Int) ^ (last + 1).toNat ≤ 2 ^ g := by
          have : (2 : Nat) ^ (last + 1).toNat ≤ 2 ^ g := Nat.pow_le_pow_right (by decide) (by omega)
          exact_mod_cast this
        have hpg := pow_pos' g
        have e1 : ((g : Int) + 1).toNat = g + 1 := by omega
        have e2 : ((g : Int)).toNat = g := by omega
        rw [e2] at h
        obtain ⟨i1, i2, i3, i4⟩ := signs_catsM r g (m + 2 ^ g) k h (by omega) (by omega) (by omega) (by rw [e1, pow_succ']; omega)
        rw [e1] at i3
        have hbit : testB k g := by
          unfold testB
          have hs : k % 2 ^ (g + 1) = k % 2 ^ g + 2 ^ g * (k / 2 ^ g % 2) := by
            rw [Int.pow_succ, emod_two_pow k g]
          have hr := Int.emod_lt_of_pos k hpg
          have hr0 := Int.emod_nonneg k (show (2 : Int) ^ g ≠ 0 by omega)
          have h2 := Int.emod_two_eq (k / 2 ^ g)
          rcases h2 with h2 | h2
          · rw [h2] at hs
            simp at hs
            omega
          · exact h2
        have hkg : k % 2 ^ g = m := by
          have hs : k % 2 ^ (g + 1) = k % 2 ^ g + 2 ^ g * (k / 2 ^ g % 2) := by
            rw [Int.pow_succ, emod_two_pow k g]
          unfold testB at hbit
          rw [hbit] at hs
          simp at hs
          omega
        refine ⟨by omega, i2, ?_, ?_⟩
        · have hdvd : (2 : Int) ^ (last + 1).toNat ∣ 2 ^ g := by
            refine ⟨2 ^ (g - (last + 1).toNat), ?_⟩
            rw [← Int.pow_add]
            congr 1
            omega
          rw [← Int.emod_emod_of_dvd k hdvd, hkg, Int.emod_eq_of_lt h0 hm]
        · intro f n hn hf
          -- between n and g no bit is set
          have hskip : ∀ d f n : Nat, n + d = g → n + f = 16 → last < n → signsFrom k f n = signsFrom k (16 - g) g := by
            intro d
            induction d with
            | zero =>
              intro f n h1 h2 h3
              obtain rfl : n = g := by omega
              rw [show f = 16 - n by omega]
            | succ d ih =>
              intro f n h1 h2 h3
              obtain ⟨f', rfl⟩ : ∃ f', f = f' + 1 := ⟨f - 1, by omega⟩
              rw [signsFrom_succ]
              have hz : ¬ testB k n := by
                unfold testB
                have hdvd : (2 : Int) ^ (n + 1) ∣ 2 ^ g := by
                  refine ⟨2 ^ (g - (n + 1)), ?_⟩
                  rw [← Int.pow_add]
                  congr 1
                  omega
                have hle : (2 : Int) ^ (last + 1).toNat ≤ 2 ^ n := by
                  have : (2 : Nat) ^ (last + 1).toNat ≤ 2 ^ n := Nat.pow_le_pow_right (by decide) (by omega)
                  exact_mod_cast this
                have hkn : k % 2 ^ (n + 1) = m := by
                  rw [← Int.emod_emod_of_dvd k hdvd, hkg, Int.emod_eq_of_lt h0 (by rw [pow_succ']; omega)]
                have hs : k % 2 ^ (n + 1) = k % 2 ^ n + 2 ^ n * (k / 2 ^ n % 2) := by
                  rw [Int.pow_succ, emod_two_pow k n]
                intro h1
                rw [h1, hkn] at hs
                have hr0 := Int.emod_nonneg k (show (2 : Int) ^ n ≠ 0 by have := pow_pos' n; omega)
                omega
              rw [if_neg hz, List.nil_append]
              exact ih f' (n + 1) (by omega) (by omega) (by omega)
          rw [hskip (g - n) f n (by omega) hf (by omega)]
          obtain ⟨f', hf'⟩ : ∃ f', 16 - g = f' + 1 := ⟨16 - g - 1, by omega⟩
          rw [hf', signsFrom_succ]
          rw [if_pos hbit, hgk, i4 f' (g + 1) (by omega) (by omega)]
          simp
      · cases h
  | [], last, m, k, h, _, _, _, _ => by simp [catsM_nil] at h
  | [a], last, m, k, h, hl, h15, h0, hm => by
      by_cases ha : a = 125
      · subst ha; exact signs_brace last m k h hl h15 h0 hm
      · simp [catsM_one a ha] at h
theorem text_parse {l : List Nat} {lvl c : Int} (h : parseL l = some (lvl, c)) : 0 ≤ lvl ∧ lvl ≤ 7 ∧ 0 ≤ c ∧ c < 65536 ∧ l = textL lvl c := by
  unfold parseL at h
  split at h
  · rename_i b0 b1 r
    split at h
    · rename_i hc
      cases hm : catsM r (-1) 0 with
      | none => rw [hm] at h; cases h
      | some k =>
        rw [hm] at h
        simp at h
        obtain ⟨h1, rfl⟩ := h
        obtain ⟨i1, i2, i3, i4⟩ := signs_catsM r (-1) 0 k hm (by omega) (by omega) (by omega) (by decide)
        refine ⟨by omega, by omega, i1, by simpa using i2, ?_⟩
        unfold textL
        rw [i4 16 0 rfl rfl, hc.2.2, show (48 + lvl).toNat = b0 by omega]
    · cases h
  · cases h

/-- How many signs a name has. -/
def nameLen : List Nat → Option Nat
  | [] => some 0
  | a :: b :: r => if 97 ≤ a ∧ a ≤ 122 then (nameLen (b :: r)).map (· + 1) else if 0 ≤ greek a b ∧ greek a b ≤ 24 then (nameLen r).map (· + 1) else none
  | [a] => if 97 ≤ a ∧ a ≤ 122 then some 1 else none
def nameB (l : List Nat) : Bool := match nameLen l with | some n => decide (1 ≤ n ∧ n ≤ 12) | none => false
theorem nameLen_letter (a : Nat) (h : 97 ≤ a ∧ a ≤ 122) (r : List Nat) : nameLen (a :: r) = (nameLen r).map (· + 1) := by
  cases r with
  | nil => simp [nameLen, h]
  | cons b r => simp [nameLen, h]
theorem nameLen_sign (a b : Nat) (h : ¬ (97 ≤ a ∧ a ≤ 122)) (r : List Nat) (hg : 0 ≤ greek a b ∧ greek a b ≤ 24) : nameLen (a :: b :: r) = (nameLen r).map (· + 1) := by
  rw [nameLen, if_neg h, if_pos hg]
theorem nameLen_bad (a b : Nat) (h : ¬ (97 ≤ a ∧ a ≤ 122)) (r : List Nat) (hg : ¬ (0 ≤ greek a b ∧ greek a b ≤ 24)) : nameLen (a :: b :: r) = none := by
  rw [nameLen, if_neg h, if_neg hg]
theorem nameLen_stop (a : Nat) (h : ¬ (97 ≤ a ∧ a ≤ 122)) : nameLen [a] = none := by rw [nameLen, if_neg h]
end Go.Proofs.YtbgpniepgbmkaaaDoor
