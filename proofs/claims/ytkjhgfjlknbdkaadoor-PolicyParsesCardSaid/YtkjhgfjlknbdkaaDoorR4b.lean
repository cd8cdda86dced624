/- The number of a word (parcloseref04.Number): what policy.number says. Condition: the word is not too long.
   The document's reading of a line: the policy in rows of the call's own, what a line with names says, and a line that is none. Conditions: as named.
   Helpers for the document's one: the blocks of its walk. -/
import Derived.Test.YtkjhgfjlknbdkaaDoorPrt2
import Derived.Test.YtkjhgfjlknbdkaaDoorNum1
import Derived.Test.YtkjhgfjlknbdkaaDoorSignRef
import Derived.Test.YtkjhgfjlknbdkaaDoorRef04b
import Derived.Test.YtkjhgfjlknbdkaaDoorParse
import Derived.Test.YtkjhgfjlknbdkaaDoorFrom
import Derived.Test.YtkjhgfjlknbdkaaDoorTail
namespace Go.Proofs.YtkjhgfjlknbdkaaDoor
open Go.RowKit BigFrame

def dig (s : ByteArray) (j : Nat) : Nat := bAt s j - 48
def valTo (s : ByteArray) : Nat → Nat
  | 0 => 0
  | i + 1 => valTo s i * 10 + dig s i
def digs (s : ByteArray) (i : Nat) : Prop := ∀ j, j < i → 48 ≤ bAt s j ∧ bAt s j ≤ 57
theorem val_lt {s : ByteArray} : ∀ {i : Nat}, digs s i → valTo s i < 10 ^ i
  | 0, _ => by simp [valTo]
  | i + 1, h => by
    have h1 := val_lt (s := s) (i := i) (fun j hj => h j (by omega))
    have h2 := h i (by omega)
    rw [valTo, Nat.pow_succ]
    unfold dig
    omega
theorem run_digs {s : ByteArray} (hs : s.size ≤ 4) (h : digs s s.size) : ∀ (n pos f : Nat), s.size - pos ≤ n → pos ≤ s.size → s.size - pos ≤ f → numRun s f pos (valTo s pos) = some (valTo s s.size : Int)
  | 0, pos, f, hn, hp, _ => by
    have : pos = s.size := by omega
    subst this
    exact numRun_end (by omega)
  | n + 1, pos, f, hn, hp, hf => by
    by_cases hc : pos < s.size
    · obtain ⟨f, rfl⟩ : ∃ f', f = f' + 1 := ⟨f - 1, by omega⟩
      have hd := h pos hc
      have hdec := dec_low s pos (by omega)
      have hv := val_lt (s := s) (i := pos + 1) (fun j hj => h j (by omega))
      have hv4 : valTo s (pos + 1) < 10000 := Nat.lt_of_lt_of_le hv (Nat.pow_le_pow_right (by decide) (show pos + 1 ≤ 4 by omega))
      have e : (valTo s pos : Int) * 10 + ((bAt s pos : Int) - 48) = (valTo s (pos + 1) : Int) := by
        rw [valTo]
        unfold dig
        omega
      rw [numRun, if_pos hc, hdec]
      simp only
      rw [if_neg (by omega), e, if_neg (by omega)]
      exact run_digs hs h n (pos + 1) f (by omega) (by omega) (by omega)
    · have : pos = s.size := by omega
      subst this
      exact numRun_end (by omega)
theorem digs_run {s : ByteArray} : ∀ (f pos : Nat) (n m : Int), s.size - pos ≤ f → numRun s f pos n = some m → ∀ j, pos ≤ j → j < s.size → 48 ≤ bAt s j ∧ bAt s j ≤ 57
  | 0, pos, n, m, hf, _, j, h1, h2 => by omega
  | f + 1, pos, n, m, hf, h, j, h1, h2 => by
    have hc : pos < s.size := by omega
    rw [numRun, if_pos hc] at h
    split at h
    · cases h
    next hd =>
    split at h
    · cases h
    have hb : bAt s pos = (Utf8.decode s pos).1 ∧ (Utf8.decode s pos).2 = 1 := by
      rcases dec_cases s pos hc with h3 | h3 | h3
      · rw [h3.2]; exact ⟨rfl, rfl⟩
      · omega
      · omega
    by_cases e : j = pos
    · subst e; omega
    · rw [hb.2] at h
      exact digs_run f (pos + 1) _ m (by omega) h j (by omega) h2
theorem itoa_take {s : ByteArray} (h : digs s s.size) (h0 : 1 < s.size → bAt s 0 ≠ 48) : ∀ i, 1 ≤ i → i ≤ s.size → Lib.itoa (valTo s i : Int) = s.data.toList.take i
  | 0, h1, _ => by omega
  | 1, _, h2 => by
    have hd := h 0 (by omega)
    obtain ⟨x, hx, hb⟩ : ∃ x : UInt8, s.data.toList[0]? = some x ∧ bAt s 0 = x.toNat := by
      refine ⟨s[0]'(by omega), ?_, bAt_eq s 0 (by omega)⟩
      rw [Array.getElem?_toList, Array.getElem?_eq_getElem (by show 0 < s.size; omega)]
      rfl
    have e : valTo s 1 = dig s 0 := by rw [valTo, valTo]; omega
    rw [e, itoa_small (by unfold dig; omega), List.take_add_one, List.take_zero, hx]
    unfold dig
    rw [show 48 + (bAt s 0 - 48) = bAt s 0 by omega, hb]
    simp
  | i + 2, _, h2 => by
    have ih := itoa_take h h0 (i + 1) (by omega) (by omega)
    have hd := h (i + 1) (by omega)
    obtain ⟨x, hx, hb⟩ : ∃ x : UInt8, s.data.toList[i + 1]? = some x ∧ bAt s (i + 1) = x.toNat := by
      refine ⟨s[i + 1]'(by omega), ?_, bAt_eq s (i + 1) (by omega)⟩
      rw [Array.getElem?_toList, Array.getElem?_eq_getElem (by show i + 1 < s.size; omega)]
      rfl
    have hv : 1 ≤ valTo s (i + 1) := by
      have key : ∀ k, 1 ≤ valTo s (k + 1) := by
        intro k
        induction k with
        | zero =>
          have := h 0 (by omega)
          have := h0 (by omega)
          rw [valTo, valTo]
          unfold dig
          omega
        | succ k ihk => rw [valTo]; omega
      exact key i
    have e : valTo s (i + 2) = valTo s (i + 1) * 10 + dig s (i + 1) := by rw [valTo]
    have hdg : dig s (i + 1) < 10 := by unfold dig; omega
    rw [e, itoa_big (by omega), show (valTo s (i + 1) * 10 + dig s (i + 1)) / 10 = valTo s (i + 1) by omega, show (valTo s (i + 1) * 10 + dig s (i + 1)) % 10 = dig s (i + 1) by omega, ih, List.take_add_one (i := i + 1), hx]
    unfold dig
    rw [show 48 + (bAt s (i + 1) - 48) = bAt s (i + 1) by omega, hb]
    simp
theorem itoa_short : ∀ (k n : Nat), 1 ≤ k → n < 10 ^ k → (Lib.itoa (n : Int)).length ≤ k
  | 0, n, h, _ => by omega
  | k + 1, n, _, h => by
    by_cases c : n < 10
    · rw [itoa_small c]; simp
    · rw [itoa_big c, List.length_append]
      have hk : 1 ≤ k := by
        rcases Nat.eq_zero_or_pos k with rfl | hk
        · simp at h; omega
        · exact hk
      have := itoa_short k (n / 10) hk (by rw [Nat.pow_succ] at h; omega)
      simp only [List.length_cons, List.length_nil]
      omega
/-- May a word be a number, by its signs alone? -/
def numP (s : ByteArray) : Prop := (1 ≤ s.size ∧ s.size ≤ 4) ∧ (1 < s.size → bAt s 0 ≠ 48) ∧ digs s s.size
theorem num_yes {s : ByteArray} (h : numP s) : numM s = ((valTo s s.size : Int), true) := by
  obtain ⟨⟨h1, h2⟩, h3, h4⟩ := h
  have hr := run_digs h2 h4 s.size 0 s.size (by omega) (by omega) (by omega)
  rw [show ((valTo s 0 : Nat) : Int) = 0 from rfl] at hr
  have hi := itoa_take h4 h3 s.size h1 (Nat.le_refl _)
  rw [List.take_of_length_le (by rw [Array.length_toList]; exact Nat.le_refl _)] at hi
  unfold numM
  rw [hr]
  simp only
  unfold numOk
  rw [hi, decide_eq_true h2]
  have e1 : decide (s = ByteArray.empty) = false := decide_eq_false (fun e => by rw [e] at h1; exact absurd h1 (by decide))
  have e2 : decide ((⟨s.data.toList.toArray⟩ : ByteArray) = s) = true := decide_eq_true (by simp)
  rw [e1, e2]
  rfl
theorem num_no {s : ByteArray} (h : ¬ numP s) : (numM s).2 = false := by
  cases hm : (numM s).2 with
  | false => rfl
  | true =>
    exfalso
    apply h
    unfold numM at hm
    split at hm
    · cases hm
    next n hn =>
    simp only at hm
    unfold numOk at hm
    simp only [Bool.and_eq_true, Bool.not_eq_true', decide_eq_false_iff_not, decide_eq_true_eq] at hm
    obtain ⟨h0, h4, hi⟩ := hm
    have hd : digs s s.size := fun j hj => digs_run s.size 0 0 n (by omega) hn j (by omega) hj
    have hz : 1 ≤ s.size := by
      rcases Nat.eq_zero_or_pos s.size with e | e
      · exfalso
        apply h0
        obtain ⟨d⟩ := s
        have : d = #[] := Array.eq_empty_of_size_eq_zero e
        rw [this]
        rfl
      · exact e
    refine ⟨⟨hz, h4⟩, fun h1 h48 => ?_, hd⟩
    have hr := run_digs h4 hd s.size 0 s.size (by omega) (by omega) (by omega)
    rw [show ((valTo s 0 : Nat) : Int) = 0 from rfl, hn] at hr
    injection hr with hr
    rw [hr] at hi
    have hv : valTo s s.size < 10 ^ (s.size - 1) := by
      have key : ∀ k, k + 1 ≤ s.size → valTo s (k + 1) < 10 ^ k := by
        intro k
        induction k with
        | zero => intro _; rw [valTo, valTo]; unfold dig; rw [h48]; decide
        | succ k ih =>
          intro hk
          have h1 := ih (by omega)
          have h2 := hd (k + 1) (by omega)
          rw [valTo, Nat.pow_succ]
          have : dig s (k + 1) < 10 := by unfold dig; omega
          omega
      have := key (s.size - 1) (by omega)
      rwa [show s.size - 1 + 1 = s.size by omega] at this
    have hl := itoa_short (s.size - 1) (valTo s s.size) (by omega) hv
    have hsz : (Lib.itoa (valTo s s.size : Int)).length = s.size := by
      have := congrArg ByteArray.size hi
      rw [ByteArray.size_mk', List.size_toArray] at this
      exact this
    omega
def rnumM (s : ByteArray) : Int := if (numM s).2 = true then (numM s).1 else -1
set_option maxRecDepth 100000 in
set_option maxHeartbeats 16000000 in
theorem rnumber_calls (s : ByteArray) (hs : s.size ≤ 140737488351232) (w : World) :
    Calls Tryd.prog 57 #[.string s] w fun e w' => e = .returned (.int .i64 (rnumM s)) ∧ w' = w := by
  have HY := Lib.hid (fun h : numP s => show rnumM s = (valTo s s.size : Int) by unfold rnumM; rw [num_yes h, if_pos rfl])
  have HN := Lib.hid (fun h : ¬ numP s => show rnumM s = -1 by unfold rnumM; rw [num_no h, if_neg (by simp)])
  have hn9 : (s.size : Int) ≤ 140737488351232 := by omega
  have hn0 : (0 : Int) ≤ (s.size : Int) := Int.natCast_nonneg _
  go_enter Tryd.func57, Tryd.ntmps57
  by_cases c1 : s.size < 1
  · have HV := Lib.hid (HN.out (fun h => by have := h.1.1; omega))
    have c1i : (s.size : Int) < 1 := by omega
    clear c1
    go_wp2_with fail
    go_ret
    rw [HV.out]
    exact ⟨rfl, rfl⟩
  have c1i : ¬ (s.size : Int) < 1 := by omega
  by_cases c2 : 4 < s.size
  · have HV := Lib.hid (HN.out (fun h => by have := h.1.2; omega))
    have c2i : (4 : Int) < (s.size : Int) := by omega
    clear c1 c2
    go_wp2_with fail
    go_ret
    rw [HV.out]
    exact ⟨rfl, rfl⟩
  have c2i : ¬ (4 : Int) < (s.size : Int) := by omega
  have hp0 : 0 < s.size := by omega
  have hpi : (0 : Int) < (s.size : Int) := by omega
  obtain ⟨x, hx⟩ : ∃ x : Int, x = (bAt s 0 : Int) := ⟨_, rfl⟩
  have hb0 : ((s[0]'hp0).toNat : Int) = x := by rw [hx, bAt_eq s 0 hp0]
  have HX := Lib.hid hx
  clear hx
  by_cases c3 : 1 < s.size ∧ x = 48
  · have HV := Lib.hid (HN.out (fun h => h.2.1 c3.1 (by have := HX.out; omega)))
    obtain ⟨c3, rfl⟩ := c3
    have c3i : (1 : Int) < (s.size : Int) := by omega
    clear c1 c2 c3 HX
    go_wp2_with fail
    go_ret
    rw [HV.out]
    exact ⟨rfl, rfl⟩
  have HH := Lib.hid (show 1 < s.size → bAt s 0 ≠ 48 from fun h e => c3 ⟨h, by have := HX.out; omega⟩)
  have hsz : s.size ≤ 4 := by omega
  have hsz1 : 1 ≤ s.size := by omega
  have hq : ((1 : Int) < (s.size : Int) ∧ (x == 48) = false) ∨ ¬ (1 : Int) < (s.size : Int) := by
    by_cases e : 1 < s.size
    · left
      refine ⟨by omega, ?_⟩
      rw [beq_eq_false_iff_ne]
      exact fun e2 => c3 ⟨e, e2⟩
    · right; omega
  clear c1 c2 c3 HX
  rcases hq with ⟨q1, q2⟩ | q1
  · go_upto_region 5 with (fail)
    go_loop [3, 4] (fun u3 u4 => ∃ i : Nat, u4 = .int .i64 i ∧ u3 = .int .i64 (valTo s i) ∧ i ≤ s.size ∧ digs s i) (fun _ u => s.size - (intOf u).toNat)
    case atStart => exact ⟨0, rfl, rfl, Nat.zero_le _, fun j h => by omega⟩
    case round =>
      obtain ⟨i, rfl, rfl, hi, hd⟩ := hrel
      have HD := Lib.hid hd
      have hiz : (0 : Int) ≤ (i : Int) := Int.natCast_nonneg _
      clear hd
      by_cases hc : i < s.size
      · have hc' : (i : Int) < (s.size : Int) := by omega
        obtain ⟨c, hcx⟩ : ∃ c : Int, c = (bAt s i : Int) := ⟨_, rfl⟩
        have hbi : ((s[i]'hc).toNat : Int) = c := by rw [hcx, bAt_eq s i hc]
        have hc0 : 0 ≤ c ∧ c < 256 := by have := bAt_lt s i; omega
        have HC := Lib.hid hcx
        clear hcx
        by_cases t1 : c < 48
        · have HV := Lib.hid (HN.out (fun h => by have := h.2.2 i hc; have := HC.out; omega))
          go_wp2_with fail
          go_ret
          rw [HV.out]
          exact ⟨rfl, rfl⟩
        by_cases t2 : 57 < c
        · have HV := Lib.hid (HN.out (fun h => by have := h.2.2 i hc; have := HC.out; omega))
          go_wp2_with fail
          go_ret
          rw [HV.out]
          exact ⟨rfl, rfl⟩
        have HD2 := Lib.hid (show digs s (i + 1) from fun j h => by
          by_cases e : j = i
          · rw [e]; have := HC.out; omega
          · exact HD.out j (by omega))
        have hv := val_lt (s := s) (i := i) HD.out
        have hv4 : valTo s i < 10000 := Nat.lt_of_lt_of_le hv (Nat.pow_le_pow_right (by decide) (show i ≤ 4 by omega))
        have HVN := Lib.hid (show (valTo s (i + 1) : Int) = (valTo s i : Int) * 10 + (c - 48) by
          rw [valTo]
          unfold dig
          have := HC.out
          omega)
        obtain ⟨v, hvv⟩ : ∃ v, v = valTo s i := ⟨_, rfl⟩
        rw [← hvv] at HVN hv4 ⊢
        have hvz : (0 : Int) ≤ (v : Int) := Int.natCast_nonneg _
        obtain ⟨hc00, hc01⟩ := hc0
        clear hv hvv HC
        go_wp2_with fail
        go_round
        case rel => exact ⟨i + 1, by go_num, by rw [HVN.out], by omega, HD2.out⟩
        case measure => simp [intOf] <;> omega
      · have he : i = s.size := by omega
        have HV := Lib.hid (HY.out ⟨⟨hsz1, hsz⟩, HH.out, by rw [← he]; exact HD.out⟩)
        have hc' : ¬ (i : Int) < (s.size : Int) := by omega
        rw [← he] at HV
        clear hc he
        go_wp2_with fail
        go_ret
        rw [HV.out]
        exact ⟨rfl, rfl⟩
  · go_upto_region 5 with (fail)
    go_loop [3, 4] (fun u3 u4 => ∃ i : Nat, u4 = .int .i64 i ∧ u3 = .int .i64 (valTo s i) ∧ i ≤ s.size ∧ digs s i) (fun _ u => s.size - (intOf u).toNat)
    case atStart => exact ⟨0, rfl, rfl, Nat.zero_le _, fun j h => by omega⟩
    case round =>
      obtain ⟨i, rfl, rfl, hi, hd⟩ := hrel
      have HD := Lib.hid hd
      have hiz : (0 : Int) ≤ (i : Int) := Int.natCast_nonneg _
      clear hd
      by_cases hc : i < s.size
      · have hc' : (i : Int) < (s.size : Int) := by omega
        obtain ⟨c, hcx⟩ : ∃ c : Int, c = (bAt s i : Int) := ⟨_, rfl⟩
        have hbi : ((s[i]'hc).toNat : Int) = c := by rw [hcx, bAt_eq s i hc]
        have hc0 : 0 ≤ c ∧ c < 256 := by have := bAt_lt s i; omega
        have HC := Lib.hid hcx
        clear hcx
        by_cases t1 : c < 48
        · have HV := Lib.hid (HN.out (fun h => by have := h.2.2 i hc; have := HC.out; omega))
          go_wp2_with fail
          go_ret
          rw [HV.out]
          exact ⟨rfl, rfl⟩
        by_cases t2 : 57 < c
        · have HV := Lib.hid (HN.out (fun h => by have := h.2.2 i hc; have := HC.out; omega))
          go_wp2_with fail
          go_ret
          rw [HV.out]
          exact ⟨rfl, rfl⟩
        have HD2 := Lib.hid (show digs s (i + 1) from fun j h => by
          by_cases e : j = i
          · rw [e]; have := HC.out; omega
          · exact HD.out j (by omega))
        have hv := val_lt (s := s) (i := i) HD.out
        have hv4 : valTo s i < 10000 := Nat.lt_of_lt_of_le hv (Nat.pow_le_pow_right (by decide) (show i ≤ 4 by omega))
        have HVN := Lib.hid (show (valTo s (i + 1) : Int) = (valTo s i : Int) * 10 + (c - 48) by
          rw [valTo]
          unfold dig
          have := HC.out
          omega)
        obtain ⟨v, hvv⟩ : ∃ v, v = valTo s i := ⟨_, rfl⟩
        rw [← hvv] at HVN hv4 ⊢
        have hvz : (0 : Int) ≤ (v : Int) := Int.natCast_nonneg _
        obtain ⟨hc00, hc01⟩ := hc0
        clear hv hvv HC
        go_wp2_with fail
        go_round
        case rel => exact ⟨i + 1, by go_num, by rw [HVN.out], by omega, HD2.out⟩
        case measure => simp [intOf] <;> omega
      · have he : i = s.size := by omega
        have HV := Lib.hid (HY.out ⟨⟨hsz1, hsz⟩, HH.out, by rw [← he]; exact HD.out⟩)
        have hc' : ¬ (i : Int) < (s.size : Int) := by omega
        rw [← he] at HV
        clear hc he
        go_wp2_with fail
        go_ret
        rw [HV.out]
        exact ⟨rfl, rfl⟩
end Go.Proofs.YtkjhgfjlknbdkaaDoor

namespace Go.Proofs.YtkjhgfjlknbdkaaDoor
open Go.RowKit BigFrame Go.BigFrame

theorem rnum_cases (s : ByteArray) : ((numM s).2 = true ∧ (numM s).1 = rnumM s ∧ 0 ≤ rnumM s) ∨ ((numM s).2 = false ∧ rnumM s < 0) := by
  by_cases h : numP s
  · have h1 := num_yes h
    refine .inl ⟨by rw [h1], ?_, ?_⟩
    · unfold rnumM
      rw [h1]
      rfl
    · unfold rnumM
      rw [h1]
      exact Int.natCast_nonneg _
  · have h1 := num_no h
    refine .inr ⟨h1, ?_⟩
    unfold rnumM
    rw [h1]
    simp
/-- What a line with names says: nm names, one number. -/
structure LN (p : P3) (W : List ByteArray) (g : Nat → ByteArray) (nm n : Nat) (kd : Int) : Prop where
  n2 : n = nm + 2
  nm12 : nm = 1 ∨ nm = 2
  at_ : ∀ j, j < n → W[j]? = some (g j)
  k : (nm = 1 ∧ (g 0).toList = [115, 108, 111, 116]) ∨ (nm = 2 ∧ kd = 1 ∧ (g 0).toList = [99, 101, 108, 108]) ∨ (nm = 2 ∧ kd = 2 ∧ (g 0).toList = [112, 117, 109, 112])
  f0 : findD p.D (g 1) < 0 → lineM p W = (4, p)
  f1 : nm = 2 → findD p.D (g 2) < 0 → lineM p W = (4, p)
  bad : 0 ≤ findD p.D (g 1) → (nm = 2 → 0 ≤ findD p.D (g 2)) → rnumM (g (1 + nm)) < 0 → lineM p W = (2, p)
  ok1 : nm = 1 → 0 ≤ findD p.D (g 1) → 0 ≤ rnumM (g 2) → lineM p W = (0, ⟨p.D, p.S ++ [(findD p.D (g 1), rnumM (g 2))], p.K⟩)
  ok2 : nm = 2 → 0 ≤ findD p.D (g 1) → 0 ≤ findD p.D (g 2) → 0 ≤ rnumM (g 3) → lineM p W = (0, ⟨p.D, p.S, p.K ++ [⟨kd, findD p.D (g 1), findD p.D (g 2), rnumM (g 3)⟩]⟩)
theorem ln_slot {p : P3} {x1 x2 : ByteArray} : LN p [sSlot, x1, x2] (fun j => [sSlot, x1, x2].getD j ByteArray.empty) 1 3 0 := by
  have e : lineM p [sSlot, x1, x2] = (slotE p.D x1 x2, ⟨p.D, slotS p.D p.S x1 x2, p.K⟩) := by unfold lineM; exact if_pos rfl
  refine ⟨rfl, .inl rfl, ?_, .inl ⟨rfl, tl_lit _⟩, ?_, (fun h => by cases h), ?_, ?_, (fun h => by cases h)⟩
  · intro j hj
    match j, hj with
    | 0, _ => rfl
    | 1, _ => rfl
    | 2, _ => rfl
  · intro h
    have h' : findD p.D x1 < 0 := h
    have h4 : slotE p.D x1 x2 = 4 := by unfold slotE; rw [if_pos h']
    rw [e, slotS_bad h4 rfl, h4]
  · intro h _ h2
    have h' : ¬ findD p.D x1 < 0 := by have : 0 ≤ findD p.D x1 := h; omega
    have h2' : rnumM x2 < 0 := h2
    have h4 : slotE p.D x1 x2 = 2 := by
      unfold slotE numAll
      rcases rnum_cases x2 with ⟨_, _, h5⟩ | ⟨h5, _⟩
      · omega
      · rw [if_neg h']; simp [h5]
    rw [e, slotS_bad h4 rfl, h4]
  · intro _ h h2
    have h' : ¬ findD p.D x1 < 0 := by have : 0 ≤ findD p.D x1 := h; omega
    have h2' : 0 ≤ rnumM x2 := h2
    rcases rnum_cases x2 with ⟨h5, h6, _⟩ | ⟨_, h5⟩
    · have h4 : slotE p.D x1 x2 = 0 := by
        unfold slotE numAll
        rw [if_neg h']; simp [h5]
      rw [e, h4]
      unfold slotS
      rw [if_pos h4, h6]
      rfl
    · omega
theorem ln_link {p : P3} {x0 x1 x2 x3 : ByteArray} {kd : Int} (hk : (x0 = sCell ∧ kd = 1) ∨ (x0 = sPump ∧ kd = 2)) : LN p [x0, x1, x2, x3] (fun j => [x0, x1, x2, x3].getD j ByteArray.empty) 2 4 kd := by
  have e : lineM p [x0, x1, x2, x3] = (linkE p.D x1 x2 x3, ⟨p.D, p.S, linkK p.D p.K kd x1 x2 x3⟩) := by
    unfold lineM
    rcases hk with ⟨rfl, rfl⟩ | ⟨rfl, rfl⟩
    · exact if_pos rfl
    · exact (if_neg (by decide)).trans (if_pos rfl)
  refine ⟨rfl, .inr rfl, ?_, .inr ?_, ?_, ?_, ?_, (fun h => by cases h), ?_⟩
  · intro j hj
    match j, hj with
    | 0, _ => rfl
    | 1, _ => rfl
    | 2, _ => rfl
    | 3, _ => rfl
  · rcases hk with ⟨rfl, rfl⟩ | ⟨rfl, rfl⟩
    · exact .inl ⟨rfl, rfl, tl_lit _⟩
    · exact .inr ⟨rfl, rfl, tl_lit _⟩
  · intro h
    have h' : findD p.D x1 < 0 := h
    have h4 : linkE p.D x1 x2 x3 = 4 := by unfold linkE; rw [if_pos (.inl h')]
    rw [e, linkK_bad h4 rfl, h4]
  · intro _ h
    have h' : findD p.D x2 < 0 := h
    have h4 : linkE p.D x1 x2 x3 = 4 := by unfold linkE; rw [if_pos (.inr h')]
    rw [e, linkK_bad h4 rfl, h4]
  · intro h h1 h2
    have h' : ¬ (findD p.D x1 < 0 ∨ findD p.D x2 < 0) := by
      have a : 0 ≤ findD p.D x1 := h
      have b : 0 ≤ findD p.D x2 := h1 rfl
      omega
    have h2' : rnumM x3 < 0 := h2
    have h4 : linkE p.D x1 x2 x3 = 2 := by
      unfold linkE numAll
      rcases rnum_cases x3 with ⟨_, _, h5⟩ | ⟨h5, _⟩
      · omega
      · rw [if_neg h']; simp [h5]
    rw [e, linkK_bad h4 rfl, h4]
  · intro _ h h1 h2
    have h' : ¬ (findD p.D x1 < 0 ∨ findD p.D x2 < 0) := by
      have a : 0 ≤ findD p.D x1 := h
      have b : 0 ≤ findD p.D x2 := h1
      omega
    have h2' : 0 ≤ rnumM x3 := h2
    rcases rnum_cases x3 with ⟨h5, h6, _⟩ | ⟨_, h5⟩
    · have h4 : linkE p.D x1 x2 x3 = 0 := by
        unfold linkE numAll
        rw [if_neg h']; simp [h5]
      rw [e, h4]
      unfold linkK
      rw [if_pos h4, h6]
      rfl
    · omega
/-- A policy in rows of the call's own. -/
structure PW (B : Nat) (w : World) (vd vs vl : Value) (p : P3) : Prop where
  d : w.ownsRow B 37 6 vd p.D.length (p.D.flatMap Dm.cells)
  s : w.ownsRow B 39 2 vs p.S.length (p.S.flatMap slCells)
  k : w.ownsRow B 32 4 vl p.K.length (p.K.flatMap lkCells)
section
variable {B : Nat} {w w' : World} {vd vs vl a b c : Value} {p : P3} {rb : Nat}
theorem PW.pr (h : PW B w vd vs vl p) : PR w vd vs vl p := ⟨Reads.of_owns h.d, Reads.of_owns h.s, Reads.of_owns h.k⟩
theorem PW.below (h : PW B w vd vs vl p) (hb : Below w.heap.size w w') : PW B w' vd vs vl p :=
  ⟨owns_same h.d (fun k hk => hb.block k (h.d.lt k hk).2), owns_same h.s (fun k hk => hb.block k (h.s.lt k hk).2), owns_same h.k (fun k hk => hb.block k (h.k.lt k hk).2)⟩
theorem PW.set (h : PW B w vd vs vl p) (hx : BoxP rb a b c w) (i : Nat) (x : Value) : PW B (w.setCell ⟨rb, i, none⟩ x) vd vs vl p := by
  refine ⟨owns_same h.d (fun k hk => heap_setCell_other _ _ _ _ ?_), owns_same h.s (fun k hk => heap_setCell_other _ _ _ _ ?_), owns_same h.k (fun k hk => heap_setCell_other _ _ _ _ ?_)⟩
  · obtain ⟨cs, fr, hc⟩ := owns_type1 h.d hk
    exact types_apart1 hc hx (by decide)
  · obtain ⟨cs, fr, hc⟩ := owns_type1 h.s hk
    exact types_apart1 hc hx (by decide)
  · obtain ⟨cs, fr, hc⟩ := owns_type1 h.k hk
    exact types_apart1 hc hx (by decide)
theorem BoxP.set0 (hx : BoxP rb a b c w) (x : Value) : BoxP rb x b c (w.setCell ⟨rb, 0, none⟩ x) := by have := blk_set hx 0 x; unfold BoxP; simpa using this
theorem BoxP.set1 (hx : BoxP rb a b c w) (x : Value) : BoxP rb a x c (w.setCell ⟨rb, 1, none⟩ x) := by have := blk_set hx 1 x; unfold BoxP; simpa using this
theorem BoxP.set2 (hx : BoxP rb a b c w) (x : Value) : BoxP rb a b x (w.setCell ⟨rb, 2, none⟩ x) := by have := blk_set hx 2 x; unfold BoxP; simpa using this
theorem BoxP.put (hx : BoxP rb a b c w) (x y z : Value) : BoxP rb x y z (((w.setCell ⟨rb, 0, none⟩ x).setCell ⟨rb, 1, none⟩ y).setCell ⟨rb, 2, none⟩ z) := ((hx.set0 x).set1 y).set2 z
theorem PW.put (h : PW B w vd vs vl p) (hx : BoxP rb a b c w) (x y z : Value) : PW B (((w.setCell ⟨rb, 0, none⟩ x).setCell ⟨rb, 1, none⟩ y).setCell ⟨rb, 2, none⟩ z) vd vs vl p :=
  ((h.set hx 0 x).set (hx.set0 x) 1 y).set ((hx.set0 x).set1 y) 2 z
theorem below_put {w0 : World} (hb : Below w0.heap.size w0 w) (hr : w0.heap.size ≤ rb) (x y z : Value) : Below w0.heap.size w0 (((w.setCell ⟨rb, 0, none⟩ x).setCell ⟨rb, 1, none⟩ y).setCell ⟨rb, 2, none⟩ z) :=
  ((hb.setCell (p := ⟨rb, 0, none⟩) hr x).setCell (p := ⟨rb, 1, none⟩) hr y).setCell (p := ⟨rb, 2, none⟩) hr z
end
theorem results_cell_tmp1 {fn : Func} {p u : Tmp} {ty : TypeId} (h : fn.results = #[.cell p ty, .tmp u]) (tmps : Array Value) (P : Program) (w : World) :
    (results fn tmps).run P w =
      ((asAddr (tmps.getD p undef)).run P w).andThen fun a w₁ => ((loadVar ty a).run P w₁).andThen fun v w₂ => .ok (.tuple #[v, tmps.getD u undef]) w₂ := by
  simp only [results, h]
  simp [Sem.run_bind, Result.andThen]
set_option maxRecDepth 100000 in
theorem pol_ret4 {fn : Func} {p u : Tmp} (h : fn.results = #[.cell p 26, .tmp u]) (tmps : Array Value) (w : World) (b : Nat) (vd vs vl : Value) (hp : tmps.getD p undef = .pointer (some ⟨b, 0, none⟩)) (hb : w.heap[b]? = some (.cells #[vd, vs, vl] 26 (0, 0))) :
    (results fn tmps).run Tryd.prog w = .ok (.tuple #[.agg #[vd, vs, vl], tmps.getD u undef]) w := by
  rw [results_cell_tmp1 h, hp]
  show ((loadVar 26 ⟨b, 0, none⟩).run Tryd.prog w).andThen _ = _
  rw [pol_load hb]
  rfl
theorem one_boxes (w : World) (x y z : Value) : (BoxP w.heap.size x y z ((w.alloc (.cells #[x, y, z] 26)).alloc (.cells #[.slice none 0 0, .slice none 0 0, .slice none 0 0] 26)) ∧ BoxP (w.heap.size + 1) (.slice none 0 0) (.slice none 0 0) (.slice none 0 0) ((w.alloc (.cells #[x, y, z] 26)).alloc (.cells #[.slice none 0 0, .slice none 0 0, .slice none 0 0] 26))) ∧
    Below w.heap.size w ((w.alloc (.cells #[x, y, z] 26)).alloc (.cells #[.slice none 0 0, .slice none 0 0, .slice none 0 0] 26)) := by
  have h1 : BoxP w.heap.size x y z (w.alloc (.cells #[x, y, z] 26)) := heap_alloc_new w _
  have hs : (w.alloc (.cells #[x, y, z] 26)).heap.size = w.heap.size + 1 := by simp
  refine ⟨⟨h1.below (plus_one1 _ _), ?_⟩, (plus_one1 w _).trans ((plus_one1 _ _).mono (plus_one1 w _).size)⟩
  have h2 : BoxP (w.alloc (.cells #[x, y, z] 26)).heap.size (.slice none 0 0) (.slice none 0 0) (.slice none 0 0) ((w.alloc (.cells #[x, y, z] 26)).alloc (.cells #[.slice none 0 0, .slice none 0 0, .slice none 0 0] 26)) := heap_alloc_new _ _
  rw [hs] at h2
  exact h2
set_option maxRecDepth 100000 in
set_option maxHeartbeats 16000000 in
theorem rbad4_calls {B : Nat} {w : World} {vd vs vl vw : Value} {p : P3} {x0 : ByteArray} {W1 : List ByteArray} {n : Nat} (h : PW B w vd vs vl p) (hw : Reads w 1 vw n ((x0 :: W1).map Value.string)) (h1 : x0 = sDomain → n ≠ 6) (h2 : x0 = sSlot → n ≠ 3) (h3 : x0 = sCell → n ≠ 4) (h4 : x0 = sPump → n ≠ 4) :
    Calls Tryd.prog 32 #[.agg #[vd, vs, vl], vw] w fun e w' => ∃ vd' vs' vl', e = .returned (.tuple #[.agg #[vd', vs', vl'], .int .i64 (lineM p (x0 :: W1)).1]) ∧ PW B w' vd' vs' vl' (lineM p (x0 :: W1)).2 ∧ Below w.heap.size w w' := by
  have hlw : (x0 :: W1).length = n := by have := hw.1; simpa using this
  have HV := Lib.hid (lineM_bad (p := p) hlw h1 h2 h3 h4)
  obtain ⟨_, aw, cw, rfl, hw2, hw3, hw4⟩ := hw
  obtain ⟨bw, ow, rfl, hwc⟩ := hw4 (by rw [← hlw]; simp)
  unfold maxLen at hw3
  have k0 : w.cell? ⟨bw, ow, none⟩ = some (.string x0) := hwc 0 _ rfl
  have hn' : (1 : Int) ≤ (n : Int) := by have : 1 ≤ n := by rw [← hlw]; simp
                                         omega
  have t0 : (x0.toList = [100, 111, 109, 97, 105, 110] ∧ ¬ (n : Int) = 6) ∨ (x0.toList = [115, 108, 111, 116] ∧ ¬ (n : Int) = 3) ∨ (x0.toList = [99, 101, 108, 108] ∧ ¬ (n : Int) = 4) ∨ (x0.toList = [112, 117, 109, 112] ∧ ¬ (n : Int) = 4) ∨
      (¬ x0.toList = [100, 111, 109, 97, 105, 110] ∧ ¬ x0.toList = [115, 108, 111, 116] ∧ ¬ x0.toList = [99, 101, 108, 108] ∧ ¬ x0.toList = [112, 117, 109, 112]) := by
    by_cases e1 : x0.toList = [100, 111, 109, 97, 105, 110]
    · exact .inl ⟨e1, by have := h1 (tl_of (by rw [e1]; exact (tl_lit _).symm)); omega⟩
    by_cases e2 : x0.toList = [115, 108, 111, 116]
    · exact .inr (.inl ⟨e2, by have := h2 (tl_of (by rw [e2]; exact (tl_lit _).symm)); omega⟩)
    by_cases e3 : x0.toList = [99, 101, 108, 108]
    · exact .inr (.inr (.inl ⟨e3, by have := h3 (tl_of (by rw [e3]; exact (tl_lit _).symm)); omega⟩))
    by_cases e4 : x0.toList = [112, 117, 109, 112]
    · exact .inr (.inr (.inr (.inl ⟨e4, by have := h4 (tl_of (by rw [e4]; exact (tl_lit _).symm)); omega⟩)))
    exact .inr (.inr (.inr (.inr ⟨e1, e2, e3, e4⟩)))
  obtain ⟨ad, cd, rfl, d1, d2, _⟩ := owns_shape h.d
  obtain ⟨as', cs, rfl, s1, s2, _⟩ := owns_shape h.s
  obtain ⟨al, cl, rfl, l1, l2, _⟩ := owns_shape h.k
  have HP := Lib.hid h
  have HW := Lib.hid (block_lt_of_cell k0)
  clear hwc hw4 hlw h1 h2 h3 h4 h d1 d2 s1 s2 l1 l2
  go_enter Tryd.func32, Tryd.ntmps32
  have hbx := one_boxes w (.slice ad p.D.length cd) (.slice as' p.S.length cs) (.slice al p.K.length cl)
  go_upto_region 1 with (fail)
  obtain ⟨pb, hpb⟩ : ∃ pb, pb = w.heap.size := ⟨_, rfl⟩
  obtain ⟨rb, hrb⟩ : ∃ rb, rb = w.heap.size + 1 := ⟨_, rfl⟩
  have HPB := Lib.hid (show w.heap.size ≤ pb ∧ w.heap.size ≤ rb by omega)
  rw [← hrb, ← hpb] at hbx ⊢
  obtain ⟨⟨hx1, hx2⟩, hbw⟩ := hbx
  have HX1 := Lib.hid hx1
  have HX2 := Lib.hid hx2
  have HB2 := Lib.hid (show Below w.heap.size w _ by rw [hpb] at hbw; exact hbw)
  clear hbw hpb hrb hx1 hx2
  generalize (w.alloc (.cells #[.slice ad p.D.length cd, .slice as' p.S.length cs, .slice al p.K.length cl] 26)).alloc (.cells #[.slice none 0 0, .slice none 0 0, .slice none 0 0] 26) = w2 at HX1 HX2 HB2 ⊢
  have HP2 := Lib.hid (HP.out.below HB2.out)
  have k0' : w2.cell? ⟨bw, ow, none⟩ = some (.string x0) := below_cell1 HB2.out HW.out k0
  have e0 : w2.cell? ⟨pb, 0, none⟩ = some (.slice ad p.D.length cd) := blk_cell HX1.out 0
  have e1 : w2.cell? ⟨pb, 1, none⟩ = some (.slice as' p.S.length cs) := blk_cell HX1.out 1
  have e2 : w2.cell? ⟨pb, 2, none⟩ = some (.slice al p.K.length cl) := blk_cell HX1.out 2
  have r0 : w2.cell? ⟨rb, 0, none⟩ = some (.slice none 0 0) := blk_cell HX2.out 0
  have r1 : w2.cell? ⟨rb, 1, none⟩ = some (.slice none 0 0) := blk_cell HX2.out 1
  have r2 : w2.cell? ⟨rb, 2, none⟩ = some (.slice none 0 0) := blk_cell HX2.out 2
  have f0 : w2.frozen? ⟨rb, 0, none⟩ = false := blk_free HX2.out 0
  have f1 : w2.frozen? ⟨rb, 1, none⟩ = false := blk_free HX2.out 1
  have f2 : w2.frozen? ⟨rb, 2, none⟩ = false := blk_free HX2.out 2
  clear k0
  go_upto_block 0 with (fail)
  go_cut [6] (fun u wx => (∃ m : Nat, u = .int .i64 m ∧ ¬ (n : Int) = (m : Int)) ∧ wx = w2)
  case first => as_aux_lemma =>
    rcases t0 with ⟨t1, t2⟩ | ⟨t1, t2⟩ | ⟨t1, t2⟩ | ⟨t1, t2⟩ | ⟨t1, t2, t3, t4⟩
    · go_wp2_with fail
      go_meet
      exact ⟨⟨6, rfl, t2⟩, rfl⟩
    · go_wp2_with fail
      go_meet
      exact ⟨⟨3, rfl, t2⟩, rfl⟩
    · go_wp2_with fail
      go_meet
      exact ⟨⟨4, rfl, t2⟩, rfl⟩
    · go_wp2_with fail
      go_meet
      exact ⟨⟨4, rfl, t2⟩, rfl⟩
    · have u1 : (x0.toList == [100, 111, 109, 97, 105, 110]) = false := by simpa using t1
      have u2 : (x0.toList == [115, 108, 111, 116]) = false := by simpa using t2
      have u3 : (x0.toList == [99, 101, 108, 108]) = false := by simpa using t3
      have u4 : (x0.toList == [112, 117, 109, 112]) = false := by simpa using t4
      go_wp2_with fail
      go_meet
      exact ⟨⟨0, rfl, by omega⟩, rfl⟩
  case rest =>
  obtain ⟨⟨m, rfl, hm⟩, rfl⟩ := hcut
  go_wp2_with fail
  refine bodyPost_ret (pol_ret4 rfl _ _ rb _ _ _ rfl (HX2.out.put _ _ _)) rfl ?_
  rw [HV.out]
  exact ⟨_, _, _, rfl, HP2.out.put HX2.out _ _ _, below_put HB2.out HPB.out.2 _ _ _⟩
end Go.Proofs.YtkjhgfjlknbdkaaDoor

namespace Go.Proofs.YtkjhgfjlknbdkaaDoor
open Go.RowKit BigFrame Go.BigFrame

theorem name_wp {P : Program} {c : Code} {Q : Exit → Act → World → Prop} {a : Act} {W' : World} (h : ∀ W, W = W' → c.wp P Q a W) : c.wp P Q a W' := h _ rfl
theorem owns_emptyK {k : Nat} (w : World) {B : Nat} {E : TypeId} (hB : B ≤ w.heap.size) : (w.alloc (.cells #[] E)).ownsRow B E k (.slice (some ⟨w.heap.size, 0, none⟩) 0 0) 0 [] :=
  ⟨by simp, .inr ⟨w.heap.size, 0, #[], rfl, hB, heap_alloc_new w _, Nat.le_refl _, Nat.zero_le _, by simp, by simp⟩⟩
theorem owns_emptyE {k : Nat} (w : World) {B k0 : Nat} {E : TypeId} (hk : w.heap.size = k0) (hB : B ≤ w.heap.size) : (w.alloc (.cells #[] E)).ownsRow B E k (.slice (some ⟨k0, 0, none⟩) 0 0) 0 [] := by
  subst hk
  exact owns_emptyK w hB
theorem row_one {k : Nat} (w : World) (l : List Value) (E : TypeId) (hk : l.length = k) (_ : 0 < k) : Reads (w.alloc (.cells l.toArray E)) k (.slice (some ⟨w.heap.size, 0, none⟩) 1 1) 1 l := by
  refine ⟨by omega, _, _, rfl, Nat.le_refl _, by unfold maxLen; omega, fun _ => ⟨_, _, rfl, fun j u hj => ?_⟩⟩
  rw [Nat.zero_add, blk_cell (heap_alloc_new w _)]
  simpa using hj
theorem owns_sh {w : World} {B : Nat} {e : TypeId} {size : Nat} {v : Value} {n : Nat} {xs : List Value} (h : w.ownsRow B e size v n xs) : v = .slice none 0 0 ∨ ∃ bl o n c, v = .slice (some ⟨bl, o, none⟩) n c := by
  rcases h.2 with ⟨rfl, _⟩ | ⟨g, cap, cur, rfl, _⟩
  · exact .inl rfl
  · exact .inr ⟨_, _, _, _, rfl⟩
theorem flat_ones {α : Type} (L : List α) (f : α → List Value) (h : ∀ d, ∀ u ∈ f d, u.oneCell' = true) : ∀ u ∈ L.flatMap f, u.oneCell' = true := by
  intro u hu
  obtain ⟨d, _, hd⟩ := List.mem_flatMap.1 hu
  exact h d u hd
/-- The boxes of the walk. -/
structure S4 (w : World) (pb rb hb : Nat) (vd vs vl : Value) (a b : Int) (wx : World) : Prop where
  bl : Below w.heap.size w wx
  x : BoxP pb vd vs vl wx
  y : BoxP rb (.slice none 0 0) (.slice none 0 0) (.slice none 0 0) wx
  c : wx.heap[hb]? = some (.cells #[.int .i64 a, .int .i64 b] 3 (0, 0))
section
variable {w w' wx w2 : World} {pb rb hb : Nat} {vd vs vl : Value} {a b : Int}
theorem S4.below (h : S4 w pb rb hb vd vs vl a b wx) (hw : Below wx.heap.size wx w') : S4 w pb rb hb vd vs vl a b w' :=
  ⟨h.bl.trans (hw.mono h.bl.size), h.x.below hw, h.y.below hw, (hw.block _ (lt_of_block h.c)).trans h.c⟩
theorem S4.start (hw : Below w.heap.size w w2) (h1 : BoxP pb vd vs vl w2) (h2 : BoxP rb (.slice none 0 0) (.slice none 0 0) (.slice none 0 0) w2) : S4 w pb rb w2.heap.size vd vs vl 0 0 (w2.alloc (.cells #[.int .i64 0, .int .i64 0] 3)) :=
  ⟨hw.trans ((plus_one1 w2 _).mono hw.size), h1.below (plus_one1 w2 _), h2.below (plus_one1 w2 _), heap_alloc_new w2 _⟩
theorem S4.set0 (h : S4 w pb rb hb vd vs vl a b wx) (hw : w.heap.size ≤ hb) (x : Int) : S4 w pb rb hb vd vs vl x b (wx.setCell ⟨hb, 0, none⟩ (.int .i64 x)) :=
  ⟨h.bl.setCell (p := ⟨hb, 0, none⟩) hw _, (heap_setCell_other _ _ _ _ (fun e => types_apart1 h.x h.c (by decide) e)).trans h.x, (heap_setCell_other _ _ _ _ (fun e => types_apart1 h.y h.c (by decide) e)).trans h.y, by have := blk_set h.c 0 (.int .i64 x); simpa using this⟩
theorem S4.set1 (h : S4 w pb rb hb vd vs vl a b wx) (hw : w.heap.size ≤ hb) (x : Int) : S4 w pb rb hb vd vs vl a x (wx.setCell ⟨hb, 1, none⟩ (.int .i64 x)) :=
  ⟨h.bl.setCell (p := ⟨hb, 1, none⟩) hw _, (heap_setCell_other _ _ _ _ (fun e => types_apart1 h.x h.c (by decide) e)).trans h.x, (heap_setCell_other _ _ _ _ (fun e => types_apart1 h.y h.c (by decide) e)).trans h.y, by have := blk_set h.c 1 (.int .i64 x); simpa using this⟩
theorem S4.grow (h : S4 w pb rb hb vd vs vl a b wx) {o : Obj} {v : Value} {n : Nat} {xs : List Value} (gr : (wx.alloc o).grownBy w' v.ownBlock) (hown : wx.ownsRow w.heap.size 3 1 v n xs) (hne : v.ownBlock ≠ some hb) : S4 w pb rb hb vd vs vl a b w' := by
  have h1 := h.below (plus_one1 wx o)
  refine ⟨h1.bl.grown gr h1.bl.size (fun k hk => (hown.lt k hk).1), (gr.block _ (lt_of_block h1.x) (fun e => ?_)).trans h1.x, (gr.block _ (lt_of_block h1.y) (fun e => ?_)).trans h1.y, (gr.block _ (lt_of_block h1.c) (fun e => hne e.symm)).trans h1.c⟩
  · obtain ⟨_, _, hc⟩ := owns_type1 hown e.symm
    exact types_apart1 hc h.x (by decide) rfl
  · obtain ⟨_, _, hc⟩ := owns_type1 hown e.symm
    exact types_apart1 hc h.y (by decide) rfl
end
end Go.Proofs.YtkjhgfjlknbdkaaDoor
