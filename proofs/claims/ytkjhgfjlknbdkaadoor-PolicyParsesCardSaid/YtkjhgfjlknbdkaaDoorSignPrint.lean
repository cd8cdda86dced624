/- What label.Good, the document's Good, and sign.Print do. Conditions: numbers are int64s. -/
import Derived.Test.YtkjhgfjlknbdkaaDoorSign
import Derived.Test.YtkjhgfjlknbdkaaDoorSb
import Derived.Test.YtkjhgfjlknbdkaaDoorShelf
import Derived.Deep.CutBlock
import Derived.Deep.LoopGhost
namespace Go.Proofs.YtkjhgfjlknbdkaaDoor
open Go.RowKit

set_option maxHeartbeats 1000000 in
theorem good_calls (l c : Int) (w : World) :
    Calls Tryd.prog 13 #[lab l c] w fun e w' => e = .returned (.bool (goodL l c)) ∧ Below w.heap.size w w' := by
  have H := Lib.hid (show goodL l c = decide (0 ≤ l ∧ l ≤ 7 ∧ 0 ≤ c ∧ c < 65536) from rfl)
  unfold lab
  go_enter Tryd.func13, Tryd.ntmps13
  by_cases a : 0 ≤ l
  · by_cases b : l ≤ 7
    · by_cases d : 0 ≤ c
      · by_cases e : c < 65536
        · go_wp2_with fail
          go_ret
          exact ⟨by rw [H.out, decide_eq_true ⟨a, b, d, e⟩]; rfl, (Below.refl _ _).alloc (Nat.le_refl _) _⟩
        · go_wp2_with fail
          go_ret
          exact ⟨by rw [H.out, decide_eq_false (by omega)]; rfl, (Below.refl _ _).alloc (Nat.le_refl _) _⟩
      · go_wp2_with fail
        go_ret
        exact ⟨by rw [H.out, decide_eq_false (by omega)]; rfl, (Below.refl _ _).alloc (Nat.le_refl _) _⟩
    · go_wp2_with fail
      go_ret
      exact ⟨by rw [H.out, decide_eq_false (by omega)]; rfl, (Below.refl _ _).alloc (Nat.le_refl _) _⟩
  · go_wp2_with fail
    go_ret
    exact ⟨by rw [H.out, decide_eq_false (by omega)]; rfl, (Below.refl _ _).alloc (Nat.le_refl _) _⟩

/-- Bit n of a number's 64. -/
def bitU (x : Int) (n : Nat) : Bool := decide (x % 18446744073709551616 / 2 ^ n % 2 = 1)
set_option maxHeartbeats 1000000 in
theorem bit_calls (x : Int) (n : Nat) (_x0 : -9223372036854775808 ≤ x) (_x1 : x ≤ 9223372036854775807) (hn : n < 64) (w : World) :
    Calls Tryd.prog 46 #[.int .i64 x, .int .i64 n] w fun e w' => e = .returned (.bool (bitU x n)) ∧ w' = w := by
  have H := Lib.hid (show bitU x n = decide (x % 18446744073709551616 / 2 ^ n % 2 = 1) from rfl)
  have hn0 : (0 : Int) ≤ (n : Int) := Int.natCast_nonneg _
  have hn1 : (n : Int) < 64 := by omega
  go_enter Tryd.func46, Tryd.ntmps46
  go_wp2
  go_ret
  refine ⟨?_, rfl⟩
  rw [H.out]
  show Ending.returned (Value.bool (bits BinOp.and IntKind.u64 (IntKind.u64.wrap x / 2 ^ n) 1 == 1)) = _
  rw [IntKind.wrap_u64]
  obtain ⟨N, hN⟩ : ∃ N : Nat, x % 18446744073709551616 = N := ⟨(x % 18446744073709551616).toNat, by omega⟩
  rw [hN]
  have hdiv : (N : Int) / 2 ^ n = ((N / 2 ^ n : Nat) : Int) := by simp
  have hlt : N / 2 ^ n ≤ N := Nat.div_le_self _ _
  rw [hdiv]
  have h1 := bits_and_u64_nat (N / 2 ^ n) 1 (by omega) (by omega)
  rw [show ((1 : Nat) : Int) = 1 from rfl] at h1
  rw [h1, Nat.and_one_is_mod]
  have h2 : (((N / 2 ^ n % 2 : Nat) : Int) == 1) = decide (((N / 2 ^ n : Nat) : Int) % 2 = 1) := by
    rw [show ((N / 2 ^ n : Nat) : Int) % 2 = ((N / 2 ^ n % 2 : Nat) : Int) by simp]
    rfl
  rw [h2]
theorem bits_small {c : Int} (x0 : -9223372036854775808 ≤ c) (x1 : c ≤ 9223372036854775807) : (∀ j : Nat, 16 ≤ j → j < 64 → bitU c j = false) ↔ 0 ≤ c ∧ c < 65536 := by
  obtain ⟨N, hN⟩ : ∃ N : Nat, c % 18446744073709551616 = N := ⟨(c % 18446744073709551616).toNat, by omega⟩
  have hlt : N < 2 ^ 64 := by omega
  have ht : ∀ j, bitU c j = N.testBit j := by
    intro j
    unfold bitU
    rw [hN, Nat.testBit_eq_decide_div_mod_eq]
    have : (N : Int) / 2 ^ j % 2 = ((N / 2 ^ j % 2 : Nat) : Int) := by simp
    rw [this]
    congr 1
    exact propext ⟨fun h => by omega, fun h => by omega⟩
  constructor
  · intro h
    have hs : N < 2 ^ 16 := by
      apply Nat.lt_pow_two_of_testBit
      intro i hi
      by_cases h6 : i < 64
      · rw [← ht]; exact h i hi h6
      · exact Nat.testBit_lt_two_pow (Nat.lt_of_lt_of_le hlt (Nat.pow_le_pow_right (by decide) (by omega)))
    omega
  · rintro ⟨h0, h1⟩ j hj _
    rw [ht]
    exact Nat.testBit_lt_two_pow (Nat.lt_of_lt_of_le (show N < 2 ^ 16 by omega) (Nat.pow_le_pow_right (by decide) hj))
set_option maxHeartbeats 2000000 in
theorem rgood_calls (l c : Int) (x0 : -9223372036854775808 ≤ c) (x1 : c ≤ 9223372036854775807) (w : World) :
    Calls Tryd.prog 27 #[lab l c] w fun e w' => e = .returned (.bool (goodL l c)) ∧ Below w.heap.size w w' := by
  have H := Lib.hid (show goodL l c = decide (0 ≤ l ∧ l ≤ 7 ∧ 0 ≤ c ∧ c < 65536) from rfl)
  have HB := Lib.hid (bits_small x0 x1)
  unfold lab
  go_enter Tryd.func27, Tryd.ntmps27
  go_wp2_with fail
  go_loopw [3] (fun v wr => ∃ n : Nat, v = .int .i64 n ∧ 16 ≤ n ∧ n ≤ 64 ∧ wr = w.alloc (.cells #[.int .i64 l, .int .i64 c] 35) ∧ ∀ j : Nat, 16 ≤ j → j < n → bitU c j = false) (fun v _ => 64 - (intOf v).toNat)
  case atStart => exact ⟨16, rfl, Nat.le_refl _, by omega, rfl, fun j h1 h2 => by omega⟩
  case round =>
    obtain ⟨n, rfl, h16, h64, rfl, hall⟩ := hrel
    have HA := Lib.hid hall
    clear hall
    by_cases hn : n < 64
    · have hn1 : (n : Int) < 64 := by omega
      have hn0 : (0 : Int) ≤ (n : Int) := Int.natCast_nonneg _
      have hbit := fun u : World => bit_calls c n x0 x1 hn u
      obtain ⟨t, ht⟩ : ∃ t, t = bitU c n := ⟨_, rfl⟩
      rw [← ht] at hbit
      have HT := Lib.hid ht
      clear ht
      cases t
      · go_wp2_with (go_at_call 46; refine (hbit _).mono ?_; rintro e w' ⟨rfl, rfl⟩)
        go_roundw
        case rel =>
          refine ⟨n + 1, by go_num, by omega, by omega, by first | rfl | trivial, fun j h1 h2 => ?_⟩
          by_cases hj : j = n
          · rw [hj]; exact HT.out.symm
          · exact HA.out j h1 (by omega)
        case measure => simp [intOf]; omega
      · go_wp2_with (go_at_call 46; refine (hbit _).mono ?_; rintro e w' ⟨rfl, rfl⟩)
        go_ret
        refine ⟨?_, (Below.refl _ _).alloc (Nat.le_refl _) _⟩
        rw [H.out, decide_eq_false (fun h => by
          have h3 := HB.out.2 ⟨h.2.2.1, h.2.2.2⟩ n h16 hn
          rw [← HT.out] at h3
          cases h3)]
        rfl
    · have hn1 : ¬ (n : Int) < 64 := by omega
      have hc : 0 ≤ c ∧ c < 65536 := HB.out.1 (fun j h1 h2 => HA.out j h1 (by omega))
      have HC := Lib.hid hc
      clear hc
      by_cases a : 0 ≤ l
      · by_cases b : l < 8
        · go_wp2_with fail
          go_ret
          exact ⟨by rw [H.out, decide_eq_true ⟨a, by omega, HC.out⟩]; rfl, (Below.refl _ _).alloc (Nat.le_refl _) _⟩
        · go_wp2_with fail
          go_ret
          exact ⟨by rw [H.out, decide_eq_false (by omega)]; rfl, (Below.refl _ _).alloc (Nat.le_refl _) _⟩
      · go_wp2_with fail
        go_ret
        exact ⟨by rw [H.out, decide_eq_false (by omega)]; rfl, (Below.refl _ _).alloc (Nat.le_refl _) _⟩

def toB (l : List Nat) : List UInt8 := l.map UInt8.ofNat
def u8s (l : List Nat) : List Value := l.map (fun n : Nat => Value.int .u8 (n : Int))
theorem byteCells_toB {l : List Nat} (h : ∀ x ∈ l, x < 256) : Lib.byteCells (toB l) = u8s l := by
  unfold Lib.byteCells toB u8s
  rw [List.map_map]
  apply List.map_congr_left
  intro x hx
  have := h x hx
  simp
  omega
def textS (l c : Int) : ByteArray := ⟨(toB (textL l c)).toArray⟩
def printV (l c : Int) : ByteArray × Int := if goodL l c then (textS l c, 0) else (⟨#[]⟩, 3)
theorem gk_rune (n : Nat) (h : n < 16) : u8s (gk n) = [.int .u8 (192 + (945 + (n : Int)) / 64), .int .u8 (128 + (945 + (n : Int)) % 64)] := by
  unfold gk u8s
  split
  · simp; omega
  · simp; omega
theorem gk_small (n : Nat) (h : n < 16) : ∀ x ∈ gk n, x < 256 := by
  unfold gk
  split <;> simp <;> omega
theorem gk_len (n : Nat) : (gk n).length = 2 := by unfold gk; split <;> rfl

set_option maxRecDepth 100000 in
set_option maxHeartbeats 4000000 in
theorem signPrint_calls (l c : Int) (w : World) :
    Calls Tryd.prog 36 #[lab l c] w fun e w' => e = .returned (.tuple #[.string (printV l c).1, .int .i64 (printV l c).2]) ∧ Below w.heap.size w w' := by
  have hgood := fun u : World => good_calls l c u
  have HP := Lib.hid (show printV l c = if goodL l c then (textS l c, 0) else (⟨#[]⟩, 3) from rfl)
  by_cases hg : goodL l c = true
  · have hr : 0 ≤ l ∧ l ≤ 7 ∧ 0 ≤ c ∧ c < 65536 := by unfold goodL at hg; simpa using hg
    rw [hg] at hgood
    have HG := Lib.hid hg
    have HR := Lib.hid hr
    have hl0 := hr.1
    have hl7 := hr.2.1
    clear hr hg
    unfold lab at hgood ⊢
    go_enter Tryd.func36, Tryd.ntmps36
    go_wp2_with fail
    refine (hgood _).mono ?_
    rintro e w1 ⟨rfl, hb1⟩
    have hsz : w.heap.size < w1.heap.size := by have := hb1.size; simp at this; omega
    have hbx : w1.heap[w.heap.size]? = some (.cells #[.int .i64 l, .int .i64 c] 35 (0, 0)) := (hb1.block _ (by simp)).trans (heap_alloc_new w _)
    have hbel : Below w.heap.size w w1 := ((Below.refl _ _).alloc (Nat.le_refl _) _).trans (hb1.mono (by simp))
    clear hb1 hgood
    have c0 : w1.cell? ⟨w.heap.size, 0, none⟩ = some (.int .i64 l) := blk_cell hbx 0
    go_wp2_with fail
    refine (sbByte_calls w1.heap.size w1.heap.size [] (48 + l) _ (Lib.IsBuilderF.of (Lib.fresh_isBuilder 74 5 w1)) (by simp) (by simp)).mono ?_
    rintro e w2 ⟨rfl, hB2, hb2, -⟩
    have hs2 := hb2.size
    go_wp2_with fail
    refine (sbByte_calls w1.heap.size w1.heap.size _ 123 _ (.inr hB2) (by simp) (by simp at hs2; omega)).mono ?_
    rintro e w3 ⟨rfl, hB3, hb3, -⟩
    have hI3 : Lib.IsBuilderF 74 5 w1.heap.size w1.heap.size (u8s [(48 + l).toNat, 123]) w3 := by
      have e : ((48 + l).toNat : Int) = 48 + l := by omega
      refine .inr ?_
      simpa [u8s, e] using hB3
    have hb13 : Below w1.heap.size w1 w3 := ((Below.refl _ _).alloc (Nat.le_refl _) _).trans (hb2.trans hb3)
    clear hB2 hb2 hB3 hb3 hs2
    go_wp2_with fail
    go_loopw [15] (fun v wr => ∃ (n f : Nat) (acc : List Nat), v = .int .i64 n ∧ n + f = 16 ∧ Lib.IsBuilderF 74 5 w1.heap.size w1.heap.size (u8s acc) wr ∧ Below w1.heap.size w1 wr ∧ acc ++ (signsFrom c f n ++ [125]) = textL l c ∧ acc.length ≤ 2 + 2 * n ∧ ∀ x ∈ acc, x < 256) (fun v _ => 16 - (intOf v).toNat)
    case atStart => exact ⟨0, 16, [(48 + l).toNat, 123], rfl, rfl, hI3, hb13, rfl, by simp, by intro x hx; simp at hx; omega⟩
    case round =>
      obtain ⟨n, f, acc, rfl, hnf, hI, hbw, hacc, hlen, hsm⟩ := hrel
      have HA := Lib.hid hacc
      have HS := Lib.hid hsm
      clear hacc hsm hI3 hb13
      have hn0 : (0 : Int) ≤ (n : Int) := Int.natCast_nonneg _
      have hsz2 := hbw.size
      have hlu : (u8s acc).length = acc.length := by simp [u8s]
      by_cases hn : n < 16
      · have hn1 : (n : Int) < 16 := by omega
        obtain ⟨f, rfl⟩ : ∃ f', f = f' + 1 := ⟨f - 1, by omega⟩
        have c1 : wr.cell? ⟨w.heap.size, 1, none⟩ = some (.int .i64 c) := blk_cell ((hbw.block _ hsz).trans hbx) 1
        have hbits : bits BinOp.and IntKind.i64 (c / 2 ^ n) 1 = c / 2 ^ n % 2 := by
          have h := HR.out
          obtain ⟨N, rfl⟩ : ∃ N : Nat, c = N := ⟨c.toNat, by omega⟩
          have hdiv : (N : Int) / 2 ^ n = ((N / 2 ^ n : Nat) : Int) := by simp
          have hlt : N / 2 ^ n ≤ N := Nat.div_le_self _ _
          rw [hdiv]
          exact and_one _ (by omega)
        by_cases ht : testB c n
        · have h1 : bits BinOp.and IntKind.i64 (c / 2 ^ n) 1 = 1 := hbits.trans ht
          have HT := Lib.hid ht
          clear hbits ht
          go_wp2_with fail
          refine (sbRune2_calls w1.heap.size w1.heap.size (u8s acc) (945 + n) (by omega) (by omega) _ hI (by omega) hsz2).mono ?_
          rintro e w4 ⟨rfl, hB4, hb4, -⟩
          go_wp2_with fail
          go_roundw
          case rel =>
            refine ⟨n + 1, f, acc ++ gk n, by go_num, by omega, ?_, hbw.trans hb4, ?_, ?_, ?_⟩
            · refine .inr ?_
              have e : u8s (acc ++ gk n) = u8s acc ++ [.int .u8 (192 + (945 + (n : Int)) / 64), .int .u8 (128 + (945 + (n : Int)) % 64)] := by
                rw [← gk_rune n hn]
                simp [u8s]
              rw [e]
              exact hB4
            · rw [← HA.out, signsFrom_succ, if_pos HT.out]
              simp
            · rw [List.length_append, gk_len]
              omega
            · intro x hx
              rcases List.mem_append.1 hx with h | h
              · exact HS.out x h
              · exact gk_small n hn x h
          case measure => simp [intOf]; omega
        · have h1 : bits BinOp.and IntKind.i64 (c / 2 ^ n) 1 = 0 := by
            rw [hbits]
            unfold testB at ht
            omega
          have HT := Lib.hid ht
          clear hbits ht
          go_wp2_with fail
          go_roundw
          case rel =>
            refine ⟨n + 1, f, acc, by go_num, by omega, hI, hbw, ?_, by omega, HS.out⟩
            rw [← HA.out, signsFrom_succ, if_neg HT.out]
            rfl
          case measure => simp [intOf]; omega
      · obtain rfl : n = 16 := by omega
        obtain rfl : f = 0 := by omega
        go_wp2_with fail
        refine (sbByte_calls w1.heap.size w1.heap.size _ 125 _ hI (by omega) hsz2).mono ?_
        rintro e w4 ⟨rfl, hB4, hb4, -⟩
        have hT : acc ++ [125] = textL l c := HA.out
        have hall : ∀ x ∈ textL l c, x < 256 := by
          rw [← hT]
          intro x hx
          rcases List.mem_append.1 hx with h | h
          · exact HS.out x h
          · simp at h; omega
        have hI5 : Lib.IsBuilderF 74 5 w1.heap.size w1.heap.size (Lib.byteCells (toB (textL l c))) w4 := by
          rw [byteCells_toB hall, ← hT]
          refine .inr ?_
          simpa [u8s] using hB4
        clear hT hall hB4
        have hs4 := (hbw.trans hb4).size
        go_wp2_with fail
        refine (Tryd.Builder_String_any_k w1.heap.size w1.heap.size (toB (textL l c)) _ hI5 hs4).mono ?_
        rintro e w5 ⟨rfl, -, hb5, -⟩
        go_wp2_with fail
        go_ret2
        refine ⟨by rw [HP.out, HG.out]; rfl, ?_⟩
        exact hbel.trans (((hbw.trans hb4).trans hb5).mono (by omega))
  · have hg' : goodL l c = false := by simpa using hg
    rw [hg'] at hgood
    have HG := Lib.hid hg'
    clear hg hg'
    unfold lab at hgood ⊢
    go_enter Tryd.func36, Tryd.ntmps36
    go_wp2_with (go_at_call 13; refine (hgood _).mono ?_; rintro e w1 ⟨rfl, hb1⟩)
    go_ret2
    refine ⟨by rw [HP.out, HG.out]; rfl, ?_⟩
    exact ((Below.refl _ _).alloc (Nat.le_refl _) _).trans (hb1.mono (by simp))
end Go.Proofs.YtkjhgfjlknbdkaaDoor
