/- Numbers as words: what strconv.Atoi and Itoa say of each other; the digits of a word. Plain Lean, no program. No condition.
   The entries of a script as texts: what tale says. Plain Lean, no program. -/
import Derived.Test.YtbgpniepgbmkaaaDoorLin
import Derived.Test.YtbgpniepgbmkaaaDoorR3
import Derived.Lib.AtoiAll
import Derived.Lib.AtoiAllCases
import Derived.Lib.ItoaNum
import Derived.Lib.ItoaLen
namespace Go.Proofs.YtbgpniepgbmkaaaDoor
open Go.RowKit

theorem pu_app : ∀ (a : List UInt8) (acc : Nat) (c : UInt8), Lib.parseUint10 acc (a ++ [c]) = match Lib.parseUint10 acc a with
    | .ok m => Lib.parseUint10 m [c]
    | .syntax => .syntax
    | .range => .range
  | [], acc, c => rfl
  | b :: r, acc, c => by
    simp only [List.cons_append, Lib.parseUint10]
    split
    · split
      · rfl
      · split
        · rfl
        · rw [pu_app r _ c]
          rfl
    · rfl
theorem dg_nat (d : Nat) (h : d < 10) : (UInt8.ofNat (48 + d)).toNat = 48 + d := by
  rw [UInt8.toNat_ofNat']
  omega
theorem pu_dec : ∀ (n u : Nat), u < n → u < 18446744073709551616 → Lib.parseUint10 0 (Lib.decDigits u) = .ok u
  | 0, u, h, _ => by omega
  | n + 1, u, h, hu => by
    by_cases h10 : u < 10
    · rw [Lib.decDigits_one h10]
      simp only [Lib.parseUint10]
      rw [dg_nat u h10, if_pos (by omega), if_neg (by omega), if_neg (by omega)]
      congr 1
      omega
    · rw [Lib.decDigits, dif_neg h10, pu_app, pu_dec n (u / 10) (by omega) (by omega)]
      simp only [Lib.parseUint10]
      rw [dg_nat _ (Nat.mod_lt _ (by decide)), if_pos (by omega), if_neg (by omega), if_neg (by omega)]
      congr 1
      omega
theorem dec_ne (u : Nat) : Lib.decDigits u ≠ [] := by
  intro h
  have := Lib.decDigits_length u
  rw [h] at this
  have := Lib.nDigits_pos u
  simp at *
  omega
theorem dec_digit : ∀ (n u : Nat), u < n → ∀ c ∈ Lib.decDigits u, 48 ≤ c.toNat ∧ c.toNat ≤ 57
  | 0, u, h => by omega
  | n + 1, u, h => by
    intro c hc
    by_cases h10 : u < 10
    · rw [Lib.decDigits_one h10, List.mem_singleton] at hc
      rw [hc, dg_nat u h10]
      omega
    · rw [Lib.decDigits, dif_neg h10] at hc
      rcases List.mem_append.1 hc with hc | hc
      · exact dec_digit n (u / 10) (by omega) c hc
      · rw [List.mem_singleton] at hc
        rw [hc, dg_nat _ (Nat.mod_lt _ (by decide))]
        omega
theorem atoi_itoa (v : Int) (h0 : -9223372036854775808 ≤ v) (h1 : v ≤ 9223372036854775807) : Lib.atoiAll (Lib.itoa v) = .ok v := by
  unfold Lib.itoa
  by_cases hn : v < 0
  · rw [if_pos hn]
    have hm : Lib.parseMag (Lib.decDigits v.natAbs) = .ok v.natAbs := by
      unfold Lib.parseMag
      rw [if_neg (dec_ne _), pu_dec _ _ (Nat.lt_succ_self _) (by omega)]
    unfold Lib.atoiAll
    simp only [show (45 : UInt8).toNat = 45 from rfl, or_true, if_true, hm, not_true_eq_false, false_and, if_false, true_and]
    rw [if_neg (by omega)]
    congr 1
    omega
  · rw [if_neg hn]
    have hm : Lib.parseMag (Lib.decDigits v.toNat) = .ok v.toNat := by
      unfold Lib.parseMag
      rw [if_neg (dec_ne _), pu_dec _ _ (Nat.lt_succ_self _) (by omega)]
    cases hl : Lib.decDigits v.toNat with
    | nil => exact absurd hl (dec_ne _)
    | cons c r =>
      have hc := dec_digit _ _ (Nat.lt_succ_self v.toNat) c (by rw [hl]; simp)
      rw [hl] at hm
      have hg : ¬ (c.toNat = 43 ∨ c.toNat = 45) := by omega
      have hg2 : ¬ c.toNat = 45 := by omega
      unfold Lib.atoiAll
      show (match Lib.parseMag (if c.toNat = 43 ∨ c.toNat = 45 then r else c :: r) with | .syntax => Lib.NumEnd.syntax | .range => Lib.NumEnd.range | .ok u => if ¬ c.toNat = 45 ∧ 9223372036854775808 ≤ u then Lib.NumEnd.range else if c.toNat = 45 ∧ 9223372036854775808 < u then Lib.NumEnd.range else Lib.NumEnd.ok (if c.toNat = 45 then -(u : Int) else (u : Int))) = _
      rw [if_neg hg, hm]
      show (if ¬ c.toNat = 45 ∧ 9223372036854775808 ≤ v.toNat then Lib.NumEnd.range else if c.toNat = 45 ∧ 9223372036854775808 < v.toNat then Lib.NumEnd.range else Lib.NumEnd.ok (if c.toNat = 45 then -(v.toNat : Int) else (v.toNat : Int))) = _
      rw [if_neg (by omega), if_neg (by omega), if_neg hg2]
      congr 1
      omega
/-- The number that a word is; it is one, if it is written so. -/
def numT (s : ByteArray) : Option Int := match Lib.atoiAll s.data.toList with
  | .ok v => if Lib.itoa v = s.data.toList then some v else none
  | _ => none
theorem numT_of {s : ByteArray} {v : Int} (hv : i64B v) (h : Lib.itoa v = s.data.toList) : numT s = some v := by
  unfold numT
  rw [← h, atoi_itoa v hv.1 hv.2]
  exact if_pos rfl
theorem numT_some {s : ByteArray} {v : Int} (h : numT s = some v) : i64B v ∧ Lib.itoa v = s.data.toList := by
  unfold numT at h
  split at h
  · next u hu =>
    split at h
    · next hi =>
      injection h with h
      subst h
      exact ⟨Lib.atoiAll_bounds hu, hi⟩
    · cases h
  · cases h
theorem itoa_back {v : Int} (hv : i64B v) : numT ⟨(Lib.itoa v).toArray⟩ = some v := numT_of hv (by simp)
theorem itoa_inj {a b : Int} (ha : i64B a) (hb : i64B b) (h : Lib.itoa a = Lib.itoa b) : a = b := by
  have h1 := atoi_itoa a ha.1 ha.2
  rw [h, atoi_itoa b hb.1 hb.2] at h1
  injection h1 with h1
  exact h1.symm
theorem nDig19 {u : Nat} (h : u < 10000000000000000000) : Lib.nDigits u ≤ 19 := by
  rcases Nat.lt_or_ge u 10 with h1 | h1
  · rw [Lib.nDigits_small h1]; decide
  · have hb : ∀ (k n : Nat), n < 10 ^ (k + 1) → Lib.nDigits n ≤ k + 1 := by
      intro k
      induction k with
      | zero => intro n hn; rw [Lib.nDigits_small (by simpa using hn)]; decide
      | succ k ih =>
        intro n hn
        by_cases h10 : n < 10
        · rw [Lib.nDigits_small h10]; omega
        · rw [Lib.nDigits_big h10]
          have := ih (n / 10) (by rw [Nat.pow_succ] at hn; omega)
          omega
    refine hb 18 u (Nat.lt_of_lt_of_le h (Nat.le_of_eq ?_))
    decide
theorem itoa_len20 {v : Int} (hv : i64B v) : (Lib.itoa v).length ≤ 20 := by
  unfold i64B at hv
  unfold Lib.itoa
  split
  · rw [List.length_cons, Lib.decDigits_length]
    have := nDig19 (u := v.natAbs) (by omega)
    omega
  · rw [Lib.decDigits_length]
    have := nDig19 (u := v.toNat) (by omega)
    omega
theorem itoa_ne (v : Int) : Lib.itoa v ≠ [] := by
  unfold Lib.itoa
  split
  · simp
  · exact dec_ne _
theorem plain_digits : ∀ (l : List UInt8), l ≠ [] → (∀ c ∈ l, 33 ≤ c.toNat ∧ c.toNat ≤ 126 ∧ c.toNat ≠ 35) → plainB (l.map UInt8.toNat) = true
  | [], h, _ => absurd rfl h
  | [a], _, h => decide_eq_true (h a (by simp))
  | a :: b :: r, _, h => by
    have ha := h a (by simp)
    rw [List.map_cons, List.map_cons, plainB, if_pos ha]
    exact plain_digits (b :: r) (by simp) (fun c hc => h c (by simp [hc]))
theorem itoa_wordOk (v : Int) : wordOk (Lib.itoa v) := by
  refine ⟨itoa_ne v, plain_digits _ (itoa_ne v) (fun c hc => ?_)⟩
  unfold Lib.itoa at hc
  split at hc
  · rcases List.mem_cons.1 hc with rfl | hc
    · decide
    · have := dec_digit _ _ (Nat.lt_succ_self _) c hc
      omega
  · have := dec_digit _ _ (Nat.lt_succ_self _) c hc
    omega
/-- What a word's digits spell, up to i: the document's way. -/
def dvTo (s : ByteArray) : Nat → Nat
  | 0 => 0
  | i + 1 => if i = 0 ∧ bAt s 0 = 45 then 0 else dvTo s i * 10 + (bAt s i - 48)
def dvL (acc : Nat) (l : List UInt8) : Nat := l.foldl (fun a c => a * 10 + (c.toNat - 48)) acc
theorem dvL_nil (acc : Nat) : dvL acc [] = acc := rfl
theorem dvL_app (a : List UInt8) (acc : Nat) (c : UInt8) : dvL acc (a ++ [c]) = dvL acc a * 10 + (c.toNat - 48) := by
  unfold dvL
  rw [List.foldl_append]
  rfl
theorem dvL_dec : ∀ (n u : Nat), u < n → dvL 0 (Lib.decDigits u) = u
  | 0, u, h => by omega
  | n + 1, u, h => by
    by_cases h10 : u < 10
    · rw [Lib.decDigits_one h10, ← List.nil_append [UInt8.ofNat (48 + u)], dvL_app, dvL_nil, dg_nat u h10]
      omega
    · rw [Lib.decDigits, dif_neg h10, dvL_app, dvL_dec n (u / 10) (by omega), dg_nat _ (Nat.mod_lt _ (by decide))]
      omega
theorem bAt_get {s : ByteArray} {i : Nat} (hi : i < s.data.toList.length) : bAt s i = (s.data.toList[i]'hi).toNat := by
  obtain ⟨x, h1, h2⟩ := bAt_list (t := s) (p := i) (by simpa using hi)
  rw [List.getElem?_eq_getElem hi] at h1
  injection h1 with h1
  rw [h2, h1]
theorem dv_pos {s : ByteArray} (h0 : bAt s 0 ≠ 45) : ∀ i, i ≤ s.data.toList.length → dvTo s i = dvL 0 (s.data.toList.take i)
  | 0, _ => rfl
  | i + 1, hi => by
    rw [dvTo, if_neg (fun h => h0 h.2), dv_pos h0 i (by omega), List.take_add_one, List.getElem?_eq_getElem (by omega), Option.toList_some, dvL_app, bAt_get (by omega)]
theorem dv_neg {s : ByteArray} (h0 : bAt s 0 = 45) : ∀ i, i + 1 ≤ s.data.toList.length → dvTo s (i + 1) = dvL 0 ((s.data.toList.drop 1).take i)
  | 0, _ => by rw [dvTo, if_pos ⟨rfl, h0⟩]; rfl
  | i + 1, hi => by
    rw [dvTo, if_neg (by omega), dv_neg h0 i (by omega), List.take_add_one, List.getElem?_drop, List.getElem?_eq_getElem (by omega), Option.toList_some, dvL_app, bAt_get (by omega)]
    congr 3
    simp only [Nat.add_comm]
/-- What is known of a word that is a number. -/
theorem num_word {s : ByteArray} {v : Int} (h : numT s = some v) : 1 ≤ s.size ∧ s.size ≤ 20 ∧ (bAt s 0 = 45 ↔ v < 0) ∧ (∀ i, i < s.size → (i = 0 ∧ bAt s 0 = 45) ∨ (48 ≤ bAt s i ∧ bAt s i ≤ 57)) ∧ dvTo s s.size = v.natAbs := by
  obtain ⟨hv, hi⟩ := numT_some h
  have hlen : s.data.toList.length = s.size := by simp
  have h20 := itoa_len20 hv
  have hne := itoa_ne v
  rw [hi] at h20 hne
  have hpos : 0 < s.data.toList.length := List.length_pos_iff.2 hne
  rw [hlen] at h20 hpos
  unfold Lib.itoa at hi
  by_cases hn : v < 0
  · rw [if_pos hn] at hi
    have hb : bAt s 0 = 45 := by
      rw [bAt_get (by omega)]
      simp only [← hi]
      rfl
    refine ⟨hpos, h20, ⟨fun _ => hn, fun _ => hb⟩, fun i hl => ?_, ?_⟩
    · by_cases h0 : i = 0
      · exact .inl ⟨h0, hb⟩
      · refine .inr ?_
        rw [bAt_get (by omega)]
        obtain ⟨j, rfl⟩ : ∃ j, i = j + 1 := ⟨i - 1, by omega⟩
        have hj : j < (Lib.decDigits v.natAbs).length := by
          have := congrArg List.length hi
          rw [List.length_cons] at this
          omega
        have : (s.data.toList[j + 1]'(by omega)) = (Lib.decDigits v.natAbs)[j]'hj := by
          simp only [← hi]
          rfl
        rw [this]
        exact dec_digit _ _ (Nat.lt_succ_self _) _ (List.getElem_mem hj)
    · have := dv_neg hb (s.size - 1) (by omega)
      rw [show s.size - 1 + 1 = s.size by omega] at this
      rw [this, ← hi, List.drop_one, List.tail_cons, List.take_of_length_le (by have := congrArg List.length hi; rw [List.length_cons] at this; omega), dvL_dec _ _ (Nat.lt_succ_self _)]
  · rw [if_neg hn] at hi
    have hd : ∀ i, i < s.size → 48 ≤ bAt s i ∧ bAt s i ≤ 57 := fun i hl => by
      rw [bAt_get (by omega)]
      have hj : i < (Lib.decDigits v.toNat).length := by rw [hi]; omega
      have : (s.data.toList[i]'(by omega)) = (Lib.decDigits v.toNat)[i]'hj := by simp only [← hi]
      rw [this]
      exact dec_digit _ _ (Nat.lt_succ_self _) _ (List.getElem_mem hj)
    have hb : bAt s 0 ≠ 45 := by have := hd 0 hpos; omega
    refine ⟨hpos, h20, ⟨fun h => absurd h hb, fun h => absurd h hn⟩, fun i hl => .inr (hd i hl), ?_⟩
    rw [dv_pos hb s.size (by omega), ← hi, List.take_of_length_le (by have := congrArg List.length hi; omega), dvL_dec _ _ (Nat.lt_succ_self _)]
    omega
end Go.Proofs.YtbgpniepgbmkaaaDoor

namespace Go.Proofs.YtbgpniepgbmkaaaDoor
open Go.RowKit

structure En where
  kd : Int
  dom : Int
  pick : Int
  op : Int
  a : Int
  b : Int
  c : Int
  deriving DecidableEq
def enCells (x : En) : List Value := [.int .i64 x.kd, .int .i64 x.dom, .int .i64 x.pick, .int .i64 x.op, .int .i64 x.a, .int .i64 x.b, .int .i64 x.c]
def enVal (x : En) : Value := .agg #[.int .i64 x.kd, .int .i64 x.dom, .int .i64 x.pick, .int .i64 x.op, .int .i64 x.a, .int .i64 x.b, .int .i64 x.c]
def zE : En := ⟨0, 0, 0, 0, 0, 0, 0⟩
def tkE : En := ⟨1, 0, 0, 0, 0, 0, 0⟩
def opsB : List (List UInt8) := [[115, 112, 97, 119, 110], [101, 120, 105, 116], [121, 105, 101, 108, 100], [99, 108, 111, 99, 107], [110, 101, 119], [102, 114, 101, 101], [108, 111, 99, 107], [116, 114, 121], [117, 110, 108, 111, 99, 107], [108, 111, 99, 107, 102, 111, 114], [114, 108, 111, 99, 107], [116, 114, 121, 114], [114, 117, 110, 108, 111, 99, 107], [114, 108, 111, 99, 107, 102, 111, 114], [97, 99, 113, 117, 105, 114, 101], [116, 114, 121, 97, 99, 113, 117, 105, 114, 101], [114, 101, 108, 101, 97, 115, 101], [97, 99, 113, 117, 105, 114, 101, 102, 111, 114], [119, 97, 105, 116], [119, 97, 105, 116, 102, 111, 114], [115, 105, 103, 110, 97, 108], [98, 114, 111, 97, 100, 99, 97, 115, 116], [111, 110, 99, 101], [111, 110, 99, 101, 100, 111, 110, 101], [97, 100, 100], [99, 97, 110, 99, 101, 108], [119, 114, 105, 116, 101, 98, 101, 103, 105, 110], [119, 114, 105, 116, 101], [119, 114, 105, 116, 101, 101, 110, 100], [114, 101, 97, 100, 98, 101, 103, 105, 110], [114, 101, 97, 100], [114, 101, 97, 100, 101, 110, 100], [115, 101, 110, 100], [114, 101, 99, 118]]
def sTick : ByteArray := ⟨#[116, 105, 99, 107]⟩
def sDo : ByteArray := ⟨#[100, 111]⟩
def opIx (s : ByteArray) : Int := match opsB.findIdx? (fun x => decide (x = s.data.toList)) with | some i => i | none => -1
def numsT (x2 x4 x5 x6 : ByteArray) : Option (Int × Int × Int × Int) := match numT x2, numT x4, numT x5, numT x6 with
  | some a, some b, some c, some d => some (a, b, c, d)
  | _, _, _, _ => none
/-- A line's words: the entry, or the error. -/
def entM (D : List Dm) (W : List ByteArray) : En × Int := match W with
  | [x0] => if x0 = sTick then (tkE, 0) else (zE, 2)
  | [x0, x1, x2, x3, x4, x5, x6] => if x0 = sDo then (if findD D x1 < 0 then (zE, 4) else if opIx x3 < 0 then (zE, 2) else match numsT x2 x4 x5 x6 with
      | some (a, b, c, d) => (⟨2, findD D x1, a, 1 + opIx x3, b, c, d⟩, 0)
      | none => (zE, 2)) else (zE, 2)
  | _ => (zE, 2)
def readRun (D : List Dm) : Nat → List En → List Wd → List En × Int × Int
  | 0, out, _ => (out, 0, 0)
  | _ + 1, out, [] => (out, 0, 0)
  | f + 1, out, a :: L =>
    if (entM D (((a :: L).takeWhile (fun d => decide (d.ln = a.ln))).map Wd.tx)).2 = 0 then
      readRun D f (out ++ [(entM D (((a :: L).takeWhile (fun d => decide (d.ln = a.ln))).map Wd.tx)).1]) ((a :: L).dropWhile (fun d => decide (d.ln = a.ln)))
    else ([], a.ln, (entM D (((a :: L).takeWhile (fun d => decide (d.ln = a.ln))).map Wd.tx)).2)
def readT (p : P3) (s : ByteArray) : List En × Int × Int := if checkM p.D p.S p.K = 0 then (if (lexM s).2.1 = 0 then readRun p.D (lexM s).1.length [] (lexM s).1 else ([], (lexM s).2.2.1, (lexM s).2.1)) else ([], 0, checkM p.D p.S p.K)
/-- The words of an entry's line. -/
def wE (D : List Dm) (x : En) : List (List UInt8) := if x = tkE then [[116, 105, 99, 107]] else [[100, 111], nmAt D x.dom, Lib.itoa x.pick, opsB.getD (x.op - 1).toNat [], Lib.itoa x.a, Lib.itoa x.b, Lib.itoa x.c]
def okE (D : List Dm) (x : En) : Prop := x = tkE ∨ (x.kd = 2 ∧ 0 ≤ x.dom ∧ x.dom < D.length ∧ 1 ≤ x.op ∧ x.op ≤ 34)
instance (D : List Dm) (x : En) : Decidable (okE D x) := by unfold okE; infer_instance
def lnT (p : P3) (x : En) : ByteArray × Int := if checkM p.D p.S p.K = 0 then (if okE p.D x then (⟨(Lib.join (wE p.D x) [32]).toArray⟩, 0) else (⟨#[]⟩, 1)) else (⟨#[]⟩, checkM p.D p.S p.K)
/-- An entry's numbers are int64s. -/
def enB (x : En) : Prop := i64B x.kd ∧ i64B x.dom ∧ i64B x.pick ∧ i64B x.op ∧ i64B x.a ∧ i64B x.b ∧ i64B x.c
theorem ops_len : opsB.length = 34 := rfl
theorem ops_fin : ((List.range 34).all fun i => decide (opIx ⟨(opsB.getD i []).toArray⟩ = (i : Int)) && ((opsB.getD i []).all fun c => decide (33 ≤ c.toNat ∧ c.toNat ≤ 126 ∧ c.toNat ≠ 35)) && !(opsB.getD i []).isEmpty && decide ((opsB.getD i []).length ≤ 10)) = true := by kernel_rfl
theorem ops_at {op : Int} (h1 : 1 ≤ op) (h2 : op ≤ 34) : opIx ⟨(opsB.getD (op - 1).toNat []).toArray⟩ = op - 1 ∧ wordOk (opsB.getD (op - 1).toNat []) ∧ (opsB.getD (op - 1).toNat []).length ≤ 10 := by
  have h := List.all_eq_true.1 ops_fin (op - 1).toNat (List.mem_range.2 (by omega))
  simp only [Bool.and_eq_true, decide_eq_true_eq, List.all_eq_true] at h
  obtain ⟨⟨⟨h3, h4⟩, h5⟩, h6⟩ := h
  have hne : opsB.getD (op - 1).toNat [] ≠ [] := by
    intro e
    rw [e] at h5
    cases h5
  exact ⟨by rw [h3]; omega, ⟨hne, plain_digits _ hne h4⟩, h6⟩
theorem wE_ok {D : List Dm} {S : List (Int × Int)} {K : List Lk} (h : UpP D S K) {x : En} (hx : okE D x) : wE D x ≠ [] ∧ ∀ w ∈ wE D x, wordOk w := by
  unfold wE
  split
  · refine ⟨by simp, fun w hw => ?_⟩
    rw [List.mem_singleton] at hw
    subst hw
    exact ⟨by simp, rfl⟩
  · next hne =>
    rcases hx with hx | ⟨_, h0, h1, h2, h3⟩
    · exact absurd hx hne
    refine ⟨by simp, fun w hw => ?_⟩
    simp only [List.mem_cons, List.not_mem_nil, or_false] at hw
    rcases hw with rfl | rfl | rfl | rfl | rfl | rfl | rfl
    · exact ⟨by simp, rfl⟩
    · exact (nm_at h h0 h1).1
    · exact itoa_wordOk _
    · exact (ops_at h2 h3).2.1
    · exact itoa_wordOk _
    · exact itoa_wordOk _
    · exact itoa_wordOk _
theorem ent_line {D : List Dm} {S : List (Int × Int)} {K : List Lk} (h : UpP D S K) {x : En} (hx : okE D x) (hb : enB x) : entM D (wordsB (wE D x)) = (x, 0) := by
  unfold wE
  split
  · next e => rw [e]; rfl
  · next hne =>
    rcases hx with hx | ⟨hk, h0, h1, h2, h3⟩
    · exact absurd hx hne
    obtain ⟨_, _, b1, _, b2, b3, b4⟩ := hb
    obtain ⟨ho, _, _⟩ := ops_at h2 h3
    have hf := (nm_at h h0 h1).2
    show entM D [sDo, ⟨(nmAt D x.dom).toArray⟩, ⟨(Lib.itoa x.pick).toArray⟩, ⟨(opsB.getD (x.op - 1).toNat []).toArray⟩, ⟨(Lib.itoa x.a).toArray⟩, ⟨(Lib.itoa x.b).toArray⟩, ⟨(Lib.itoa x.c).toArray⟩] = (x, 0)
    unfold entM numsT
    simp only [if_true, itoa_back b1, itoa_back b2, itoa_back b3, itoa_back b4, hf, ho]
    rw [if_neg (by omega), if_neg (by omega)]
    obtain ⟨kd, dom, pick, op, a, b, c⟩ := x
    simp only at hk ⊢
    rw [hk, show 1 + (op - 1) = op by omega]
theorem lex_last (s : ByteArray) : ∀ (ws : List (List UInt8)), ws ≠ [] → (∀ w ∈ ws, wordOk w) → ∀ (pos f : Nat) (st : LS), rs s pos = Lib.join ws [32] → st.fr = -1 → st.re = false → s.size - pos ≤ f →
    ∃ T, lexRun s f pos st = (st.L ++ T, 0, 0, 0) ∧ T.map Wd.tx = ws.map (fun w => (⟨w.toArray⟩ : ByteArray)) ∧ ∀ d ∈ T, d.ln = st.ln
  | [], h0, _, _, _, _, _, _, _, _ => absurd rfl h0
  | [w], _, hw, pos, f, st, hrs, hfr, hre, hf => by
    obtain ⟨hw0, hwp⟩ := hw w (by simp)
    rw [Lib.join_one] at hrs
    have hrs1 : rs s pos = w ++ [] := by rw [List.append_nil]; exact hrs
    obtain ⟨co, ca, h1⟩ := lex_word s w.length w (Nat.le_refl _) pos f st [] hrs1 hwp hw0 hre hf
    have hl := rs_len s pos
    rw [hrs] at hl
    have hpos : 0 < w.length := List.length_pos_iff.2 hw0
    have hsz : s.size = pos + w.length := by omega
    rw [hfr, if_pos (by omega)] at h1
    refine ⟨[⟨⟨w.toArray⟩, st.ln, ca⟩], ?_, rfl, by simp⟩
    rw [h1, lexRun_end (by omega)]
    simp only
    rw [hsz, endL_word hrs1]
  | w :: w2 :: r, _, hw, pos, f, st, hrs, hfr, hre, hf => by
    obtain ⟨hw0, hwp⟩ := hw w (by simp)
    rw [join_two] at hrs
    obtain ⟨co, ca, h1⟩ := lex_word s w.length w (Nat.le_refl _) pos f st _ hrs hwp hw0 hre hf
    have hrs2 := rs_at hrs
    obtain ⟨hp, hd⟩ := char_dec (a := 32) hrs2 (by decide)
    have hrs3 := rs_at hrs2
    obtain ⟨f, rfl⟩ : ∃ f', f = f' + 1 := ⟨f - 1, by omega⟩
    rw [hfr, if_pos (by omega)] at h1
    have h2 := step_sp (f := f) (st := ⟨st.L, st.ln, co, (pos : Int), ca, false⟩) hp hd rfl
    simp only at h2
    rw [endL_word hrs] at h2
    rw [lex_fuel s f (f + 1) (pos + w.length + 1) _ (by omega) (by omega)] at h2
    obtain ⟨T, h3, h4, h5⟩ := lex_last s (w2 :: r) (by simp) (fun x hx => hw x (by simp [hx])) (pos + w.length + 1) (f + 1) ⟨st.L ++ [⟨⟨w.toArray⟩, st.ln, ca⟩], st.ln, co + 1, -1, ca, false⟩ hrs3 rfl rfl (by omega)
    simp only at h3 h5
    refine ⟨⟨⟨w.toArray⟩, st.ln, ca⟩ :: T, ?_, by rw [List.map_cons, h4]; rfl, fun d hd => ?_⟩
    · rw [h1, h2, h3, List.append_assoc, List.singleton_append]
    · rcases List.mem_cons.1 hd with rfl | hd
      · rfl
      · exact h5 d hd
theorem bsL_arr (l : List UInt8) : (⟨l.toArray⟩ : ByteArray).data.toList = l := by simp
/-- A line alone, read again. -/
theorem read_line {p : P3} (h : checkM p.D p.S p.K = 0) {x : En} (hx : okE p.D x) (hb : enB x) (hz : (Lib.join (wE p.D x) [32]).length ≤ 4096) : readT p ⟨(Lib.join (wE p.D x) [32]).toArray⟩ = ([x], 0, 0) := by
  obtain ⟨D, S, K⟩ := p
  have hu := check_all h
  obtain ⟨h0, hw⟩ := wE_ok hu hx
  obtain ⟨s, hs⟩ : ∃ s : ByteArray, s = ⟨(Lib.join (wE D x) [32]).toArray⟩ := ⟨_, rfl⟩
  have hsd : s.data.toList = Lib.join (wE D x) [32] := by rw [hs]
  have hsz : s.size ≤ 4096 := by rw [hs, ByteArray.size_mk', List.size_toArray]; exact hz
  obtain ⟨T, h1, h2, h3⟩ := lex_last s (wE D x) h0 hw 0 s.size ⟨[], 1, 0, -1, 0, false⟩ (by unfold rs; rw [List.drop_zero]; exact hsd) rfl rfl (by omega)
  have hl : lexM s = (T, 0, 0, 0) := by
    unfold lexM
    rw [if_neg (by omega), h1]
    rfl
  show readT ⟨D, S, K⟩ ⟨(Lib.join (wE D x) [32]).toArray⟩ = _
  rw [← hs]
  unfold readT
  rw [if_pos h, hl, if_pos rfl]
  have hT0 : T ≠ [] := by
    intro e
    rw [e] at h2
    exact h0 (by simpa using h2.symm)
  cases T with
  | nil => exact absurd rfl hT0
  | cons a T =>
    have hall : ∀ d ∈ a :: T, d.ln = a.ln := fun d hd => by rw [h3 d hd, h3 a (by simp)]
    obtain ⟨e1, e2, _⟩ := split_ln (a := a) (L := T) (T := a :: T) (R := []) (by simp) hall (.inl rfl)
    show readRun D (T.length + 1) [] (a :: T) = _
    rw [readRun, e1, e2, h2]
    have he := ent_line hu hx hb
    unfold wordsB at he
    rw [he, if_pos rfl]
    cases T.length <;> rfl
end Go.Proofs.YtbgpniepgbmkaaaDoor
