/- The words of a text whose lines are words with a space between them (lexM). Plain Lean, no program. No condition.
   A policy that may be comes back of its text (parseM of printL). Plain Lean, no program. No condition.
   A line that is none, put before any line of a policy's text (parseM). Plain Lean, no program. No condition. -/
import Derived.Test.YtbgpniepgbmkaaaDoorPar
import Derived.Lib.Join
import Derived.Test.YtbgpniepgbmkaaaDoorPrt3
namespace Go.Proofs.YtbgpniepgbmkaaaDoor

/-- The bytes from place i on. -/
def rs (s : ByteArray) (i : Nat) : List UInt8 := s.data.toList.drop i
theorem rs_bl (s : ByteArray) (i : Nat) : bl s i = (rs s i).map UInt8.toNat := by unfold bl rs; rw [List.map_drop]
theorem rs_len (s : ByteArray) (i : Nat) : (rs s i).length = s.size - i := by
  unfold rs
  rw [List.length_drop, Array.length_toList]
  rfl
theorem rs_at {s : ByteArray} {i : Nat} {a r : List UInt8} (h : rs s i = a ++ r) : rs s (i + a.length) = r := by
  unfold rs at *
  rw [← List.drop_drop, h, List.drop_left]
theorem rs_cons {s : ByteArray} {i : Nat} {a : UInt8} {r : List UInt8} (h : rs s i = a :: r) : i < s.size ∧ bAt s i = a.toNat ∧ rs s (i + 1) = r := by
  have hl : i < s.size := by
    have := rs_len s i
    rw [h, List.length_cons] at this
    omega
  refine ⟨hl, ?_, rs_at (a := [a]) h⟩
  have h1 := bl_cons s i hl
  rw [rs_bl, h, List.map_cons] at h1
  injection h1 with h1 _
  exact h1.symm
theorem rs_text {s : ByteArray} {i : Nat} {a r : List UInt8} (h : rs s i = a ++ r) : s.extract i (i + a.length) = ⟨a.toArray⟩ := by
  apply ByteArray.ext
  apply Array.toList_inj.1
  rw [ByteArray.data_extract, Array.toList_extract]
  unfold rs at h
  rw [List.extract_eq_take_drop, h, Nat.add_sub_cancel_left, List.take_left]
/-- Signs that may stand in a word. -/
def plainB : List Nat → Bool
  | [] => true
  | [a] => decide (33 ≤ a ∧ a ≤ 126 ∧ a ≠ 35)
  | a :: b :: r => if 33 ≤ a ∧ a ≤ 126 ∧ a ≠ 35 then plainB (b :: r) else if 0 ≤ greek a b then plainB r else false
theorem wd_pos {s : ByteArray} {pos : Nat} (hp : pos < s.size) : 1 ≤ (Utf8.decode s pos).2 := by
  rcases dec_cases s pos hp with h | h | h
  · rw [h.2]; exact Nat.le_refl _
  · rw [h.2.2.2.2]; omega
  · exact h.2.2.2.2
theorem lex_fuel (s : ByteArray) : ∀ (f f' pos : Nat) (st : LS), s.size - pos ≤ f → s.size - pos ≤ f' → lexRun s f pos st = lexRun s f' pos st
  | 0, f', pos, st, h, _ => by rw [lexRun_end (by omega), lexRun_end (by omega)]
  | f + 1, 0, pos, st, _, h => by rw [lexRun_end (by omega), lexRun_end (by omega)]
  | f + 1, f' + 1, pos, st, h, h' => by
    by_cases hp : pos < s.size
    · have := wd_pos hp
      rw [lexRun, lexRun, if_pos hp, if_pos hp]
      split
      · exact lex_fuel s f f' _ _ (by omega) (by omega)
      · split
        · rfl
        · exact lex_fuel s f f' _ _ (by omega) (by omega)
    · rw [lexRun_end hp, lexRun_end hp]
theorem step_in {s : ByteArray} {f pos c wd : Nat} {st : LS} (hp : pos < s.size) (hd : Utf8.decode s pos = (c, wd)) (h1 : 33 ≤ c) (h2 : c ≠ 127) (h3 : c ≠ 65533) (h4 : c ≠ 35) (hr : st.re = false) :
    ∃ co ca, lexRun s (f + 1) pos st = lexRun s f (pos + wd) ⟨st.L, st.ln, co, if st.fr < 0 then (pos : Int) else st.fr, ca, false⟩ := by
  obtain ⟨L, ln, co, fr, ca, re⟩ := st
  simp only at hr
  subst hr
  have hb : badR (c : Int) (s.extract pos s.size) = false := by
    unfold badR
    rw [decide_eq_false (by omega), show ((c : Int) == 127) = false by simpa using (by omega : (c : Int) ≠ 127), show ((c : Int) == 65533) = false by simpa using (by omega : (c : Int) ≠ 65533)]
    rfl
  have hc : cutB false (c : Int) = false := by
    unfold cutB
    rw [show ((c : Int) == 35) = false by simpa using (by omega : (c : Int) ≠ 35), show ((c : Int) == 32) = false by simpa using (by omega : (c : Int) ≠ 32)]
    rfl
  refine ⟨co + 1, nxC fr (co + 1) ca false c, ?_⟩
  rw [lexRun, if_pos hp, hd]
  simp only
  rw [if_neg (by omega), if_neg (by rw [hb]; simp)]
  simp only [nxL, nxF, hc, Bool.false_or, show ((c : Int) == 35) = false by simpa using (by omega : (c : Int) ≠ 35)]
  rfl
theorem step_sp {s : ByteArray} {f pos : Nat} {st : LS} (hp : pos < s.size) (hd : Utf8.decode s pos = (32, 1)) (hr : st.re = false) :
    lexRun s (f + 1) pos st = lexRun s f (pos + 1) ⟨endL st.L s st.ln st.fr st.ca pos, st.ln, st.co + 1, -1, st.ca, false⟩ := by
  obtain ⟨L, ln, co, fr, ca, re⟩ := st
  simp only at hr
  subst hr
  rw [lexRun, if_pos hp, hd]
  rfl
theorem step_nl {s : ByteArray} {f pos : Nat} {st : LS} (hp : pos < s.size) (hd : Utf8.decode s pos = (10, 1)) :
    lexRun s (f + 1) pos st = lexRun s f (pos + 1) ⟨endL st.L s st.ln st.fr st.ca pos, st.ln + 1, 0, -1, st.ca, false⟩ := by
  rw [lexRun, if_pos hp, hd]
  rfl
theorem greek_dec {s : ByteArray} {pos : Nat} {a b : UInt8} {r : List UInt8} (h : rs s pos = a :: b :: r) (hg : 0 ≤ greek a.toNat b.toNat) : pos < s.size ∧ ∃ c, Utf8.decode s pos = (c, 2) ∧ 945 ≤ c ∧ c ≤ 1200 := by
  obtain ⟨h1, h2, h3⟩ := rs_cons h
  obtain ⟨h4, h5, _⟩ := rs_cons h3
  have hle : greek a.toNat b.toNat ≤ 78 ∧ 128 ≤ a.toNat := by
    unfold greek at hg ⊢
    split at hg
    · omega
    · split at hg
      · next h1 h2 => rw [if_neg h1, if_pos h2]; omega
      · omega
  refine ⟨h1, ?_⟩
  obtain ⟨⟨c, k⟩, hdc⟩ : ∃ d, Utf8.decode s pos = d := ⟨_, rfl⟩
  have hc := dec_cases s pos h1
  rw [hdc, h2, h5] at hc
  simp only [Prod.mk.injEq] at hc
  rw [hdc]
  rcases hc with h | h | h
  · omega
  · obtain ⟨_, _, e1, e2, e3⟩ := h
    exact ⟨c, by rw [e3], by omega, by omega⟩
  · have := h.2.1 h4
    omega
theorem char_dec {s : ByteArray} {pos : Nat} {a : UInt8} {r : List UInt8} (h : rs s pos = a :: r) (ha : a.toNat < 128) : pos < s.size ∧ Utf8.decode s pos = (a.toNat, 1) := by
  obtain ⟨h1, h2, _⟩ := rs_cons h
  exact ⟨h1, by rw [dec_low s pos (by omega), h2]⟩
theorem lex_word (s : ByteArray) : ∀ (n : Nat) (wd : List UInt8), wd.length ≤ n → ∀ (pos f : Nat) (st : LS) (rest : List UInt8), rs s pos = wd ++ rest → plainB (wd.map UInt8.toNat) = true → wd ≠ [] → st.re = false → s.size - pos ≤ f →
    ∃ co ca, lexRun s f pos st = lexRun s f (pos + wd.length) ⟨st.L, st.ln, co, if st.fr < 0 then (pos : Int) else st.fr, ca, false⟩
  | 0, wd, hn, _, _, _, _, _, _, h0, _, _ => absurd (List.length_eq_zero_iff.1 (Nat.le_zero.1 hn)) h0
  | n + 1, wd, hn, pos, f, st, rest, hrs, hpl, h0, hre, hf => by
    have fin : ∀ (t : List UInt8) (m : Nat) (st1 : LS), t.length ≤ n → rs s (pos + m) = t ++ rest → plainB (t.map UInt8.toNat) = true → st1.re = false → st1.L = st.L → st1.ln = st.ln → st1.fr = (if st.fr < 0 then (pos : Int) else st.fr) →
        s.size - (pos + m) ≤ f → pos + m + t.length = pos + wd.length → lexRun s f pos st = lexRun s f (pos + m) st1 → ∃ co ca, lexRun s f pos st = lexRun s f (pos + wd.length) ⟨st.L, st.ln, co, if st.fr < 0 then (pos : Int) else st.fr, ca, false⟩ := by
      intro t m st1 htn htr htp hr1 e1 e2 e3 hf1 hlen hrun
      obtain ⟨L1, ln1, co1, fr1, ca1, re1⟩ := st1
      simp only at hr1 e1 e2 e3
      subst hr1 e1 e2 e3
      by_cases ht : t = []
      · subst ht
        rw [List.length_nil, Nat.add_zero] at hlen
        exact ⟨co1, ca1, by rw [← hlen]; exact hrun⟩
      · obtain ⟨co, ca, h2⟩ := lex_word s n t htn (pos + m) f ⟨st.L, st.ln, co1, if st.fr < 0 then (pos : Int) else st.fr, ca1, false⟩ rest htr htp ht rfl hf1
        refine ⟨co, ca, ?_⟩
        rw [hrun, h2, hlen]
        simp only
        have : ¬ (if st.fr < 0 then (pos : Int) else st.fr) < 0 := by split <;> omega
        rw [if_neg this]
    obtain ⟨f, rfl⟩ : ∃ f', f = f' + 1 := by
      cases wd with
      | nil => exact absurd rfl h0
      | cons a t =>
        obtain ⟨h1, _, _⟩ := rs_cons hrs
        exact ⟨f - 1, by omega⟩
    have one : ∀ (a : UInt8) (t : List UInt8), wd = a :: t → (33 ≤ a.toNat ∧ a.toNat ≤ 126 ∧ a.toNat ≠ 35) → plainB (t.map UInt8.toNat) = true → ∃ co ca, lexRun s (f + 1) pos st = lexRun s (f + 1) (pos + wd.length) ⟨st.L, st.ln, co, if st.fr < 0 then (pos : Int) else st.fr, ca, false⟩ := by
      intro a t hw ha ht
      subst hw
      obtain ⟨hp, hd⟩ := char_dec hrs (by omega)
      obtain ⟨co, ca, h2⟩ := step_in (f := f) (st := st) hp hd (by omega) (by omega) (by omega) (by omega) hre
      refine fin t 1 ⟨st.L, st.ln, co, if st.fr < 0 then (pos : Int) else st.fr, ca, false⟩ (by simpa using hn) (rs_cons hrs).2.2 ht rfl rfl rfl rfl (by omega) (by rw [List.length_cons]; omega) (h2.trans (lex_fuel s _ _ _ _ (by omega) (by omega)))
    match wd, hn, hrs, hpl, h0, fin, one with
    | [a], hn, hrs, hpl, h0, fin, one => exact one a [] rfl (of_decide_eq_true hpl) rfl
    | a :: b :: r, hn, hrs, hpl, h0, fin, one =>
      by_cases ha : 33 ≤ a.toNat ∧ a.toNat ≤ 126 ∧ a.toNat ≠ 35
      · refine one a (b :: r) rfl ha ?_
        rw [List.map_cons, List.map_cons, plainB, if_pos ha] at hpl
        exact hpl
      · rw [List.map_cons, List.map_cons, plainB, if_neg ha] at hpl
        split at hpl
        · next hg =>
          obtain ⟨hp, c, hd, c1, c2⟩ := greek_dec hrs hg
          obtain ⟨co, ca, h2⟩ := step_in (f := f) (st := st) hp hd (by omega) (by omega) (by omega) (by omega) hre
          refine fin r 2 ⟨st.L, st.ln, co, if st.fr < 0 then (pos : Int) else st.fr, ca, false⟩ (by simp only [List.length_cons] at hn; omega) (rs_at (a := [a, b]) hrs) hpl rfl rfl rfl rfl (by omega) (by simp only [List.length_cons]; omega) (h2.trans (lex_fuel s _ _ _ _ (by omega) (by omega)))
        · cases hpl
theorem join_two (a b : List UInt8) (r : List (List UInt8)) (sep : List UInt8) : Lib.join (a :: b :: r) sep = a ++ (sep ++ Lib.join (b :: r) sep) := by
  simp [Lib.join, List.intercalate]
def wordOk (w : List UInt8) : Prop := w ≠ [] ∧ plainB (w.map UInt8.toNat) = true
theorem endL_word {s : ByteArray} {L : List Wd} {ln ca : Int} {pos : Nat} {w rest : List UInt8} (h : rs s pos = w ++ rest) : endL L s ln (pos : Int) ca (pos + w.length) = L ++ [⟨⟨w.toArray⟩, ln, ca⟩] := by
  unfold endL
  rw [if_pos (by omega), Int.toNat_natCast, rs_text h]
theorem lex_line (s : ByteArray) : ∀ (ws : List (List UInt8)), ws ≠ [] → (∀ w ∈ ws, wordOk w) → ∀ (pos f : Nat) (st : LS) (rest : List UInt8), rs s pos = Lib.join ws [32] ++ ([10] ++ rest) → st.fr = -1 → st.re = false → s.size - pos ≤ f →
    ∃ ca T, lexRun s f pos st = lexRun s f (pos + ((Lib.join ws [32]).length + 1)) ⟨st.L ++ T, st.ln + 1, 0, -1, ca, false⟩ ∧ T.map Wd.tx = ws.map (fun w => (⟨w.toArray⟩ : ByteArray)) ∧ ∀ d ∈ T, d.ln = st.ln
  | [], h0, _, _, _, _, _, _, _, _, _ => absurd rfl h0
  | [w], _, hw, pos, f, st, rest, hrs, hfr, hre, hf => by
    obtain ⟨hw0, hwp⟩ := hw w (by simp)
    rw [Lib.join_one] at hrs ⊢
    obtain ⟨co, ca, h1⟩ := lex_word s w.length w (Nat.le_refl _) pos f st ([10] ++ rest) hrs hwp hw0 hre hf
    have hrs2 := rs_at hrs
    obtain ⟨hp, hd⟩ := char_dec (a := 10) hrs2 (by decide)
    obtain ⟨f, rfl⟩ : ∃ f', f = f' + 1 := ⟨f - 1, by omega⟩
    rw [hfr, if_pos (by omega)] at h1
    refine ⟨ca, [⟨⟨w.toArray⟩, st.ln, ca⟩], ?_, rfl, by simp⟩
    rw [h1, step_nl hp hd]
    simp only
    rw [endL_word hrs]
    exact lex_fuel s _ _ _ _ (by omega) (by omega)
  | w :: w2 :: r, _, hw, pos, f, st, rest, hrs, hfr, hre, hf => by
    obtain ⟨hw0, hwp⟩ := hw w (by simp)
    rw [join_two, List.append_assoc] at hrs
    obtain ⟨co, ca, h1⟩ := lex_word s w.length w (Nat.le_refl _) pos f st _ hrs hwp hw0 hre hf
    have hrs2 := rs_at hrs
    rw [List.append_assoc] at hrs2
    obtain ⟨hp, hd⟩ := char_dec (a := 32) hrs2 (by decide)
    have hrs3 := rs_at hrs2
    obtain ⟨f, rfl⟩ : ∃ f', f = f' + 1 := ⟨f - 1, by omega⟩
    rw [hfr, if_pos (by omega)] at h1
    have h2 := step_sp (f := f) (st := ⟨st.L, st.ln, co, (pos : Int), ca, false⟩) hp hd rfl
    simp only at h2
    rw [endL_word hrs] at h2
    rw [lex_fuel s f (f + 1) (pos + w.length + 1) _ (by omega) (by omega)] at h2
    obtain ⟨ca2, T, h3, h4, h5⟩ := lex_line s (w2 :: r) (by simp) (fun x hx => hw x (by simp [hx])) (pos + w.length + 1) (f + 1) ⟨st.L ++ [⟨⟨w.toArray⟩, st.ln, ca⟩], st.ln, co + 1, -1, ca, false⟩ rest hrs3 rfl rfl (by omega)
    simp only at h3 h5
    refine ⟨ca2, ⟨⟨w.toArray⟩, st.ln, ca⟩ :: T, ?_, by rw [List.map_cons, h4]; rfl, fun d hd => ?_⟩
    · rw [h1, h2, h3, join_two, List.append_assoc, List.singleton_append]
      congr 1
      simp only [List.length_append, List.length_cons, List.length_nil]
      omega
    · rcases List.mem_cons.1 hd with rfl | hd
      · rfl
      · exact h5 d hd
/-- Words that are the lines' words, from line n on. -/
def LinesOf : Int → List Wd → List (List ByteArray) → Prop
  | _, L, [] => L = []
  | n, L, W :: r => ∃ T R, L = T ++ R ∧ T.map Wd.tx = W ∧ (∀ d ∈ T, d.ln = n) ∧ W ≠ [] ∧ LinesOf (n + 1) R r
theorem LinesOf.ge : ∀ {Ls : List (List ByteArray)} {n : Int} {L : List Wd}, LinesOf n L Ls → ∀ d ∈ L, n ≤ d.ln
  | [], n, L, h, d, hd => by rw [show L = [] from h] at hd; cases hd
  | W :: r, n, L, ⟨T, R, hl, _, ht, _, hr⟩, d, hd => by
    rw [hl] at hd
    rcases List.mem_append.1 hd with hd | hd
    · rw [ht d hd]; exact Int.le_refl _
    · have := LinesOf.ge hr d hd
      omega
def lineB (ws : List (List UInt8)) : List UInt8 := Lib.join ws [32] ++ [10]
def wordsB (ws : List (List UInt8)) : List ByteArray := ws.map (fun w => (⟨w.toArray⟩ : ByteArray))
theorem lex_lines (s : ByteArray) : ∀ (Ls : List (List (List UInt8))), (∀ ws ∈ Ls, ws ≠ [] ∧ ∀ w ∈ ws, wordOk w) → ∀ (pos f : Nat) (st : LS), rs s pos = Ls.flatMap lineB → st.fr = -1 → st.re = false → s.size - pos ≤ f →
    ∃ L, lexRun s f pos st = (st.L ++ L, 0, 0, 0) ∧ LinesOf st.ln L (Ls.map wordsB)
  | [], _, pos, f, st, hrs, hfr, _, _ => by
    have h := rs_len s pos
    rw [hrs] at h
    refine ⟨[], ?_, rfl⟩
    rw [lexRun_end (by simp at h; omega)]
    unfold endL
    rw [if_neg (by omega), List.append_nil]
  | ws :: r, hok, pos, f, st, hrs, hfr, hre, hf => by
    obtain ⟨h0, hw⟩ := hok ws (by simp)
    rw [List.flatMap_cons, lineB, List.append_assoc] at hrs
    obtain ⟨ca, T, h1, h2, h3⟩ := lex_line s ws h0 hw pos f st _ hrs hfr hre hf
    have hrs2 : rs s (pos + ((Lib.join ws [32]).length + 1)) = r.flatMap lineB := by
      have := rs_at (rs_at hrs)
      rwa [Nat.add_assoc] at this
    obtain ⟨L, h4, h5⟩ := lex_lines s r (fun x hx => hok x (by simp [hx])) _ f ⟨st.L ++ T, st.ln + 1, 0, -1, ca, false⟩ hrs2 rfl rfl (by omega)
    simp only at h4 h5
    refine ⟨T ++ L, by rw [h1, h4, List.append_assoc], T, L, rfl, h2, h3, ?_, h5⟩
    intro e
    exact h0 (by simpa [wordsB] using e)
theorem lexM_lines {s : ByteArray} (hs : s.size ≤ 4096) {Ls : List (List (List UInt8))} (hok : ∀ ws ∈ Ls, ws ≠ [] ∧ ∀ w ∈ ws, wordOk w) (h : s.data.toList = Ls.flatMap lineB) :
    ∃ L, lexM s = (L, 0, 0, 0) ∧ LinesOf 1 L (Ls.map wordsB) := by
  obtain ⟨L, h1, h2⟩ := lex_lines s Ls hok 0 s.size ⟨[], 1, 0, -1, 0, false⟩ (by unfold rs; rw [List.drop_zero]; exact h) rfl rfl (by omega)
  refine ⟨L, ?_, h2⟩
  unfold lexM
  rw [if_neg (by omega), h1]
  rfl
def parseLines : P3 → Int → List (List ByteArray) → P3 × Int × Int
  | p, _, [] => (p, 0, 0)
  | p, n, W :: r => if (lineM p W).1 = 0 then parseLines (lineM p W).2 (n + 1) r else (noP, n, (lineM p W).1)
theorem parseRun_lines : ∀ (Ls : List (List ByteArray)) (f : Nat) (p : P3) (n : Int) (L : List Wd), L.length ≤ f → LinesOf n L Ls → parseRun f p L = parseLines p n Ls
  | [], f, p, n, L, _, h => by
    rw [show L = [] from h]
    cases f <;> rfl
  | W :: r, f, p, n, L, hf, ⟨T, R, hl, hT, hn, hW, hR⟩ => by
    cases T with
    | nil => exact absurd (by rw [← hT]; rfl) hW
    | cons a T =>
      subst hl
      rw [List.cons_append, List.length_cons] at hf
      obtain ⟨f, rfl⟩ : ∃ f', f = f' + 1 := ⟨f - 1, by omega⟩
      have han : a.ln = n := hn a (by simp)
      have hsp := split_ln (a := a) (L := T ++ R) (T := a :: T) (R := R) rfl (fun d hd => by rw [hn d hd, han]) (by
        cases R with
        | nil => exact .inl rfl
        | cons d R' =>
          refine .inr ⟨d, R', rfl, ?_⟩
          have := hR.ge d (by simp)
          omega)
      rw [List.cons_append, parseRun, hsp.1, hsp.2.1, hT, han, parseLines]
      rw [List.length_append] at hf
      split
      · exact parseRun_lines r f _ (n + 1) R (by omega) hR
      · rfl
theorem parseM_lines {s : ByteArray} (hs : s.size ≤ 4096) {Ls : List (List (List UInt8))} (hok : ∀ ws ∈ Ls, ws ≠ [] ∧ ∀ w ∈ ws, wordOk w) (h : s.data.toList = Ls.flatMap lineB) :
    parseM s = endM (parseLines noP 1 (Ls.map wordsB)) := by
  obtain ⟨L, h1, h2⟩ := lexM_lines hs hok h
  unfold parseM
  rw [h1, if_pos rfl]
  rw [parseRun_lines _ _ _ _ _ (Nat.le_refl _) h2]
end Go.Proofs.YtbgpniepgbmkaaaDoor

namespace Go.Proofs.YtbgpniepgbmkaaaDoor

def wD (d : Dm) : List (List UInt8) := [[100, 111, 109, 97, 105, 110], bsL d.nm, labT d, Lib.itoa d.ta, Lib.itoa d.ob, Lib.itoa d.ri]
def wS (D : List Dm) (s : Int × Int) : List (List UInt8) := [[115, 108, 111, 116], nmAt D s.1, Lib.itoa s.2]
def wK (D : List Dm) (l : Lk) : List (List UInt8) := [kindW l.kd, nmAt D l.fr, nmAt D l.tt, Lib.itoa l.sz]
def linesP (p : P3) : List (List (List UInt8)) := p.D.map wD ++ (p.S.map (wS p.D) ++ p.K.map (wK p.D))
theorem lineB_D (d : Dm) : lineB (wD d) = lineD d := by simp [lineB, wD, lineD, Lib.join, List.intercalate]
theorem lineB_S (D : List Dm) (s : Int × Int) : lineB (wS D s) = lineS D s := by simp [lineB, wS, lineS, Lib.join, List.intercalate]
theorem lineB_K (D : List Dm) (l : Lk) : lineB (wK D l) = lineK D l := by simp [lineB, wK, lineK, Lib.join, List.intercalate]
theorem flat_map {α β γ : Type} (g : α → β) (f : β → List γ) (k : α → List γ) (h : ∀ x, f (g x) = k x) : ∀ l : List α, (l.map g).flatMap f = l.flatMap k
  | [] => rfl
  | a :: r => by rw [List.map_cons, List.flatMap_cons, List.flatMap_cons, h, flat_map g f k h r]
theorem lines_text (p : P3) : (linesP p).flatMap lineB = printL p := by
  unfold linesP printL
  rw [List.flatMap_append, List.flatMap_append, flat_map _ _ _ lineB_D, flat_map _ _ _ (lineB_S p.D), flat_map _ _ _ (lineB_K p.D)]
/-! ### The words -/
theorem nameLen_plain : ∀ (l : List Nat) (n : Nat), nameLen l = some n → plainB l = true
  | [], _, _ => rfl
  | [a], n, h => by
    rw [nameLen] at h
    split at h
    · next ha => exact decide_eq_true (by omega)
    · cases h
  | a :: b :: r, n, h => by
    rw [nameLen] at h
    rw [plainB]
    split at h
    · next ha =>
      obtain ⟨k, hk, _⟩ := Option.map_eq_some_iff.1 h
      rw [if_pos (by omega)]
      exact nameLen_plain (b :: r) k hk
    · next ha =>
      split at h
      · next hg =>
        obtain ⟨k, hk, _⟩ := Option.map_eq_some_iff.1 h
        have hna : ¬ (33 ≤ a ∧ a ≤ 126 ∧ a ≠ 35) := by
          intro hx
          have : greek a b = -1 := by
            unfold greek
            rw [if_neg (by omega), if_neg (by omega)]
          omega
        rw [if_neg hna, if_pos hg.1]
        exact nameLen_plain r k hk
      · cases h
theorem bsL_bl (s : ByteArray) : (bsL s).map UInt8.toNat = bl s 0 := by unfold bsL bl; rw [List.drop_zero]
theorem name_ok {s : ByteArray} (h : nameB (bl s 0) = true) : wordOk (bsL s) := by
  unfold nameB at h
  split at h
  · next n hn =>
    refine ⟨?_, by rw [bsL_bl]; exact nameLen_plain _ _ hn⟩
    intro e
    rw [← bsL_bl, e, List.map_nil, nameLen] at hn
    injection hn with hn
    subst hn
    simp at h
  · cases h
theorem toB_nat {l : List Nat} (h : ∀ x ∈ l, x < 256) : (toB l).map UInt8.toNat = l := by
  induction l with
  | nil => rfl
  | cons a r ih =>
    have ha := h a (by simp)
    have e : (UInt8.ofNat a).toNat = a := by simp; omega
    rw [toB, List.map_cons, List.map_cons, e]
    congr 1
    exact ih (fun x hx => h x (by simp [hx]))
theorem signs_plain (c : Int) : ∀ (f n : Nat), n + f ≤ 16 → plainB (signsFrom c f n ++ [125]) = true
  | 0, n, _ => rfl
  | f + 1, n, h => by
    rw [signsFrom_succ]
    split
    · have hg := greek_gk n (by omega)
      have ih := signs_plain c f (n + 1) (by omega)
      unfold gk at hg ⊢
      split
      · next hn =>
        rw [if_pos hn] at hg
        simp only [List.cons_append, List.nil_append]
        rw [plainB, if_neg (by omega), if_pos]
        · exact ih
        · have : greek 206 (177 + n) = n := hg
          omega
      · next hn =>
        rw [if_neg hn] at hg
        simp only [List.cons_append, List.nil_append]
        rw [plainB, if_neg (by omega), if_pos]
        · exact ih
        · have : greek 207 (128 + n - 15) = n := hg
          omega
    · rw [List.nil_append]
      exact signs_plain c f (n + 1) (by omega)
theorem signs_small (c : Int) : ∀ (f n : Nat), n + f ≤ 16 → ∀ x ∈ signsFrom c f n, x < 256
  | 0, _, _, x, hx => by cases hx
  | f + 1, n, h, x, hx => by
    rw [signsFrom_succ] at hx
    rcases List.mem_append.1 hx with hx | hx
    · split at hx
      · exact gk_small n (by omega) x hx
      · cases hx
    · exact signs_small c f (n + 1) (by omega) x hx
theorem text_small {l c : Int} (h0 : 0 ≤ l) (h7 : l ≤ 7) : ∀ x ∈ textL l c, x < 256 := by
  intro x hx
  unfold textL at hx
  rcases List.mem_cons.1 hx with rfl | hx
  · omega
  · rcases List.mem_cons.1 hx with rfl | hx
    · omega
    · rcases List.mem_append.1 hx with hx | hx
      · exact signs_small c 16 0 (by omega) x hx
      · rw [List.mem_singleton] at hx; omega
theorem textS_bl {l c : Int} (h0 : 0 ≤ l) (h7 : l ≤ 7) : bl (textS l c) 0 = textL l c := by
  unfold bl textS
  rw [List.drop_zero]
  exact toB_nat (text_small h0 h7)
theorem good_bounds {l c : Int} (h : goodL l c = true) : 0 ≤ l ∧ l ≤ 7 ∧ 0 ≤ c ∧ c < 65536 := of_decide_eq_true h
theorem labT_good {d : Dm} (h : goodL d.lv d.ct = true) : (printV d.lv d.ct).1 = textS d.lv d.ct := by
  unfold printV
  rw [if_pos h]
theorem lab_ok {d : Dm} (h : goodL d.lv d.ct = true) : wordOk (labT d) := by
  obtain ⟨h0, h7, _, _⟩ := good_bounds h
  unfold labT
  rw [labT_good h]
  refine ⟨?_, ?_⟩
  · intro e
    have h1 := bsL_bl (textS d.lv d.ct)
    rw [e, textS_bl h0 h7] at h1
    unfold textL at h1
    cases h1
  · rw [bsL_bl, textS_bl h0 h7]
    unfold textL
    rw [plainB, if_pos (by omega)]
    have h1 := signs_plain d.ct 16 0 (by omega)
    cases hx : signsFrom d.ct 16 0 ++ [125] with
    | nil => simp at hx
    | cons a r =>
      rw [hx] at h1
      rw [plainB, if_pos (by omega)]
      exact h1
theorem readV_text {l c : Int} (h : goodL l c = true) : readV (textS l c) = (l, c, 0) := by
  obtain ⟨h0, h7, c0, c1⟩ := good_bounds h
  exact readV_some (by rw [textS_bl h0 h7]; exact parse_text l c h0 h7 c0 c1)
theorem itoa_all : ((List.range 17).all fun n => plainB ((Lib.itoa (n : Int)).map UInt8.toNat) && (!(Lib.itoa (n : Int)).isEmpty && decide (numM ⟨(Lib.itoa (n : Int)).toArray⟩ = ((n : Int), true)))) = true := by kernel_rfl
theorem itoa_ok {n : Int} (h0 : 0 ≤ n) (h1 : n ≤ 16) : wordOk (Lib.itoa n) ∧ numM ⟨(Lib.itoa n).toArray⟩ = (n, true) := by
  obtain ⟨m, rfl⟩ : ∃ m : Nat, n = m := ⟨n.toNat, by omega⟩
  have := List.all_eq_true.1 itoa_all m (List.mem_range.2 (by omega))
  simp only [Bool.and_eq_true, decide_eq_true_eq, Bool.not_eq_true'] at this
  exact ⟨⟨fun e => by rw [e] at this; exact absurd this.2.1 (by simp), this.1⟩, this.2.2⟩
theorem kind_ok (k : Int) : wordOk (kindW k) := by
  unfold kindW
  split <;> exact ⟨by simp, by decide⟩
theorem ba_back (s : ByteArray) : (⟨(bsL s).toArray⟩ : ByteArray) = s := by unfold bsL; simp
/-! ### The lines, one by one -/
/-- Lines that all may be, and the policy behind them. -/
def runL : P3 → List (List ByteArray) → Option P3
  | p, [] => some p
  | p, W :: r => if (lineM p W).1 = 0 then runL (lineM p W).2 r else none
theorem runL_app : ∀ (A B : List (List ByteArray)) (p : P3), runL p (A ++ B) = (runL p A).bind (fun q => runL q B)
  | [], B, p => rfl
  | W :: r, B, p => by
    rw [List.cons_append, runL, runL]
    split
    · exact runL_app r B _
    · rfl
theorem parseLines_run : ∀ (A B : List (List ByteArray)) (p q : P3) (n : Int), runL p A = some q → parseLines p n (A ++ B) = parseLines q (n + A.length) B
  | [], B, p, q, n, h => by
    injection h with h
    subst h
    simp
  | W :: r, B, p, q, n, h => by
    rw [runL] at h
    split at h
    · next h0 =>
      rw [List.cons_append, parseLines, if_pos h0, parseLines_run r B _ q (n + 1) h]
      congr 1
      simp only [List.length_cons]
      omega
    · cases h
theorem findD_neg {D : List Dm} {s : ByteArray} (h : findD D s < 0) : ∀ d ∈ D, decide (d.nm = s) = false := by
  unfold findD at h
  split at h
  · omega
  · next hn => exact fun d hd => by simpa using List.findIdx?_eq_none_iff.1 hn d hd
section
variable {D : List Dm} {S : List (Int × Int)} {K : List Lk}
theorem findD_at (h : UpP D S K) {i : Nat} {d : Dm} (hd : D[i]? = some d) : findD D d.nm = i :=
  findD_hit (findD_neg (h.nm i d hd).2) hd (decide_eq_true rfl)
theorem nm_at (h : UpP D S K) {x : Int} (h0 : 0 ≤ x) (h1 : x < D.length) : wordOk (nmAt D x) ∧ findD D ⟨(nmAt D x).toArray⟩ = x := by
  obtain ⟨i, rfl⟩ : ∃ i : Nat, x = i := ⟨x.toNat, by omega⟩
  obtain ⟨d, hd⟩ : ∃ d, D[i]? = some d := ⟨_, List.getElem?_eq_getElem (by omega)⟩
  have e : nmAt D (i : Int) = bsL d.nm := by unfold nmAt; rw [Int.toNat_natCast, hd]
  rw [e, ba_back]
  exact ⟨name_ok (h.dm d (List.mem_of_getElem? hd)).1, findD_at h hd⟩
theorem lines_ok (h : UpP D S K) : ∀ ws ∈ linesP ⟨D, S, K⟩, ws ≠ [] ∧ ∀ w ∈ ws, wordOk w := by
  intro ws hws
  unfold linesP at hws
  rcases List.mem_append.1 hws with hws | hws
  · obtain ⟨d, hd, rfl⟩ := List.mem_map.1 hws
    obtain ⟨h1, h2, h3, h4, h5⟩ := h.dm d hd
    refine ⟨by simp [wD], fun w hw => ?_⟩
    simp only [wD, List.mem_cons, List.not_mem_nil, or_false] at hw
    rcases hw with rfl | rfl | rfl | rfl | rfl | rfl
    · exact ⟨by simp, by decide⟩
    · exact name_ok h1
    · exact lab_ok h2
    · exact (itoa_ok (by omega) (by omega)).1
    · exact (itoa_ok (by omega) (by omega)).1
    · exact (itoa_ok (by omega) (by omega)).1
  · rcases List.mem_append.1 hws with hws | hws
    · obtain ⟨s, hs, rfl⟩ := List.mem_map.1 hws
      obtain ⟨h1, h2⟩ := h.sl s hs
      refine ⟨by simp [wS], fun w hw => ?_⟩
      simp only [wS, List.mem_cons, List.not_mem_nil, or_false] at hw
      rcases hw with rfl | rfl | rfl
      · exact ⟨by simp, by decide⟩
      · exact (nm_at h h1.1 h1.2).1
      · exact (itoa_ok (by omega) (by omega)).1
    · obtain ⟨l, hl, rfl⟩ := List.mem_map.1 hws
      obtain ⟨h1, h2, _, h4, h5, _⟩ := h.lk l hl
      have h6 := most_le l.kd
      refine ⟨by simp [wK], fun w hw => ?_⟩
      simp only [wK, List.mem_cons, List.not_mem_nil, or_false] at hw
      rcases hw with rfl | rfl | rfl | rfl
      · exact kind_ok _
      · exact (nm_at h h1.1 h1.2).1
      · exact (nm_at h h2.1 h2.2).1
      · exact (itoa_ok (by omega) (by omega)).1
theorem lineM_dom (p : P3) (x1 x2 x3 x4 x5 : ByteArray) : lineM p [sDomain, x1, x2, x3, x4, x5] = (domE p.D x1 x2 x3 x4 x5, ⟨domD p.D x1 x2 x3 x4 x5, p.S, p.K⟩) := by
  show (if sDomain = sDomain then (domE p.D x1 x2 x3 x4 x5, (⟨domD p.D x1 x2 x3 x4 x5, p.S, p.K⟩ : P3)) else (2, p)) = _
  rw [if_pos rfl]
theorem lineM_slot (p : P3) (x1 x2 : ByteArray) : lineM p [sSlot, x1, x2] = (slotE p.D x1 x2, ⟨p.D, slotS p.D p.S x1 x2, p.K⟩) := by
  show (if sSlot = sSlot then (slotE p.D x1 x2, (⟨p.D, slotS p.D p.S x1 x2, p.K⟩ : P3)) else (2, p)) = _
  rw [if_pos rfl]
theorem lineM_cell (p : P3) (x1 x2 x3 : ByteArray) : lineM p [sCell, x1, x2, x3] = (linkE p.D x1 x2 x3, ⟨p.D, p.S, linkK p.D p.K 1 x1 x2 x3⟩) := by
  show (if sCell = sCell then (linkE p.D x1 x2 x3, (⟨p.D, p.S, linkK p.D p.K 1 x1 x2 x3⟩ : P3)) else if sCell = sPump then (linkE p.D x1 x2 x3, (⟨p.D, p.S, linkK p.D p.K 2 x1 x2 x3⟩ : P3)) else (2, p)) = _
  rw [if_pos rfl]
theorem lineM_pump (p : P3) (x1 x2 x3 : ByteArray) : lineM p [sPump, x1, x2, x3] = (linkE p.D x1 x2 x3, ⟨p.D, p.S, linkK p.D p.K 2 x1 x2 x3⟩) := by
  show (if sPump = sCell then (linkE p.D x1 x2 x3, (⟨p.D, p.S, linkK p.D p.K 1 x1 x2 x3⟩ : P3)) else if sPump = sPump then (linkE p.D x1 x2 x3, (⟨p.D, p.S, linkK p.D p.K 2 x1 x2 x3⟩ : P3)) else (2, p)) = _
  rw [if_neg (by decide), if_pos rfl]
theorem line_D (h : UpP D S K) {j : Nat} {d : Dm} (hd : D[j]? = some d) : lineM ⟨D.take j, [], []⟩ (wordsB (wD d)) = (0, ⟨D.take (j + 1), [], []⟩) := by
  obtain ⟨h1, h2, h3, h4, h5⟩ := h.dm d (List.mem_of_getElem? hd)
  obtain ⟨n1, n2⟩ := h.nm j d hd
  have e3 := (itoa_ok (n := d.ta) (by omega) (by omega)).2
  have e4 := (itoa_ok (n := d.ob) (by omega) (by omega)).2
  have e5 := (itoa_ok (n := d.ri) (by omega) (by omega)).2
  have e2 : readV (⟨(labT d).toArray⟩ : ByteArray) = (d.lv, d.ct, 0) := by
    unfold labT
    rw [ba_back, labT_good h2]
    exact readV_text h2
  have hE : domE (D.take j) d.nm ⟨(labT d).toArray⟩ ⟨(Lib.itoa d.ta).toArray⟩ ⟨(Lib.itoa d.ob).toArray⟩ ⟨(Lib.itoa d.ri).toArray⟩ = 0 := by
    unfold domE
    rw [if_neg (by rw [n1, decide_eq_false (by omega)]; simp), e2, if_pos rfl, if_pos]
    simp [numAll, e3, e4, e5]
  have hV : domV d.nm ⟨(labT d).toArray⟩ ⟨(Lib.itoa d.ta).toArray⟩ ⟨(Lib.itoa d.ob).toArray⟩ ⟨(Lib.itoa d.ri).toArray⟩ = d := by
    unfold domV
    rw [e2, e3, e4, e5]
  have hW : wordsB (wD d) = [sDomain, d.nm, ⟨(labT d).toArray⟩, ⟨(Lib.itoa d.ta).toArray⟩, ⟨(Lib.itoa d.ob).toArray⟩, ⟨(Lib.itoa d.ri).toArray⟩] := by
    simp only [wordsB, wD, List.map_cons, List.map_nil, ba_back]
    rfl
  rw [hW, lineM_dom]
  simp only
  unfold domD
  rw [hE, if_pos rfl, hV, List.take_add_one, hd, Option.toList_some]
theorem line_S (h : UpP D S K) {j : Nat} {s : Int × Int} (hs : S[j]? = some s) : lineM ⟨D, S.take j, []⟩ (wordsB (wS D s)) = (0, ⟨D, S.take (j + 1), []⟩) := by
  obtain ⟨h1, h2⟩ := h.sl s (List.mem_of_getElem? hs)
  have e1 := (nm_at h h1.1 h1.2).2
  have e2 := (itoa_ok (n := s.2) (by omega) (by omega)).2
  have hE : slotE D ⟨(nmAt D s.1).toArray⟩ ⟨(Lib.itoa s.2).toArray⟩ = 0 := by
    unfold slotE
    rw [if_neg (by rw [e1]; omega), if_pos]
    simp [numAll, e2]
  have hW : wordsB (wS D s) = [sSlot, ⟨(nmAt D s.1).toArray⟩, ⟨(Lib.itoa s.2).toArray⟩] := rfl
  rw [hW, lineM_slot]
  simp only
  unfold slotS
  rw [hE, if_pos rfl, e1, e2, List.take_add_one, hs, Option.toList_some]
theorem line_K (h : UpP D S K) {j : Nat} {l : Lk} (hl : K[j]? = some l) : lineM ⟨D, S, K.take j⟩ (wordsB (wK D l)) = (0, ⟨D, S, K.take (j + 1)⟩) := by
  obtain ⟨h1, h2, _, h4, h5, _⟩ := h.lk l (List.mem_of_getElem? hl)
  have h6 := most_le l.kd
  have e1 := (nm_at h h1.1 h1.2).2
  have e3 := (nm_at h h2.1 h2.2).2
  have e2 := (itoa_ok (n := l.sz) (by omega) (by omega)).2
  have hE : linkE D ⟨(nmAt D l.fr).toArray⟩ ⟨(nmAt D l.tt).toArray⟩ ⟨(Lib.itoa l.sz).toArray⟩ = 0 := by
    unfold linkE
    rw [if_neg (by rw [e1, e3]; omega), if_pos]
    simp [numAll, e2]
  obtain ⟨kd, fr, tt, sz⟩ := l
  simp only at e1 e2 e3 hE h4
  rcases h4 with rfl | rfl
  · have hW : wordsB (wK D ⟨1, fr, tt, sz⟩) = [sCell, ⟨(nmAt D fr).toArray⟩, ⟨(nmAt D tt).toArray⟩, ⟨(Lib.itoa sz).toArray⟩] := rfl
    rw [hW, lineM_cell]
    simp only
    unfold linkK
    rw [hE, if_pos rfl, e1, e2, e3, List.take_add_one, hl, Option.toList_some]
  · have hW : wordsB (wK D ⟨2, fr, tt, sz⟩) = [sPump, ⟨(nmAt D fr).toArray⟩, ⟨(nmAt D tt).toArray⟩, ⟨(Lib.itoa sz).toArray⟩] := rfl
    rw [hW, lineM_pump]
    simp only
    unfold linkK
    rw [hE, if_pos rfl, e1, e2, e3, List.take_add_one, hl, Option.toList_some]
theorem run_prefix {α : Type} {l : List α} {g : α → List ByteArray} {st : Nat → P3} (h : ∀ (j : Nat) (x : α), l[j]? = some x → lineM (st j) (g x) = (0, st (j + 1))) : ∀ j, j ≤ l.length → runL (st 0) ((l.take j).map g) = some (st j)
  | 0, _ => rfl
  | j + 1, hj => by
    obtain ⟨x, hx⟩ : ∃ x, l[j]? = some x := ⟨_, List.getElem?_eq_getElem (by omega)⟩
    rw [List.take_add_one, hx, Option.toList_some, List.map_append, runL_app, run_prefix h j (by omega)]
    show runL (st j) [g x] = _
    rw [runL, h j x hx]
    rfl
theorem run_print (h : UpP D S K) : runL noP ((linesP ⟨D, S, K⟩).map wordsB) = some ⟨D, S, K⟩ := by
  have h1 := run_prefix (l := D) (g := fun d => wordsB (wD d)) (st := fun j => ⟨D.take j, [], []⟩) (fun j d hd => line_D h hd) D.length (Nat.le_refl _)
  have h2 := run_prefix (l := S) (g := fun s => wordsB (wS D s)) (st := fun j => ⟨D, S.take j, []⟩) (fun j d hd => line_S h hd) S.length (Nat.le_refl _)
  have h3 := run_prefix (l := K) (g := fun l => wordsB (wK D l)) (st := fun j => ⟨D, S, K.take j⟩) (fun j d hd => line_K h hd) K.length (Nat.le_refl _)
  simp only [List.take_length, List.take_zero] at h1 h2 h3
  unfold linesP
  rw [List.map_append, List.map_append, List.map_map, List.map_map, List.map_map, runL_app]
  show (runL ⟨[], [], []⟩ (D.map fun d => wordsB (wD d))).bind _ = _
  rw [h1]
  show runL ⟨D, [], []⟩ _ = _
  rw [runL_app]
  show (runL ⟨D, [], []⟩ (S.map fun d => wordsB (wS D d))).bind _ = _
  rw [h2]
  exact h3
theorem printL_len (h : UpP D S K) : (printL ⟨D, S, K⟩).length ≤ 2544 := by
  have e1 := flatD_len h D.length
  rw [List.take_length] at e1
  have e2 := flatS_len h S.length
  rw [List.take_length] at e2
  have e3 := flatK_len h K.length
  rw [List.take_length] at e3
  unfold printL
  simp only [List.length_append]
  omega
end
/-- A POLICY COMES BACK OF ITS TEXT. -/
theorem parse_print {p : P3} (h : checkM p.D p.S p.K = 0) : parseM ⟨(printL p).toArray⟩ = (p, 0, 0) := by
  obtain ⟨D, S, K⟩ := p
  have hu := check_all h
  have hlen : (printL ⟨D, S, K⟩).length ≤ 2544 := printL_len hu
  rw [parseM_lines (Ls := linesP ⟨D, S, K⟩) (by rw [ByteArray.size_mk', List.size_toArray]; omega) (lines_ok hu) (by rw [lines_text])]
  have h1 := parseLines_run ((linesP ⟨D, S, K⟩).map wordsB) [] noP ⟨D, S, K⟩ 1 (run_print hu)
  rw [List.append_nil] at h1
  rw [h1, parseLines, endM, if_pos rfl, if_pos h]
theorem parseRun_bad : ∀ (f : Nat) (p : P3) (L : List Wd), (parseRun f p L).2.2 ≠ 0 → (parseRun f p L).1 = noP
  | 0, p, L, h => absurd rfl h
  | f + 1, p, [], h => absurd rfl h
  | f + 1, p, a :: L, h => by
    rw [parseRun] at h ⊢
    split
    · next h0 =>
      rw [if_pos h0] at h
      exact parseRun_bad f _ _ h
    · rfl
theorem parseM_cases (s : ByteArray) : ((parseM s).2.2 = 0 ∧ (parseM s).2.1 = 0 ∧ checkM (parseM s).1.D (parseM s).1.S (parseM s).1.K = 0) ∨ ((parseM s).2.2 ≠ 0 ∧ (parseM s).1 = noP) := by
  unfold parseM
  split
  · unfold endM
    split
    · split
      · next h0 h1 => exact .inl ⟨rfl, rfl, h1⟩
      · next h0 h1 => exact .inr ⟨h1, rfl⟩
    · next h0 => exact .inr ⟨h0, parseRun_bad _ _ _ h0⟩
  · next h0 => exact .inr ⟨h0, rfl⟩
end Go.Proofs.YtbgpniepgbmkaaaDoor

namespace Go.Proofs.YtbgpniepgbmkaaaDoor

theorem plain_no10 : ∀ (l : List Nat), plainB l = true → ∀ x ∈ l, x ≠ 10
  | [], _, x, hx => by cases hx
  | [a], h, x, hx => by
    have := of_decide_eq_true h
    rw [List.mem_singleton] at hx
    omega
  | a :: b :: r, h, x, hx => by
    rw [plainB] at h
    split at h
    · next ha =>
      rcases List.mem_cons.1 hx with rfl | hx
      · omega
      · exact plain_no10 (b :: r) h x hx
    · split at h
      · next hg =>
        have hab : 128 ≤ a ∧ 128 ≤ b := by
          unfold greek at hg
          split at hg
          · omega
          · split at hg
            · omega
            · omega
        rcases List.mem_cons.1 hx with rfl | hx
        · omega
        · rcases List.mem_cons.1 hx with rfl | hx
          · omega
          · exact plain_no10 r h x hx
      · cases h
theorem word_no10 {w : List UInt8} (h : wordOk w) : ∀ x ∈ w, x ≠ 10 := by
  intro x hx e
  exact plain_no10 _ h.2 x.toNat (List.mem_map.2 ⟨x, hx, rfl⟩) (by rw [e]; rfl)
theorem join_no10 : ∀ (ws : List (List UInt8)), (∀ w ∈ ws, wordOk w) → ∀ x ∈ Lib.join ws [32], x ≠ 10
  | [], _, x, hx => by rw [Lib.join_nil] at hx; cases hx
  | [w], h, x, hx => by rw [Lib.join_one] at hx; exact word_no10 (h w (by simp)) x hx
  | w :: w2 :: r, h, x, hx => by
    rw [join_two] at hx
    rcases List.mem_append.1 hx with hx | hx
    · exact word_no10 (h w (by simp)) x hx
    · rcases List.mem_append.1 hx with hx | hx
      · rw [List.mem_singleton] at hx
        rw [hx]
        decide
      · exact join_no10 (w2 :: r) (fun y hy => h y (by simp [hy])) x hx
def cnt10 (l : List UInt8) : Nat := l.countP (fun x => x == 10)
theorem cnt10_none {l : List UInt8} (h : ∀ x ∈ l, x ≠ 10) : cnt10 l = 0 := by
  unfold cnt10
  rw [List.countP_eq_zero]
  intro x hx
  simpa using h x hx
theorem cnt10_line {ws : List (List UInt8)} (h : ∀ w ∈ ws, wordOk w) : cnt10 (lineB ws) = 1 := by
  unfold lineB cnt10
  rw [List.countP_append]
  have := cnt10_none (join_no10 ws h)
  unfold cnt10 at this
  rw [this]
  rfl
/-- A place at the head of a line: so many lines lie before it. -/
theorem cut_lines : ∀ (Ls : List (List (List UInt8))), (∀ ws ∈ Ls, ws ≠ [] ∧ ∀ w ∈ ws, wordOk w) → ∀ a : Nat, a ≤ (Ls.flatMap lineB).length → (a = 0 ∨ (Ls.flatMap lineB)[a - 1]? = some 10) →
    ∃ k, k ≤ Ls.length ∧ (Ls.flatMap lineB).take a = (Ls.take k).flatMap lineB ∧ (Ls.flatMap lineB).drop a = (Ls.drop k).flatMap lineB ∧ cnt10 ((Ls.flatMap lineB).take a) = k
  | [], _, a, ha, _ => by
    have : a = 0 := by simpa using ha
    subst this
    exact ⟨0, Nat.le_refl _, rfl, rfl, rfl⟩
  | ws :: r, hok, a, ha, hb => by
    obtain ⟨h0, hw⟩ := hok ws (by simp)
    rcases Nat.eq_zero_or_pos a with rfl | hpos
    · exact ⟨0, Nat.zero_le _, by simp, by simp, by simp [cnt10]⟩
    · have hb : ((ws :: r).flatMap lineB)[a - 1]? = some 10 := by
        rcases hb with hb | hb
        · omega
        · exact hb
      rw [List.flatMap_cons] at ha hb ⊢
      have hll : (lineB ws).length = (Lib.join ws [32]).length + 1 := by unfold lineB; rw [List.length_append]; rfl
      have hge : (lineB ws).length ≤ a := by
        refine Nat.le_of_not_lt fun hlt => ?_
        have h1 : a - 1 < (Lib.join ws [32]).length := by omega
        have h2 : (lineB ws ++ r.flatMap lineB)[a - 1]? = some ((Lib.join ws [32])[a - 1]'h1) := by
          rw [List.getElem?_append_left (by omega)]
          unfold lineB
          rw [List.getElem?_append_left h1, List.getElem?_eq_getElem h1]
        rw [h2] at hb
        injection hb with hb
        exact join_no10 ws hw _ (List.getElem_mem h1) hb
      rw [List.length_append] at ha
      obtain ⟨b, rfl⟩ : ∃ b, a = (lineB ws).length + b := ⟨a - (lineB ws).length, by omega⟩
      obtain ⟨k, hk, e1, e2, e3⟩ := cut_lines r (fun x hx => hok x (by simp [hx])) b (by omega) (by
        rcases Nat.eq_zero_or_pos b with h | h
        · exact .inl h
        · right
          rw [List.getElem?_append_right (by omega)] at hb
          rw [← hb]
          congr 1
          omega)
      refine ⟨k + 1, by simpa using hk, ?_, ?_, ?_⟩
      · rw [List.take_length_add_append, e1, List.take_succ_cons, List.flatMap_cons]
      · rw [List.drop_length_add_append, e2, List.drop_succ_cons]
      · rw [List.take_length_add_append]
        have h1 := cnt10_line hw
        unfold cnt10 at h1 e3 ⊢
        rw [List.countP_append, h1, e3]
        omega
def badW : List (List UInt8) := [[100, 111, 109, 97, 105, 110], [97]]
theorem badW_ok : badW ≠ [] ∧ ∀ w ∈ badW, wordOk w := by
  refine ⟨by simp [badW], fun w hw => ?_⟩
  simp only [badW, List.mem_cons, List.not_mem_nil, or_false] at hw
  rcases hw with rfl | rfl <;> exact ⟨by simp, by decide⟩
theorem badW_text : lineB badW = [100, 111, 109, 97, 105, 110, 32, 97, 10] := by simp [lineB, badW, Lib.join, List.intercalate]
theorem badW_line (p : P3) : (lineM p (wordsB badW)).1 = 2 := rfl
theorem runL_take : ∀ (A : List (List ByteArray)) (p q : P3) (k : Nat), runL p A = some q → ∃ q', runL p (A.take k) = some q'
  | [], p, q, k, h => ⟨p, by rw [List.take_nil]; rfl⟩
  | W :: r, p, q, 0, h => ⟨p, rfl⟩
  | W :: r, p, q, k + 1, h => by
    rw [runL] at h
    split at h
    · next h0 =>
      obtain ⟨q', hq⟩ := runL_take r _ q k h
      exact ⟨q', by rw [List.take_succ_cons, runL, if_pos h0]; exact hq⟩
    · cases h
/-- THE LINE IS TOLD BY ITS NUMBER. -/
theorem parse_bad {p : P3} (h : checkM p.D p.S p.K = 0) {a : Nat} (ha : a ≤ (printL p).length) (hb : a = 0 ∨ (printL p)[a - 1]? = some 10) {s : ByteArray}
    (hs : s.data.toList = (printL p).take a ++ [100, 111, 109, 97, 105, 110, 32, 97, 10] ++ (printL p).drop a) : parseM s = (noP, (cnt10 ((printL p).take a) : Int) + 1, 2) := by
  obtain ⟨D, S, K⟩ := p
  have hu : UpP D S K := check_all h
  have hlen : (printL ⟨D, S, K⟩).length ≤ 2544 := printL_len hu
  have hok := lines_ok hu
  have htx := lines_text ⟨D, S, K⟩
  rw [← htx] at ha hb hs ⊢
  obtain ⟨k, hk, e1, e2, e3⟩ := cut_lines (linesP ⟨D, S, K⟩) hok a ha hb
  rw [e3]
  have hsz : s.size ≤ 4096 := by
    have h1 : s.data.toList.length = s.size := Array.length_toList
    rw [hs, List.length_append, List.length_append, List.length_take, List.length_drop, htx] at h1
    simp only [List.length_cons, List.length_nil] at h1
    omega
  have hall : ∀ ws ∈ (linesP ⟨D, S, K⟩).take k ++ (badW :: (linesP ⟨D, S, K⟩).drop k), ws ≠ [] ∧ ∀ w ∈ ws, wordOk w := by
    intro ws hws
    rcases List.mem_append.1 hws with hws | hws
    · exact hok ws (List.mem_of_mem_take hws)
    · rcases List.mem_cons.1 hws with rfl | hws
      · exact badW_ok
      · exact hok ws (List.mem_of_mem_drop hws)
  rw [parseM_lines (Ls := (linesP ⟨D, S, K⟩).take k ++ (badW :: (linesP ⟨D, S, K⟩).drop k)) hsz hall (by rw [hs, e1, e2, List.flatMap_append, List.flatMap_cons, badW_text, List.append_assoc])]
  obtain ⟨q, hq⟩ := runL_take _ noP _ k (run_print hu)
  rw [List.map_append, List.map_take, parseLines_run _ _ noP q 1 hq, List.map_cons, parseLines, if_neg (by rw [badW_line]; decide)]
  unfold endM
  rw [badW_line, if_neg (show ¬ (2 : Int) = 0 by decide)]
  rw [List.length_take, List.length_map, Nat.min_eq_left hk]
  congr 2
  omega
theorem printL_end {D : List Dm} {S : List (Int × Int)} {K : List Lk} (h : UpP D S K) : 0 < (printL ⟨D, S, K⟩).length ∧ (printL ⟨D, S, K⟩)[(printL ⟨D, S, K⟩).length - 1]? = some 10 := by
  have key : ∀ (Ls : List (List (List UInt8))), Ls ≠ [] → 0 < (Ls.flatMap lineB).length ∧ (Ls.flatMap lineB).getLast? = some 10 := by
    intro Ls
    induction Ls with
    | nil => intro h; exact absurd rfl h
    | cons a r ih =>
      intro _
      rw [List.flatMap_cons]
      have h1 : (lineB a).getLast? = some 10 := by unfold lineB; simp
      have h2 : 0 < (lineB a).length := by unfold lineB; simp
      refine ⟨by rw [List.length_append]; omega, ?_⟩
      by_cases hr : r = []
      · subst hr; simpa using h1
      · have := (ih hr).2
        rw [List.getLast?_append, this]
        rfl
  have hne : linesP ⟨D, S, K⟩ ≠ [] := by
    unfold linesP
    intro e
    have h1 := congrArg List.length e
    rw [List.length_append, List.length_map, List.length_nil] at h1
    simp only at h1
    have := h.d1
    omega
  have := key _ hne
  rw [lines_text] at this
  exact ⟨this.1, by rw [← List.getLast?_eq_getElem?]; exact this.2⟩
end Go.Proofs.YtbgpniepgbmkaaaDoor
