/- The words of a text whose lines are words with a space between them (lexM). Plain Lean, no program. No condition. -/
import Derived.Test.YtkjhgfjlknbdkaaDoorParse
import Derived.Lib.Join
namespace Go.Proofs.YtkjhgfjlknbdkaaDoor

/-- The bytes from place i on. -/
def rs (s : ByteArray) (i : Nat) : List UInt8 := s.data.toList.drop i
theorem rs_bl (s : ByteArray) (i : Nat) : bl s i = (rs s i).map UInt8.toNat := by unfold bl rs; rw [List.map_drop]
theorem rs_len (s : ByteArray) (i : Nat) : (rs s i).length = s.size - i := by
  unfold rs
  rw [List.length_drop, Array.length_toList]
  rfl
theorem rs_at {s : ByteArray} {i : Nat} {a r : List UInt8} (h : rs s i = a ++ r) : rs s (i + a.length) = r := by
  unfold rs at *
  rw [← List.drop_drop, h, List.drop_left]
theorem rs_cons {s : ByteArray} {i : Nat} {a : UInt8} {r : List UInt8} (h : rs s i = a :: r) : i < s.size ∧ bAt s i = a.toNat ∧ rs s (i + 1) = r := by
  have hl : i < s.size := by
    have := rs_len s i
    rw [h, List.length_cons] at this
    omega
  refine ⟨hl, ?_, rs_at (a := [a]) h⟩
  have h1 := bl_cons s i hl
  rw [rs_bl, h, List.map_cons] at h1
  injection h1 with h1 _
  exact h1.symm
theorem rs_text {s : ByteArray} {i : Nat} {a r : List UInt8} (h : rs s i = a ++ r) : s.extract i (i + a.length) = ⟨a.toArray⟩ := by
  apply ByteArray.ext
  apply Array.toList_inj.1
  rw [ByteArray.data_extract, Array.toList_extract]
  unfold rs at h
  rw [List.extract_eq_take_drop, h, Nat.add_sub_cancel_left, List.take_left]
/-- Signs that may stand in a word. -/
def plainB : List Nat → Bool
  | [] => true
  | [a] => decide (33 ≤ a ∧ a ≤ 126 ∧ a ≠ 35)
  | a :: b :: r => if 33 ≤ a ∧ a ≤ 126 ∧ a ≠ 35 then plainB (b :: r) else if 0 ≤ greek a b then plainB r else false
theorem wd_pos {s : ByteArray} {pos : Nat} (hp : pos < s.size) : 1 ≤ (Utf8.decode s pos).2 := by
  rcases dec_cases s pos hp with h | h | h
  · rw [h.2]; exact Nat.le_refl _
  · rw [h.2.2.2.2]; omega
  · exact h.2.2.2.2
theorem lex_fuel (s : ByteArray) : ∀ (f f' pos : Nat) (st : LS), s.size - pos ≤ f → s.size - pos ≤ f' → lexRun s f pos st = lexRun s f' pos st
  | 0, f', pos, st, h, _ => by rw [lexRun_end (by omega), lexRun_end (by omega)]
  | f + 1, 0, pos, st, _, h => by rw [lexRun_end (by omega), lexRun_end (by omega)]
  | f + 1, f' + 1, pos, st, h, h' => by
    by_cases hp : pos < s.size
    · have := wd_pos hp
      rw [lexRun, lexRun, if_pos hp, if_pos hp]
      split
      · exact lex_fuel s f f' _ _ (by omega) (by omega)
      · split
        · rfl
        · exact lex_fuel s f f' _ _ (by omega) (by omega)
    · rw [lexRun_end hp, lexRun_end hp]
theorem step_in {s : ByteArray} {f pos c wd : Nat} {st : LS} (hp : pos < s.size) (hd : Utf8.decode s pos = (c, wd)) (h1 : 33 ≤ c) (h2 : c ≠ 127) (h3 : c ≠ 65533) (h4 : c ≠ 35) (hr : st.re = false) :
    ∃ co ca, lexRun s (f + 1) pos st = lexRun s f (pos + wd) ⟨st.L, st.ln, co, if st.fr < 0 then (pos : Int) else st.fr, ca, false⟩ := by
  obtain ⟨L, ln, co, fr, ca, re⟩ := st
  simp only at hr
  subst hr
  have hb : badR (c : Int) (s.extract pos s.size) = false := by
    unfold badR
    rw [decide_eq_false (by omega), show ((c : Int) == 127) = false by simpa using (by omega : (c : Int) ≠ 127), show ((c : Int) == 65533) = false by simpa using (by omega : (c : Int) ≠ 65533)]
    rfl
  have hc : cutB false (c : Int) = false := by
    unfold cutB
    rw [show ((c : Int) == 35) = false by simpa using (by omega : (c : Int) ≠ 35), show ((c : Int) == 32) = false by simpa using (by omega : (c : Int) ≠ 32)]
    rfl
  refine ⟨co + 1, nxC fr (co + 1) ca false c, ?_⟩
  rw [lexRun, if_pos hp, hd]
  simp only
  rw [if_neg (by omega), if_neg (by rw [hb]; simp)]
  simp only [nxL, nxF, hc, Bool.false_or, show ((c : Int) == 35) = false by simpa using (by omega : (c : Int) ≠ 35)]
  rfl
theorem step_sp {s : ByteArray} {f pos : Nat} {st : LS} (hp : pos < s.size) (hd : Utf8.decode s pos = (32, 1)) (hr : st.re = false) :
    lexRun s (f + 1) pos st = lexRun s f (pos + 1) ⟨endL st.L s st.ln st.fr st.ca pos, st.ln, st.co + 1, -1, st.ca, false⟩ := by
  obtain ⟨L, ln, co, fr, ca, re⟩ := st
  simp only at hr
  subst hr
  rw [lexRun, if_pos hp, hd]
  rfl
theorem step_nl {s : ByteArray} {f pos : Nat} {st : LS} (hp : pos < s.size) (hd : Utf8.decode s pos = (10, 1)) :
    lexRun s (f + 1) pos st = lexRun s f (pos + 1) ⟨endL st.L s st.ln st.fr st.ca pos, st.ln + 1, 0, -1, st.ca, false⟩ := by
  rw [lexRun, if_pos hp, hd]
  rfl
theorem greek_dec {s : ByteArray} {pos : Nat} {a b : UInt8} {r : List UInt8} (h : rs s pos = a :: b :: r) (hg : 0 ≤ greek a.toNat b.toNat) : pos < s.size ∧ ∃ c, Utf8.decode s pos = (c, 2) ∧ 945 ≤ c ∧ c ≤ 1200 := by
  obtain ⟨h1, h2, h3⟩ := rs_cons h
  obtain ⟨h4, h5, _⟩ := rs_cons h3
  have hle : greek a.toNat b.toNat ≤ 78 ∧ 128 ≤ a.toNat := by
    unfold greek at hg ⊢
    split at hg
    · omega
    · split at hg
      · next h1 h2 => rw [if_neg h1, if_pos h2]; omega
      · omega
  refine ⟨h1, ?_⟩
  obtain ⟨⟨c, k⟩, hdc⟩ : ∃ d, Utf8.decode s pos = d := ⟨_, rfl⟩
  have hc := dec_cases s pos h1
  rw [hdc, h2, h5] at hc
  simp only [Prod.mk.injEq] at hc
  rw [hdc]
  rcases hc with h | h | h
  · omega
  · obtain ⟨_, _, e1, e2, e3⟩ := h
    exact ⟨c, by rw [e3], by omega, by omega⟩
  · have := h.2.1 h4
    omega
theorem char_dec {s : ByteArray} {pos : Nat} {a : UInt8} {r : List UInt8} (h : rs s pos = a :: r) (ha : a.toNat < 128) : pos < s.size ∧ Utf8.decode s pos = (a.toNat, 1) := by
  obtain ⟨h1, h2, _⟩ := rs_cons h
  exact ⟨h1, by rw [dec_low s pos (by omega), h2]⟩
theorem lex_word (s : ByteArray) : ∀ (n : Nat) (wd : List UInt8), wd.length ≤ n → ∀ (pos f : Nat) (st : LS) (rest : List UInt8), rs s pos = wd ++ rest → plainB (wd.map UInt8.toNat) = true → wd ≠ [] → st.re = false → s.size - pos ≤ f →
    ∃ co ca, lexRun s f pos st = lexRun s f (pos + wd.length) ⟨st.L, st.ln, co, if st.fr < 0 then (pos : Int) else st.fr, ca, false⟩
  | 0, wd, hn, _, _, _, _, _, _, h0, _, _ => absurd (List.length_eq_zero_iff.1 (Nat.le_zero.1 hn)) h0
  | n + 1, wd, hn, pos, f, st, rest, hrs, hpl, h0, hre, hf => by
    have fin : ∀ (t : List UInt8) (m : Nat) (st1 : LS), t.length ≤ n → rs s (pos + m) = t ++ rest → plainB (t.map UInt8.toNat) = true → st1.re = false → st1.L = st.L → st1.ln = st.ln → st1.fr = (if st.fr < 0 then (pos : Int) else st.fr) →
        s.size - (pos + m) ≤ f → pos + m + t.length = pos + wd.length → lexRun s f pos st = lexRun s f (pos + m) st1 → ∃ co ca, lexRun s f pos st = lexRun s f (pos + wd.length) ⟨st.L, st.ln, co, if st.fr < 0 then (pos : Int) else st.fr, ca, false⟩ := by
      intro t m st1 htn htr htp hr1 e1 e2 e3 hf1 hlen hrun
      obtain ⟨L1, ln1, co1, fr1, ca1, re1⟩ := st1
      simp only at hr1 e1 e2 e3
      subst hr1 e1 e2 e3
      by_cases ht : t = []
      · subst ht
        rw [List.length_nil, Nat.add_zero] at hlen
        exact ⟨co1, ca1, by rw [← hlen]; exact hrun⟩
      · obtain ⟨co, ca, h2⟩ := lex_word s n t htn (pos + m) f ⟨st.L, st.ln, co1, if st.fr < 0 then (pos : Int) else st.fr, ca1, false⟩ rest htr htp ht rfl hf1
        refine ⟨co, ca, ?_⟩
        rw [hrun, h2, hlen]
        simp only
        have : ¬ (if st.fr < 0 then (pos : Int) else st.fr) < 0 := by split <;> omega
        rw [if_neg this]
    obtain ⟨f, rfl⟩ : ∃ f', f = f' + 1 := by
      cases wd with
      | nil => exact absurd rfl h0
      | cons a t =>
        obtain ⟨h1, _, _⟩ := rs_cons hrs
        exact ⟨f - 1, by omega⟩
    have one : ∀ (a : UInt8) (t : List UInt8), wd = a :: t → (33 ≤ a.toNat ∧ a.toNat ≤ 126 ∧ a.toNat ≠ 35) → plainB (t.map UInt8.toNat) = true → ∃ co ca, lexRun s (f + 1) pos st = lexRun s (f + 1) (pos + wd.length) ⟨st.L, st.ln, co, if st.fr < 0 then (pos : Int) else st.fr, ca, false⟩ := by
      intro a t hw ha ht
      subst hw
      obtain ⟨hp, hd⟩ := char_dec hrs (by omega)
      obtain ⟨co, ca, h2⟩ := step_in (f := f) (st := st) hp hd (by omega) (by omega) (by omega) (by omega) hre
      refine fin t 1 ⟨st.L, st.ln, co, if st.fr < 0 then (pos : Int) else st.fr, ca, false⟩ (by simpa using hn) (rs_cons hrs).2.2 ht rfl rfl rfl rfl (by omega) (by rw [List.length_cons]; omega) (h2.trans (lex_fuel s _ _ _ _ (by omega) (by omega)))
    match wd, hn, hrs, hpl, h0, fin, one with
    | [a], hn, hrs, hpl, h0, fin, one => exact one a [] rfl (of_decide_eq_true hpl) rfl
    | a :: b :: r, hn, hrs, hpl, h0, fin, one =>
      by_cases ha : 33 ≤ a.toNat ∧ a.toNat ≤ 126 ∧ a.toNat ≠ 35
      · refine one a (b :: r) rfl ha ?_
        rw [List.map_cons, List.map_cons, plainB, if_pos ha] at hpl
        exact hpl
      · rw [List.map_cons, List.map_cons, plainB, if_neg ha] at hpl
        split at hpl
        · next hg =>
          obtain ⟨hp, c, hd, c1, c2⟩ := greek_dec hrs hg
          obtain ⟨co, ca, h2⟩ := step_in (f := f) (st := st) hp hd (by omega) (by omega) (by omega) (by omega) hre
          refine fin r 2 ⟨st.L, st.ln, co, if st.fr < 0 then (pos : Int) else st.fr, ca, false⟩ (by simp only [List.length_cons] at hn; omega) (rs_at (a := [a, b]) hrs) hpl rfl rfl rfl rfl (by omega) (by simp only [List.length_cons]; omega) (h2.trans (lex_fuel s _ _ _ _ (by omega) (by omega)))
        · cases hpl
theorem join_two (a b : List UInt8) (r : List (List UInt8)) (sep : List UInt8) : Lib.join (a :: b :: r) sep = a ++ (sep ++ Lib.join (b :: r) sep) := by
  simp [Lib.join, List.intercalate]
def wordOk (w : List UInt8) : Prop := w ≠ [] ∧ plainB (w.map UInt8.toNat) = true
theorem endL_word {s : ByteArray} {L : List Wd} {ln ca : Int} {pos : Nat} {w rest : List UInt8} (h : rs s pos = w ++ rest) : endL L s ln (pos : Int) ca (pos + w.length) = L ++ [⟨⟨w.toArray⟩, ln, ca⟩] := by
  unfold endL
  rw [if_pos (by omega), Int.toNat_natCast, rs_text h]
theorem lex_line (s : ByteArray) : ∀ (ws : List (List UInt8)), ws ≠ [] → (∀ w ∈ ws, wordOk w) → ∀ (pos f : Nat) (st : LS) (rest : List UInt8), rs s pos = Lib.join ws [32] ++ ([10] ++ rest) → st.fr = -1 → st.re = false → s.size - pos ≤ f →
    ∃ ca T, lexRun s f pos st = lexRun s f (pos + ((Lib.join ws [32]).length + 1)) ⟨st.L ++ T, st.ln + 1, 0, -1, ca, false⟩ ∧ T.map Wd.tx = ws.map (fun w => (⟨w.toArray⟩ : ByteArray)) ∧ ∀ d ∈ T, d.ln = st.ln
  | [], h0, _, _, _, _, _, _, _, _, _ => absurd rfl h0
  | [w], _, hw, pos, f, st, rest, hrs, hfr, hre, hf => by
    obtain ⟨hw0, hwp⟩ := hw w (by simp)
    rw [Lib.join_one] at hrs ⊢
    obtain ⟨co, ca, h1⟩ := lex_word s w.length w (Nat.le_refl _) pos f st ([10] ++ rest) hrs hwp hw0 hre hf
    have hrs2 := rs_at hrs
    obtain ⟨hp, hd⟩ := char_dec (a := 10) hrs2 (by decide)
    obtain ⟨f, rfl⟩ : ∃ f', f = f' + 1 := ⟨f - 1, by omega⟩
    rw [hfr, if_pos (by omega)] at h1
    refine ⟨ca, [⟨⟨w.toArray⟩, st.ln, ca⟩], ?_, rfl, by simp⟩
    rw [h1, step_nl hp hd]
    simp only
    rw [endL_word hrs]
    exact lex_fuel s _ _ _ _ (by omega) (by omega)
  | w :: w2 :: r, _, hw, pos, f, st, rest, hrs, hfr, hre, hf => by
    obtain ⟨hw0, hwp⟩ := hw w (by simp)
    rw [join_two, List.append_assoc] at hrs
    obtain ⟨co, ca, h1⟩ := lex_word s w.length w (Nat.le_refl _) pos f st _ hrs hwp hw0 hre hf
    have hrs2 := rs_at hrs
    rw [List.append_assoc] at hrs2
    obtain ⟨hp, hd⟩ := char_dec (a := 32) hrs2 (by decide)
    have hrs3 := rs_at hrs2
    obtain ⟨f, rfl⟩ : ∃ f', f = f' + 1 := ⟨f - 1, by omega⟩
    rw [hfr, if_pos (by omega)] at h1
    have h2 := step_sp (f := f) (st := ⟨st.L, st.ln, co, (pos : Int), ca, false⟩) hp hd rfl
    simp only at h2
    rw [endL_word hrs] at h2
    rw [lex_fuel s f (f + 1) (pos + w.length + 1) _ (by omega) (by omega)] at h2
    obtain ⟨ca2, T, h3, h4, h5⟩ := lex_line s (w2 :: r) (by simp) (fun x hx => hw x (by simp [hx])) (pos + w.length + 1) (f + 1) ⟨st.L ++ [⟨⟨w.toArray⟩, st.ln, ca⟩], st.ln, co + 1, -1, ca, false⟩ rest hrs3 rfl rfl (by omega)
    simp only at h3 h5
    refine ⟨ca2, ⟨⟨w.toArray⟩, st.ln, ca⟩ :: T, ?_, by rw [List.map_cons, h4]; rfl, fun d hd => ?_⟩
    · rw [h1, h2, h3, join_two, List.append_assoc, List.singleton_append]
      congr 1
      simp only [List.length_append, List.length_cons, List.length_nil]
      omega
    · rcases List.mem_cons.1 hd with rfl | hd
      · rfl
      · exact h5 d hd
/-- Words that are the lines' words, from line n on. -/
def LinesOf : Int → List Wd → List (List ByteArray) → Prop
  | _, L, [] => L = []
  | n, L, W :: r => ∃ T R, L = T ++ R ∧ T.map Wd.tx = W ∧ (∀ d ∈ T, d.ln = n) ∧ W ≠ [] ∧ LinesOf (n + 1) R r
theorem LinesOf.ge : ∀ {Ls : List (List ByteArray)} {n : Int} {L : List Wd}, LinesOf n L Ls → ∀ d ∈ L, n ≤ d.ln
  | [], n, L, h, d, hd => by rw [show L = [] from h] at hd; cases hd
  | W :: r, n, L, ⟨T, R, hl, _, ht, _, hr⟩, d, hd => by
    rw [hl] at hd
    rcases List.mem_append.1 hd with hd | hd
    · rw [ht d hd]; exact Int.le_refl _
    · have := LinesOf.ge hr d hd
      omega
def lineB (ws : List (List UInt8)) : List UInt8 := Lib.join ws [32] ++ [10]
def wordsB (ws : List (List UInt8)) : List ByteArray := ws.map (fun w => (⟨w.toArray⟩ : ByteArray))
theorem lex_lines (s : ByteArray) : ∀ (Ls : List (List (List UInt8))), (∀ ws ∈ Ls, ws ≠ [] ∧ ∀ w ∈ ws, wordOk w) → ∀ (pos f : Nat) (st : LS), rs s pos = Ls.flatMap lineB → st.fr = -1 → st.re = false → s.size - pos ≤ f →
    ∃ L, lexRun s f pos st = (st.L ++ L, 0, 0, 0) ∧ LinesOf st.ln L (Ls.map wordsB)
  | [], _, pos, f, st, hrs, hfr, _, _ => by
    have h := rs_len s pos
    rw [hrs] at h
    refine ⟨[], ?_, rfl⟩
    rw [lexRun_end (by simp at h; omega)]
    unfold endL
    rw [if_neg (by omega), List.append_nil]
  | ws :: r, hok, pos, f, st, hrs, hfr, hre, hf => by
    obtain ⟨h0, hw⟩ := hok ws (by simp)
    rw [List.flatMap_cons, lineB, List.append_assoc] at hrs
    obtain ⟨ca, T, h1, h2, h3⟩ := lex_line s ws h0 hw pos f st _ hrs hfr hre hf
    have hrs2 : rs s (pos + ((Lib.join ws [32]).length + 1)) = r.flatMap lineB := by
      have := rs_at (rs_at hrs)
      rwa [Nat.add_assoc] at this
    obtain ⟨L, h4, h5⟩ := lex_lines s r (fun x hx => hok x (by simp [hx])) _ f ⟨st.L ++ T, st.ln + 1, 0, -1, ca, false⟩ hrs2 rfl rfl (by omega)
    simp only at h4 h5
    refine ⟨T ++ L, by rw [h1, h4, List.append_assoc], T, L, rfl, h2, h3, ?_, h5⟩
    intro e
    exact h0 (by simpa [wordsB] using e)
theorem lexM_lines {s : ByteArray} (hs : s.size ≤ 4096) {Ls : List (List (List UInt8))} (hok : ∀ ws ∈ Ls, ws ≠ [] ∧ ∀ w ∈ ws, wordOk w) (h : s.data.toList = Ls.flatMap lineB) :
    ∃ L, lexM s = (L, 0, 0, 0) ∧ LinesOf 1 L (Ls.map wordsB) := by
  obtain ⟨L, h1, h2⟩ := lex_lines s Ls hok 0 s.size ⟨[], 1, 0, -1, 0, false⟩ (by unfold rs; rw [List.drop_zero]; exact h) rfl rfl (by omega)
  refine ⟨L, ?_, h2⟩
  unfold lexM
  rw [if_neg (by omega), h1]
  rfl
def parseLines : P3 → Int → List (List ByteArray) → P3 × Int × Int
  | p, _, [] => (p, 0, 0)
  | p, n, W :: r => if (lineM p W).1 = 0 then parseLines (lineM p W).2 (n + 1) r else (noP, n, (lineM p W).1)
theorem parseRun_lines : ∀ (Ls : List (List ByteArray)) (f : Nat) (p : P3) (n : Int) (L : List Wd), L.length ≤ f → LinesOf n L Ls → parseRun f p L = parseLines p n Ls
  | [], f, p, n, L, _, h => by
    rw [show L = [] from h]
    cases f <;> rfl
  | W :: r, f, p, n, L, hf, ⟨T, R, hl, hT, hn, hW, hR⟩ => by
    cases T with
    | nil => exact absurd (by rw [← hT]; rfl) hW
    | cons a T =>
      subst hl
      rw [List.cons_append, List.length_cons] at hf
      obtain ⟨f, rfl⟩ : ∃ f', f = f' + 1 := ⟨f - 1, by omega⟩
      have han : a.ln = n := hn a (by simp)
      have hsp := split_ln (a := a) (L := T ++ R) (T := a :: T) (R := R) rfl (fun d hd => by rw [hn d hd, han]) (by
        cases R with
        | nil => exact .inl rfl
        | cons d R' =>
          refine .inr ⟨d, R', rfl, ?_⟩
          have := hR.ge d (by simp)
          omega)
      rw [List.cons_append, parseRun, hsp.1, hsp.2.1, hT, han, parseLines]
      rw [List.length_append] at hf
      split
      · exact parseRun_lines r f _ (n + 1) R (by omega) hR
      · rfl
theorem parseM_lines {s : ByteArray} (hs : s.size ≤ 4096) {Ls : List (List (List UInt8))} (hok : ∀ ws ∈ Ls, ws ≠ [] ∧ ∀ w ∈ ws, wordOk w) (h : s.data.toList = Ls.flatMap lineB) :
    parseM s = endM (parseLines noP 1 (Ls.map wordsB)) := by
  obtain ⟨L, h1, h2⟩ := lexM_lines hs hok h
  unfold parseM
  rw [h1, if_pos rfl]
  rw [parseRun_lines _ _ _ _ _ (Nat.le_refl _) h2]
end Go.Proofs.YtkjhgfjlknbdkaaDoor
