/- Entries' lines one behind the other, and a line that is none among them. Plain Lean, no program. -/
import Derived.Test.YtbgpniepgbmkaaaDoorTalA
import Derived.Test.YtbgpniepgbmkaaaDoorR3g
namespace Go.Proofs.YtbgpniepgbmkaaaDoor
open Go.RowKit

def entLines (D : List Dm) : List En → Int → List (List ByteArray) → List En × Int × Int
  | out, _, [] => (out, 0, 0)
  | out, n, W :: r => if (entM D W).2 = 0 then entLines D (out ++ [(entM D W).1]) (n + 1) r else ([], n, (entM D W).2)
theorem readRun_lines (D : List Dm) : ∀ (Ls : List (List ByteArray)) (f : Nat) (out : List En) (n : Int) (L : List Wd), L.length ≤ f → LinesOf n L Ls → readRun D f out L = entLines D out n Ls
  | [], f, out, n, L, _, h => by
    rw [show L = [] from h]
    cases f <;> rfl
  | W :: r, f, out, n, L, hf, ⟨T, R, hl, hT, hn, hW, hR⟩ => by
    cases T with
    | nil => exact absurd (by rw [← hT]; rfl) hW
    | cons a T =>
      subst hl
      rw [List.cons_append, List.length_cons] at hf
      obtain ⟨f, rfl⟩ : ∃ f', f = f' + 1 := ⟨f - 1, by omega⟩
      have han : a.ln = n := hn a (by simp)
      have hsp := split_ln (a := a) (L := T ++ R) (T := a :: T) (R := R) rfl (fun d hd => by rw [hn d hd, han]) (by
        cases R with
        | nil => exact .inl rfl
        | cons d R' =>
          refine .inr ⟨d, R', rfl, ?_⟩
          have := hR.ge d (by simp)
          omega)
      rw [List.cons_append, readRun, hsp.1, hsp.2.1, hT, han, entLines]
      rw [List.length_append] at hf
      split
      · exact readRun_lines D r f _ (n + 1) R (by omega) hR
      · rfl
theorem entLines_ok {D : List Dm} : ∀ (kept : List En) (B : List (List ByteArray)) (out : List En) (n : Int), (∀ x ∈ kept, entM D (wordsB (wE D x)) = (x, 0)) → entLines D out n (kept.map (fun x => wordsB (wE D x)) ++ B) = entLines D (out ++ kept) (n + kept.length) B
  | [], B, out, n, _ => by simp
  | x :: r, B, out, n, h => by
    rw [List.map_cons, List.cons_append, entLines, h x (by simp), if_pos rfl, entLines_ok r B _ _ (fun y hy => h y (by simp [hy]))]
    simp only [List.append_assoc, List.singleton_append, List.length_cons]
    congr 1
    omega
theorem lex_prefix (s : ByteArray) : ∀ (Ls : List (List (List UInt8))), (∀ ws ∈ Ls, ws ≠ [] ∧ ∀ w ∈ ws, wordOk w) → ∀ (pos f : Nat) (st : LS) (rest : List UInt8), rs s pos = Ls.flatMap lineB ++ rest → st.co = 0 → st.fr = -1 → st.re = false → s.size - pos ≤ f →
    ∃ L ca, lexRun s f pos st = lexRun s f (pos + (Ls.flatMap lineB).length) ⟨st.L ++ L, st.ln + Ls.length, 0, -1, ca, false⟩ ∧ LinesOf st.ln L (Ls.map wordsB)
  | [], _, pos, f, st, rest, _, hco, hfr, hre, _ => by
    obtain ⟨L0, ln, co, fr, ca, re⟩ := st
    simp only at hco hfr hre
    subst hco hfr hre
    exact ⟨[], ca, by simp, rfl⟩
  | ws :: r, hok, pos, f, st, rest, hrs, hco, hfr, hre, hf => by
    obtain ⟨h0, hw⟩ := hok ws (by simp)
    have hrs' := hrs
    rw [List.flatMap_cons, lineB, List.append_assoc, List.append_assoc] at hrs
    obtain ⟨ca, T, h1, h2, h3⟩ := lex_line s ws h0 hw pos f st _ hrs hfr hre hf
    have hrs2 : rs s (pos + ((Lib.join ws [32]).length + 1)) = r.flatMap lineB ++ rest := by
      have := rs_at (rs_at hrs)
      rwa [Nat.add_assoc] at this
    obtain ⟨L, ca2, h4, h5⟩ := lex_prefix s r (fun x hx => hok x (by simp [hx])) _ f ⟨st.L ++ T, st.ln + 1, 0, -1, ca, false⟩ rest hrs2 rfl rfl rfl (by omega)
    simp only at h4 h5
    refine ⟨T ++ L, ca2, ?_, T, L, rfl, h2, h3, ?_, h5⟩
    · rw [h1, h4, List.append_assoc]
      congr 1
      · rw [List.flatMap_cons, lineB]
        simp only [List.length_append, List.length_cons, List.length_nil]
        omega
      · congr 1
        rw [List.length_cons]
        omega
    · intro e
      exact h0 (by simpa [wordsB] using e)
theorem oneRun_ln (u : ByteArray) (ln : Int) : ∀ (f pos : Nat) (st st' : LS), st.L.map Wd.tx = st'.L.map Wd.tx → (∀ d ∈ st.L, d.ln = ln) → st.ln = ln → st.fr = st'.fr → st.ca = st'.ca → st.co = st'.co → st.re = st'.re →
    (oneRun u f pos st).map Wd.tx = (oneRun u f pos st').map Wd.tx ∧ ∀ d ∈ oneRun u f pos st, d.ln = ln := by
  have he : ∀ (pos : Nat) (st st' : LS), st.L.map Wd.tx = st'.L.map Wd.tx → (∀ d ∈ st.L, d.ln = ln) → st.ln = ln → st.fr = st'.fr → st.ca = st'.ca →
      (endL st.L u st.ln st.fr st.ca pos).map Wd.tx = (endL st'.L u st'.ln st'.fr st'.ca pos).map Wd.tx ∧ ∀ d ∈ endL st.L u st.ln st.fr st.ca pos, d.ln = ln := by
    intro pos st st' h1 h2 h3 h4 h5
    unfold endL
    rw [← h4, ← h5]
    split
    · refine ⟨by rw [List.map_append, List.map_append, h1]; rfl, fun d hd => ?_⟩
      rcases List.mem_append.1 hd with hd | hd
      · exact h2 d hd
      · rw [List.mem_singleton] at hd
        rw [hd]; exact h3
    · exact ⟨h1, h2⟩
  intro f
  induction f with
  | zero => intro pos st st' h1 h2 h3 h4 h5 _ _; exact he _ _ _ h1 h2 h3 h4 h5
  | succ f ih =>
    intro pos st st' h1 h2 h3 h4 h5 h6 h7
    rw [oneRun, oneRun]
    split
    · split
      · obtain ⟨e1, e2⟩ := he pos st st' h1 h2 h3 h4 h5
        exact ih _ _ _ e1 e2 h3 rfl h5 (by simp only [h6]) rfl
      · refine ih _ _ _ h1 h2 h3 ?_ ?_ (by simp only [h6]) rfl
        · simp only [h4]
        · simp only [h4, h5, h6]
    · exact he _ _ _ h1 h2 h3 h4 h5
theorem oneM_ln (t : ByteArray) (ln : Int) : (oneM t ln).map Wd.tx = (oneM t 1).map Wd.tx ∧ ∀ d ∈ oneM t ln, d.ln = ln :=
  oneRun_ln _ ln _ _ _ _ rfl (fun d hd => by cases hd) rfl rfl rfl rfl rfl
theorem bad_same {s : ByteArray} {a b p : Nat} (hb : b ≤ s.size) (hp : p < b - a) (hend : b = s.size ∨ bAt s b < 128) :
    badAt (s.extract a b) p = badAt s (a + p) ∧ (badAt s (a + p) = false → wideM (s.extract a b) p = wideM s (a + p) ∧ a + p + wideM s (a + p) ≤ b) := by
  have hsz : (s.extract a b).size = b - a := by rw [ByteArray.size_extract]; omega
  have hbt := bAt_extract (s := s) (a := a) (b := b) (p := p) hb hp
  by_cases h1 : 1 ≤ wideM s (a + p)
  · have h2 : a + p + wideM s (a + p) ≤ b := by
      rcases Nat.lt_or_ge b (a + p + wideM s (a + p)) with h | h
      · have h3 := wide_inner (s := s) (pos := a + p) (j := b - (a + p)) (by omega) (by omega)
        rw [show a + p + (b - (a + p)) = b by omega] at h3
        omega
      · exact h
    have h3 := wide_same hb h1 h2
    refine ⟨?_, fun _ => ⟨h3, h2⟩⟩
    unfold badAt
    rw [h3, hbt]
  · have h0 : wideM s (a + p) = 0 := by omega
    have h3 : wideM (s.extract a b) p = 0 := by
      rcases Nat.eq_zero_or_pos (wideM (s.extract a b) p) with h | h
      · exact h
      · exfalso
        have hle := wide_le (s := s.extract a b) (pos := p) (by omega)
        rw [hsz] at hle
        have h4 : wideM s (a + p) = wideM (s.extract a b) p := by
          unfold wideM at h hle ⊢
          rw [hsz, hbt] at h hle ⊢
          exact wideN_same h (by omega) (fun h => by rw [bAt_extract hb (by omega)]; rfl) (fun h => by rw [bAt_extract hb (by omega)]; rfl) (fun h => by rw [bAt_extract hb (by omega)]; rfl)
        omega
    refine ⟨?_, fun h => ?_⟩
    · unfold badAt
      rw [h3, h0, hbt]
    · unfold badAt at h
      rw [h0] at h
      simp at h
theorem bad_seg {s : ByteArray} {a b : Nat} (hab : a ≤ b) (hb : b ≤ s.size) (hend : b = s.size ∨ bAt s b < 128) (hno : ∀ p, a ≤ p → p < b → bAt s p ≠ 10) (n : Int) :
    ∀ (m p f F : Nat) (co : Int), (b - a) - p ≤ m → p ≤ b - a → (b - a) - p ≤ f → s.size - (a + p) ≤ F →
      ((badRun (s.extract a b) f p 1 co).1 ≠ 0 → badRun s F (a + p) n co = (n, (badRun (s.extract a b) f p 1 co).2) ∧ (badRun (s.extract a b) f p 1 co).1 = 1) ∧
      ((badRun (s.extract a b) f p 1 co).1 = 0 → ∃ F2 co2, s.size - b ≤ F2 ∧ badRun s F (a + p) n co = badRun s F2 b n co2) := by
  have hsz : (s.extract a b).size = b - a := by rw [ByteArray.size_extract]; omega
  intro m
  induction m with
  | zero =>
    intro p f F co hm hp hf hF
    have : p = b - a := by omega
    subst this
    rw [badRun_end (by omega)]
    exact ⟨fun h => absurd rfl h, fun _ => ⟨F, co, by omega, by rw [show a + (b - a) = b by omega]⟩⟩
  | succ m ih =>
    intro p f F co hm hp hf hF
    by_cases hpe : p = b - a
    · subst hpe
      rw [badRun_end (by omega)]
      exact ⟨fun h => absurd rfl h, fun _ => ⟨F, co, by omega, by rw [show a + (b - a) = b by omega]⟩⟩
    obtain ⟨f, rfl⟩ : ∃ f', f = f' + 1 := ⟨f - 1, by omega⟩
    obtain ⟨F, rfl⟩ : ∃ F', F = F' + 1 := ⟨F - 1, by omega⟩
    obtain ⟨e1, e2⟩ := bad_same (s := s) (a := a) (b := b) (p := p) hb (by omega) hend
    have hbt := bAt_extract (s := s) (a := a) (b := b) (p := p) hb (by omega)
    have h10 := hno (a + p) (by omega) (by omega)
    rw [badRun, if_pos (by omega : p < (s.extract a b).size), e1, hbt, if_neg h10, badRun, if_pos (by omega : a + p < s.size), if_neg h10]
    by_cases hbd : badAt s (a + p) = true
    · rw [if_pos hbd, if_pos hbd]
      exact ⟨fun _ => ⟨rfl, rfl⟩, fun h => by simp at h⟩
    · have hbf : badAt s (a + p) = false := by simpa using hbd
      obtain ⟨w1, w2⟩ := e2 hbf
      have w3 := wide_pos hbf
      rw [if_neg hbd, if_neg hbd, w1]
      have := ih (p + wideM s (a + p)) f F (co + 1) (by omega) (by omega) (by omega) (by omega)
      rw [← Nat.add_assoc] at this
      exact this
/-- A line that is none, between lines that are: what the reader says of all, and of it alone. -/
theorem lex_odd {s odd : ByteArray} {Ls : List (List (List UInt8))} (hok : ∀ ws ∈ Ls, ws ≠ [] ∧ ∀ w ∈ ws, wordOk w) (hsz : s.size ≤ 4096) (hno : ∀ x ∈ odd.data.toList, x ≠ 10)
    (h : s.data.toList = Ls.flatMap lineB ++ (odd.data.toList ++ ([10] ++ Ls.flatMap lineB))) :
    (∃ c, lexM odd = ([], 2, 1, c) ∧ lexM s = ([], 2, 1 + (Ls.length : Int), c)) ∨
    (∃ L0 L1, lexM odd = (oneM odd 1, 0, 0, 0) ∧ lexM s = (L0 ++ (oneM odd (1 + (Ls.length : Int)) ++ L1), 0, 0, 0) ∧ LinesOf 1 L0 (Ls.map wordsB) ∧ LinesOf (1 + (Ls.length : Int) + 1) L1 (Ls.map wordsB)) := by
  have hl := congrArg List.length h
  simp only [List.length_append, Array.length_toList, List.length_cons, List.length_nil] at hl
  obtain ⟨a, ha⟩ : ∃ a, a = (Ls.flatMap lineB).length := ⟨_, rfl⟩
  have hss : s.data.size = s.size := rfl
  have hos : odd.data.size = odd.size := rfl
  rw [hss, hos, ← ha] at hl
  have hrs0 : rs s 0 = Ls.flatMap lineB ++ (odd.data.toList ++ ([10] ++ Ls.flatMap lineB)) := by unfold rs; rw [List.drop_zero]; exact h
  have hrsa : rs s a = odd.data.toList ++ ([10] ++ Ls.flatMap lineB) := by
    have := rs_at hrs0
    rwa [Nat.zero_add, ← ha] at this
  obtain ⟨e, he⟩ : ∃ e, e = a + odd.size := ⟨_, rfl⟩
  have hrse : rs s e = [10] ++ Ls.flatMap lineB := by
    have := rs_at hrsa
    rw [Array.length_toList, hos, ← he] at this
    exact this
  have hrse1 : rs s (e + 1) = Ls.flatMap lineB := (rs_cons hrse).2.2
  have h10 : bAt s e = 10 := (rs_cons hrse).2.1
  have hext : s.extract a e = odd := by
    have := rs_text hrsa
    rw [Array.length_toList, hos, ← he] at this
    rw [this]
  have hnoS : ∀ p, a ≤ p → p < e → bAt s p ≠ 10 := by
    intro p hp1 hp2 h0
    have hb := bAt_extract (s := s) (a := a) (b := e) (p := p - a) (by omega) (by omega)
    rw [hext, show a + (p - a) = p by omega, h0] at hb
    obtain ⟨x, hx1, hx2⟩ := bAt_list (t := odd) (p := p - a) (by omega)
    rw [hb] at hx2
    exact hno x (List.mem_of_getElem? hx1) (UInt8.toNat_inj.1 (by rw [← hx2]; rfl))
  obtain ⟨L0, ca, hp1, hp2⟩ := lex_prefix s Ls hok 0 s.size ⟨[], 1, 0, -1, 0, false⟩ _ hrs0 rfl rfl rfl (by omega)
  simp only [List.nil_append, Nat.zero_add] at hp1 hp2
  rw [← ha] at hp1
  have hS : lexM s = lexRun s s.size a ⟨L0, 1 + (Ls.length : Int), 0, -1, ca, false⟩ := by
    unfold lexM
    rw [if_neg (by omega), hp1]
  have hO : lexM odd = lexRun odd odd.size 0 ⟨[], 1, 0, -1, 0, false⟩ := by
    unfold lexM
    rw [if_neg (by omega)]
  rw [lex_two s _ _ _ (by simp only; omega)] at hS
  rw [lex_two odd _ _ _ (by simp)] at hO
  simp only at hS hO
  obtain ⟨n, hn⟩ : ∃ n : Int, n = 1 + (Ls.length : Int) := ⟨_, rfl⟩
  rw [← hn] at hS ⊢
  obtain ⟨b1, b2⟩ := bad_seg (s := s) (a := a) (b := e) (by omega) (by omega) (.inr (by omega)) hnoS n (e - a) 0 odd.size s.size 0 (by omega) (by omega) (by omega) (by omega)
  rw [hext, Nat.add_zero] at b1 b2
  by_cases hbad : (badRun odd odd.size 0 1 0).1 = 0
  · obtain ⟨F2, co2, hF2, hr2⟩ := b2 hbad
    rw [if_pos hbad] at hO
    -- behind the line all is good
    have hafter : ∀ (L : List Wd) (ca' : Int) (F : Nat), s.size - (e + 1) ≤ F → (badRun s F (e + 1) (n + 1) 0).1 = 0 ∧ ∃ L1, tokRun s F (e + 1) ⟨L, n + 1, 0, -1, ca', false⟩ = L ++ L1 ∧ LinesOf (n + 1) L1 (Ls.map wordsB) := by
      intro L ca' F hF
      obtain ⟨L1, g1, g2⟩ := lex_lines s Ls hok (e + 1) F ⟨L, n + 1, 0, -1, ca', false⟩ hrse1 rfl rfl hF
      rw [lex_two s _ _ _ (by simp only; omega)] at g1
      simp only at g1 g2
      by_cases hz : (badRun s F (e + 1) (n + 1) 0).1 = 0
      · rw [if_pos hz] at g1
        injection g1 with g1 _
        exact ⟨hz, L1, g1, g2⟩
      · rw [if_neg hz] at g1
        injection g1 with _ g1
        injection g1 with g1 _
        cases g1
    have hwid : wideM s e = 1 := by
      have hw := wide_at s e (by omega)
      obtain ⟨_, hd⟩ := char_dec hrse (by decide)
      have := (cut_eq false (s := s) (pos := e) (by omega) (by
        have hb := bad_at (s := s) (pos := e) (by omega)
        unfold badAt
        have : wideM s e ≠ 0 := by
          unfold wideM wideN
          rw [h10, if_neg (by omega), if_pos (by omega)]
          decide
        rw [h10]
        simp [this])).2.2.2
      rw [hd] at this
      exact this.symm
    have hgS : (badRun s s.size a n 0).1 = 0 := by
      rw [hr2]
      obtain ⟨F3, rfl⟩ : ∃ F', F2 = F' + 1 := ⟨F2 - 1, by omega⟩
      have hbe : badAt s e = false := by
        unfold badAt
        rw [hwid, h10]
        rfl
      rw [badRun, if_pos (by omega), hbe, if_neg (by simp), if_pos h10, hwid]
      exact (hafter [] 0 F3 (by omega)).1
    rw [if_pos hgS] at hS
    have hgr := good_of s s.size a n 0 (by omega) hgS
    obtain ⟨_, _, t3⟩ := line_tok (s := s) (a := a) (e := e) (F := s.size) (L := L0) (ln := n) (ca := ca) (by omega) (by omega) hnoS (.inr h10) (by omega) hgr
    obtain ⟨F4, ca4, hF4, _, t4⟩ := t3 (by omega)
    rw [hext] at t4
    obtain ⟨_, L1, t5, t6⟩ := hafter (L0 ++ oneM odd n) ca4 F4 (by omega)
    have hgo := good_of odd odd.size 0 1 0 (by omega) hbad
    obtain ⟨_, u2, _⟩ := line_tok (s := odd) (a := 0) (e := odd.size) (F := odd.size) (L := []) (ln := 1) (ca := 0) (by omega) (by omega) (fun p _ hp h0 => by
      obtain ⟨x, hx1, hx2⟩ := bAt_list (t := odd) (p := p) hp
      rw [h0] at hx2
      exact hno x (List.mem_of_getElem? hx1) (UInt8.toNat_inj.1 (by rw [← hx2]; rfl))) (.inl rfl) (by omega) hgo
    have u3 := u2 rfl
    rw [ByteArray.extract_zero_size, List.nil_append] at u3
    refine .inr ⟨L0, L1, by rw [hO, u3], ?_, hp2, t6⟩
    rw [hS, t4, t5, List.append_assoc]
  · obtain ⟨g1, g2⟩ := b1 hbad
    rw [if_neg hbad, g2] at hO
    rw [g1, if_neg (by simp only; omega)] at hS
    exact .inl ⟨_, hO, hS⟩
theorem linesOf_app : ∀ (A : List (List ByteArray)) (B : List (List ByteArray)) (n : Int) (L R : List Wd), LinesOf n L A → LinesOf (n + A.length) R B → LinesOf n (L ++ R) (A ++ B)
  | [], B, n, L, R, h, hr => by
    rw [show L = [] from h]
    simpa using hr
  | W :: A, B, n, L, R, ⟨T, Q, h1, h2, h3, h4, h5⟩, hr => by
    refine ⟨T, Q ++ R, by rw [h1, List.append_assoc], h2, h3, h4, linesOf_app A B (n + 1) Q R h5 ?_⟩
    rw [List.length_cons] at hr
    rw [show n + 1 + (A.length : Int) = n + ((A.length + 1 : Nat) : Int) by omega]
    exact hr
/-- The lines of entries, as one text. -/
def manyT (D : List Dm) (kept : List En) : List UInt8 := kept.flatMap (fun x => lineB (wE D x))
theorem many_map (D : List Dm) (kept : List En) : manyT D kept = (kept.map (wE D)).flatMap lineB := by
  unfold manyT
  rw [List.flatMap_map]
theorem read_many {p : P3} (h : checkM p.D p.S p.K = 0) {kept : List En} (hk : ∀ x ∈ kept, okE p.D x ∧ enB x) {s : ByteArray} (hs : s.data.toList = manyT p.D kept) (hz : s.size ≤ 4096) : readT p s = (kept, 0, 0) := by
  obtain ⟨D, S, K⟩ := p
  have hu := check_all h
  obtain ⟨L, h1, h2⟩ := lexM_lines (s := s) hz (Ls := kept.map (wE D)) (fun ws hw => by
    obtain ⟨x, hx, rfl⟩ := List.mem_map.1 hw
    exact wE_ok hu (hk x hx).1) (by rw [hs, many_map])
  unfold readT
  rw [if_pos h, h1, if_pos rfl]
  show readRun D L.length [] L = _
  rw [readRun_lines D _ _ _ _ _ (Nat.le_refl _) h2, List.map_map]
  have := entLines_ok (D := D) kept [] [] 1 (fun x hx => ent_line hu (hk x hx).1 (hk x hx).2)
  rw [List.append_nil, List.nil_append] at this
  exact this
/-- A line that is none, among entries' lines. -/
theorem read_odd {p : P3} (h : checkM p.D p.S p.K = 0) {kept : List En} (hk : ∀ x ∈ kept, okE p.D x ∧ enB x) {odd s : ByteArray} (hno : ∀ x ∈ odd.data.toList, x ≠ 10) (hs : s.data.toList = manyT p.D kept ++ (odd.data.toList ++ ([10] ++ manyT p.D kept))) (hz : s.size ≤ 4096) :
    ((readT p odd).2.2 = 0 → (readT p odd).1.length ≤ 1 ∧ (readT p odd).2.1 = 0) ∧
    ((readT p odd).2.2 ≠ 0 → (readT p odd).2.1 = 1 ∧ readT p s = ([], 1 + (kept.length : Int), (readT p odd).2.2)) := by
  obtain ⟨D, S, K⟩ := p
  have hu := check_all h
  have hodd : readT ⟨D, S, K⟩ odd = if (lexM odd).2.1 = 0 then readRun D (lexM odd).1.length [] (lexM odd).1 else ([], (lexM odd).2.2.1, (lexM odd).2.1) := if_pos h
  have hall : readT ⟨D, S, K⟩ s = if (lexM s).2.1 = 0 then readRun D (lexM s).1.length [] (lexM s).1 else ([], (lexM s).2.2.1, (lexM s).2.1) := if_pos h
  rw [many_map] at hs
  rcases lex_odd (s := s) (odd := odd) (Ls := kept.map (wE D)) (fun ws hw => by
    obtain ⟨x, hx, rfl⟩ := List.mem_map.1 hw
    exact wE_ok hu (hk x hx).1) hz hno hs with ⟨c, h1, h2⟩ | ⟨L0, L1, h1, h2, h3, h4⟩
  · rw [h1, if_neg (by simp)] at hodd
    rw [h2, if_neg (by simp)] at hall
    rw [hodd, hall]
    refine ⟨fun h => absurd h (by simp), fun _ => ⟨rfl, ?_⟩⟩
    rw [List.length_map]
  · rw [h1, if_pos rfl] at hodd
    rw [h2, if_pos rfl] at hall
    simp only at hodd hall
    rw [List.length_map] at h2 h4 hall
    obtain ⟨m1, m2⟩ := oneM_ln odd (1 + (kept.length : Int))
    obtain ⟨_, m3⟩ := oneM_ln odd 1
    obtain ⟨W, hW⟩ : ∃ W, W = (oneM odd 1).map Wd.tx := ⟨_, rfl⟩
    rw [← hW] at m1
    by_cases hW0 : W = []
    · have h0 : oneM odd 1 = [] := by rw [hW0] at hW; simpa using hW.symm
      rw [hodd, h0]
      exact ⟨fun _ => ⟨Nat.zero_le 1, rfl⟩, fun h => absurd rfl h⟩
    have hl1 : LinesOf 1 (oneM odd 1) [W] := ⟨oneM odd 1, [], by simp, hW.symm, m3, hW0, rfl⟩
    rw [readRun_lines D _ _ _ _ _ (Nat.le_refl _) hl1] at hodd
    have hl2 : LinesOf (1 + (kept.length : Int)) (oneM odd (1 + (kept.length : Int)) ++ L1) ([W] ++ (kept.map (wE D)).map wordsB) :=
      ⟨_, L1, rfl, m1, m2, hW0, h4⟩
    have hl3 := linesOf_app ((kept.map (wE D)).map wordsB) ([W] ++ (kept.map (wE D)).map wordsB) 1 L0 _ h3 (by rw [List.length_map, List.length_map]; exact hl2)
    rw [readRun_lines D _ _ _ _ _ (Nat.le_refl _) hl3, List.map_map] at hall
    have hk2 := entLines_ok (D := D) kept ([W] ++ kept.map (fun x => wordsB (wE D x))) [] 1 (fun x hx => ent_line hu (hk x hx).1 (hk x hx).2)
    have hall2 : readT ⟨D, S, K⟩ s = entLines D ([] ++ kept) (1 + (kept.length : Int)) ([W] ++ kept.map (fun x => wordsB (wE D x))) := hall.trans hk2
    rw [hodd, hall2]
    have q1 : entLines D [] 1 [W] = if (entM D W).2 = 0 then ([(entM D W).1], 0, 0) else ([], 1, (entM D W).2) := rfl
    have q2 : entLines D ([] ++ kept) (1 + (kept.length : Int)) ([W] ++ kept.map (fun x => wordsB (wE D x))) = if (entM D W).2 = 0 then entLines D ([] ++ kept ++ [(entM D W).1]) (1 + (kept.length : Int) + 1) (kept.map (fun x => wordsB (wE D x))) else ([], 1 + (kept.length : Int), (entM D W).2) := rfl
    rw [q1, q2]
    by_cases hz : (entM D W).2 = 0
    · rw [if_pos hz]
      exact ⟨fun _ => ⟨Nat.le_refl 1, rfl⟩, fun h => absurd rfl h⟩
    · rw [if_neg hz, if_neg hz]
      exact ⟨fun h => absurd h hz, fun _ => ⟨rfl, rfl⟩⟩
end Go.Proofs.YtbgpniepgbmkaaaDoor
