/- A line that is none, put before any line of a policy's text (parseM). Plain Lean, no program. No condition. -/
import Derived.Test.YtkjhgfjlknbdkaaDoorLin2
namespace Go.Proofs.YtkjhgfjlknbdkaaDoor

theorem plain_no10 : ∀ (l : List Nat), plainB l = true → ∀ x ∈ l, x ≠ 10
  | [], _, x, hx => by cases hx
  | [a], h, x, hx => by
    have := of_decide_eq_true h
    rw [List.mem_singleton] at hx
    omega
  | a :: b :: r, h, x, hx => by
    rw [plainB] at h
    split at h
    · next ha =>
      rcases List.mem_cons.1 hx with rfl | hx
      · omega
      · exact plain_no10 (b :: r) h x hx
    · split at h
      · next hg =>
        have hab : 128 ≤ a ∧ 128 ≤ b := by
          unfold greek at hg
          split at hg
          · omega
          · split at hg
            · omega
            · omega
        rcases List.mem_cons.1 hx with rfl | hx
        · omega
        · rcases List.mem_cons.1 hx with rfl | hx
          · omega
          · exact plain_no10 r h x hx
      · cases h
theorem word_no10 {w : List UInt8} (h : wordOk w) : ∀ x ∈ w, x ≠ 10 := by
  intro x hx e
  exact plain_no10 _ h.2 x.toNat (List.mem_map.2 ⟨x, hx, rfl⟩) (by rw [e]; rfl)
theorem join_no10 : ∀ (ws : List (List UInt8)), (∀ w ∈ ws, wordOk w) → ∀ x ∈ Lib.join ws [32], x ≠ 10
  | [], _, x, hx => by rw [Lib.join_nil] at hx; cases hx
  | [w], h, x, hx => by rw [Lib.join_one] at hx; exact word_no10 (h w (by simp)) x hx
  | w :: w2 :: r, h, x, hx => by
    rw [join_two] at hx
    rcases List.mem_append.1 hx with hx | hx
    · exact word_no10 (h w (by simp)) x hx
    · rcases List.mem_append.1 hx with hx | hx
      · rw [List.mem_singleton] at hx
        rw [hx]
        decide
      · exact join_no10 (w2 :: r) (fun y hy => h y (by simp [hy])) x hx
def cnt10 (l : List UInt8) : Nat := l.countP (fun x => x == 10)
theorem cnt10_none {l : List UInt8} (h : ∀ x ∈ l, x ≠ 10) : cnt10 l = 0 := by
  unfold cnt10
  rw [List.countP_eq_zero]
  intro x hx
  simpa using h x hx
theorem cnt10_line {ws : List (List UInt8)} (h : ∀ w ∈ ws, wordOk w) : cnt10 (lineB ws) = 1 := by
  unfold lineB cnt10
  rw [List.countP_append]
  have := cnt10_none (join_no10 ws h)
  unfold cnt10 at this
  rw [this]
  rfl
/-- A place at the head of a line: so many lines lie before it. -/
theorem cut_lines : ∀ (Ls : List (List (List UInt8))), (∀ ws ∈ Ls, ws ≠ [] ∧ ∀ w ∈ ws, wordOk w) → ∀ a : Nat, a ≤ (Ls.flatMap lineB).length → (a = 0 ∨ (Ls.flatMap lineB)[a - 1]? = some 10) →
    ∃ k, k ≤ Ls.length ∧ (Ls.flatMap lineB).take a = (Ls.take k).flatMap lineB ∧ (Ls.flatMap lineB).drop a = (Ls.drop k).flatMap lineB ∧ cnt10 ((Ls.flatMap lineB).take a) = k
  | [], _, a, ha, _ => by
    have : a = 0 := by simpa using ha
    subst this
    exact ⟨0, Nat.le_refl _, rfl, rfl, rfl⟩
  | ws :: r, hok, a, ha, hb => by
    obtain ⟨h0, hw⟩ := hok ws (by simp)
    rcases Nat.eq_zero_or_pos a with rfl | hpos
    · exact ⟨0, Nat.zero_le _, by simp, by simp, by simp [cnt10]⟩
    · have hb : ((ws :: r).flatMap lineB)[a - 1]? = some 10 := by
        rcases hb with hb | hb
        · omega
        · exact hb
      rw [List.flatMap_cons] at ha hb ⊢
      have hll : (lineB ws).length = (Lib.join ws [32]).length + 1 := by unfold lineB; rw [List.length_append]; rfl
      have hge : (lineB ws).length ≤ a := by
        refine Nat.le_of_not_lt fun hlt => ?_
        have h1 : a - 1 < (Lib.join ws [32]).length := by omega
        have h2 : (lineB ws ++ r.flatMap lineB)[a - 1]? = some ((Lib.join ws [32])[a - 1]'h1) := by
          rw [List.getElem?_append_left (by omega)]
          unfold lineB
          rw [List.getElem?_append_left h1, List.getElem?_eq_getElem h1]
        rw [h2] at hb
        injection hb with hb
        exact join_no10 ws hw _ (List.getElem_mem h1) hb
      rw [List.length_append] at ha
      obtain ⟨b, rfl⟩ : ∃ b, a = (lineB ws).length + b := ⟨a - (lineB ws).length, by omega⟩
      obtain ⟨k, hk, e1, e2, e3⟩ := cut_lines r (fun x hx => hok x (by simp [hx])) b (by omega) (by
        rcases Nat.eq_zero_or_pos b with h | h
        · exact .inl h
        · right
          rw [List.getElem?_append_right (by omega)] at hb
          rw [← hb]
          congr 1
          omega)
      refine ⟨k + 1, by simpa using hk, ?_, ?_, ?_⟩
      · rw [List.take_length_add_append, e1, List.take_succ_cons, List.flatMap_cons]
      · rw [List.drop_length_add_append, e2, List.drop_succ_cons]
      · rw [List.take_length_add_append]
        have h1 := cnt10_line hw
        unfold cnt10 at h1 e3 ⊢
        rw [List.countP_append, h1, e3]
        omega
def badW : List (List UInt8) := [[100, 111, 109, 97, 105, 110], [97]]
theorem badW_ok : badW ≠ [] ∧ ∀ w ∈ badW, wordOk w := by
  refine ⟨by simp [badW], fun w hw => ?_⟩
  simp only [badW, List.mem_cons, List.not_mem_nil, or_false] at hw
  rcases hw with rfl | rfl <;> exact ⟨by simp, by decide⟩
theorem badW_text : lineB badW = [100, 111, 109, 97, 105, 110, 32, 97, 10] := by simp [lineB, badW, Lib.join, List.intercalate]
theorem badW_line (p : P3) : (lineM p (wordsB badW)).1 = 2 := rfl
theorem runL_take : ∀ (A : List (List ByteArray)) (p q : P3) (k : Nat), runL p A = some q → ∃ q', runL p (A.take k) = some q'
  | [], p, q, k, h => ⟨p, by rw [List.take_nil]; rfl⟩
  | W :: r, p, q, 0, h => ⟨p, rfl⟩
  | W :: r, p, q, k + 1, h => by
    rw [runL] at h
    split at h
    · next h0 =>
      obtain ⟨q', hq⟩ := runL_take r _ q k h
      exact ⟨q', by rw [List.take_succ_cons, runL, if_pos h0]; exact hq⟩
    · cases h
/-- THE LINE IS TOLD BY ITS NUMBER. -/
theorem parse_bad {p : P3} (h : checkM p.D p.S p.K = 0) {a : Nat} (ha : a ≤ (printL p).length) (hb : a = 0 ∨ (printL p)[a - 1]? = some 10) {s : ByteArray}
    (hs : s.data.toList = (printL p).take a ++ [100, 111, 109, 97, 105, 110, 32, 97, 10] ++ (printL p).drop a) : parseM s = (noP, (cnt10 ((printL p).take a) : Int) + 1, 2) := by
  obtain ⟨D, S, K⟩ := p
  have hu : UpP D S K := check_all h
  have hlen : (printL ⟨D, S, K⟩).length ≤ 2544 := printL_len hu
  have hok := lines_ok hu
  have htx := lines_text ⟨D, S, K⟩
  rw [← htx] at ha hb hs ⊢
  obtain ⟨k, hk, e1, e2, e3⟩ := cut_lines (linesP ⟨D, S, K⟩) hok a ha hb
  rw [e3]
  have hsz : s.size ≤ 4096 := by
    have h1 : s.data.toList.length = s.size := Array.length_toList
    rw [hs, List.length_append, List.length_append, List.length_take, List.length_drop, htx] at h1
    simp only [List.length_cons, List.length_nil] at h1
    omega
  have hall : ∀ ws ∈ (linesP ⟨D, S, K⟩).take k ++ (badW :: (linesP ⟨D, S, K⟩).drop k), ws ≠ [] ∧ ∀ w ∈ ws, wordOk w := by
    intro ws hws
    rcases List.mem_append.1 hws with hws | hws
    · exact hok ws (List.mem_of_mem_take hws)
    · rcases List.mem_cons.1 hws with rfl | hws
      · exact badW_ok
      · exact hok ws (List.mem_of_mem_drop hws)
  rw [parseM_lines (Ls := (linesP ⟨D, S, K⟩).take k ++ (badW :: (linesP ⟨D, S, K⟩).drop k)) hsz hall (by rw [hs, e1, e2, List.flatMap_append, List.flatMap_cons, badW_text, List.append_assoc])]
  obtain ⟨q, hq⟩ := runL_take _ noP _ k (run_print hu)
  rw [List.map_append, List.map_take, parseLines_run _ _ noP q 1 hq, List.map_cons, parseLines, if_neg (by rw [badW_line]; decide)]
  unfold endM
  rw [badW_line, if_neg (show ¬ (2 : Int) = 0 by decide)]
  rw [List.length_take, List.length_map, Nat.min_eq_left hk]
  congr 2
  omega
theorem printL_end {D : List Dm} {S : List (Int × Int)} {K : List Lk} (h : UpP D S K) : 0 < (printL ⟨D, S, K⟩).length ∧ (printL ⟨D, S, K⟩)[(printL ⟨D, S, K⟩).length - 1]? = some 10 := by
  have key : ∀ (Ls : List (List (List UInt8))), Ls ≠ [] → 0 < (Ls.flatMap lineB).length ∧ (Ls.flatMap lineB).getLast? = some 10 := by
    intro Ls
    induction Ls with
    | nil => intro h; exact absurd rfl h
    | cons a r ih =>
      intro _
      rw [List.flatMap_cons]
      have h1 : (lineB a).getLast? = some 10 := by unfold lineB; simp
      have h2 : 0 < (lineB a).length := by unfold lineB; simp
      refine ⟨by rw [List.length_append]; omega, ?_⟩
      by_cases hr : r = []
      · subst hr; simpa using h1
      · have := (ih hr).2
        rw [List.getLast?_append, this]
        rfl
  have hne : linesP ⟨D, S, K⟩ ≠ [] := by
    unfold linesP
    intro e
    have h1 := congrArg List.length e
    rw [List.length_append, List.length_map, List.length_nil] at h1
    simp only at h1
    have := h.d1
    omega
  have := key _ hne
  rw [lines_text] at this
  exact ⟨this.1, by rw [← List.getLast?_eq_getElem?]; exact this.2⟩
end Go.Proofs.YtkjhgfjlknbdkaaDoor
