/- A policy that may be comes back of its text (parseM of printL). Plain Lean, no program. No condition. -/
import Derived.Test.YtkjhgfjlknbdkaaDoorLin1
import Derived.Test.YtkjhgfjlknbdkaaDoorPrt3
namespace Go.Proofs.YtkjhgfjlknbdkaaDoor

def wD (d : Dm) : List (List UInt8) := [[100, 111, 109, 97, 105, 110], bsL d.nm, labT d, Lib.itoa d.ta, Lib.itoa d.ob, Lib.itoa d.ri]
def wS (D : List Dm) (s : Int × Int) : List (List UInt8) := [[115, 108, 111, 116], nmAt D s.1, Lib.itoa s.2]
def wK (D : List Dm) (l : Lk) : List (List UInt8) := [kindW l.kd, nmAt D l.fr, nmAt D l.tt, Lib.itoa l.sz]
def linesP (p : P3) : List (List (List UInt8)) := p.D.map wD ++ (p.S.map (wS p.D) ++ p.K.map (wK p.D))
theorem lineB_D (d : Dm) : lineB (wD d) = lineD d := by simp [lineB, wD, lineD, Lib.join, List.intercalate]
theorem lineB_S (D : List Dm) (s : Int × Int) : lineB (wS D s) = lineS D s := by simp [lineB, wS, lineS, Lib.join, List.intercalate]
theorem lineB_K (D : List Dm) (l : Lk) : lineB (wK D l) = lineK D l := by simp [lineB, wK, lineK, Lib.join, List.intercalate]
theorem flat_map {α β γ : Type} (g : α → β) (f : β → List γ) (k : α → List γ) (h : ∀ x, f (g x) = k x) : ∀ l : List α, (l.map g).flatMap f = l.flatMap k
  | [] => rfl
  | a :: r => by rw [List.map_cons, List.flatMap_cons, List.flatMap_cons, h, flat_map g f k h r]
theorem lines_text (p : P3) : (linesP p).flatMap lineB = printL p := by
  unfold linesP printL
  rw [List.flatMap_append, List.flatMap_append, flat_map _ _ _ lineB_D, flat_map _ _ _ (lineB_S p.D), flat_map _ _ _ (lineB_K p.D)]
/-! ### The words -/
theorem nameLen_plain : ∀ (l : List Nat) (n : Nat), nameLen l = some n → plainB l = true
  | [], _, _ => rfl
  | [a], n, h => by
    rw [nameLen] at h
    split at h
    · next ha => exact decide_eq_true (by omega)
    · cases h
  | a :: b :: r, n, h => by
    rw [nameLen] at h
    rw [plainB]
    split at h
    · next ha =>
      obtain ⟨k, hk, _⟩ := Option.map_eq_some_iff.1 h
      rw [if_pos (by omega)]
      exact nameLen_plain (b :: r) k hk
    · next ha =>
      split at h
      · next hg =>
        obtain ⟨k, hk, _⟩ := Option.map_eq_some_iff.1 h
        have hna : ¬ (33 ≤ a ∧ a ≤ 126 ∧ a ≠ 35) := by
          intro hx
          have : greek a b = -1 := by
            unfold greek
            rw [if_neg (by omega), if_neg (by omega)]
          omega
        rw [if_neg hna, if_pos hg.1]
        exact nameLen_plain r k hk
      · cases h
theorem bsL_bl (s : ByteArray) : (bsL s).map UInt8.toNat = bl s 0 := by unfold bsL bl; rw [List.drop_zero]
theorem name_ok {s : ByteArray} (h : nameB (bl s 0) = true) : wordOk (bsL s) := by
  unfold nameB at h
  split at h
  · next n hn =>
    refine ⟨?_, by rw [bsL_bl]; exact nameLen_plain _ _ hn⟩
    intro e
    rw [← bsL_bl, e, List.map_nil, nameLen] at hn
    injection hn with hn
    subst hn
    simp at h
  · cases h
theorem toB_nat {l : List Nat} (h : ∀ x ∈ l, x < 256) : (toB l).map UInt8.toNat = l := by
  induction l with
  | nil => rfl
  | cons a r ih =>
    have ha := h a (by simp)
    have e : (UInt8.ofNat a).toNat = a := by simp; omega
    rw [toB, List.map_cons, List.map_cons, e]
    congr 1
    exact ih (fun x hx => h x (by simp [hx]))
theorem signs_plain (c : Int) : ∀ (f n : Nat), n + f ≤ 16 → plainB (signsFrom c f n ++ [125]) = true
  | 0, n, _ => rfl
  | f + 1, n, h => by
    rw [signsFrom_succ]
    split
    · have hg := greek_gk n (by omega)
      have ih := signs_plain c f (n + 1) (by omega)
      unfold gk at hg ⊢
      split
      · next hn =>
        rw [if_pos hn] at hg
        simp only [List.cons_append, List.nil_append]
        rw [plainB, if_neg (by omega), if_pos]
        · exact ih
        · have : greek 206 (177 + n) = n := hg
          omega
      · next hn =>
        rw [if_neg hn] at hg
        simp only [List.cons_append, List.nil_append]
        rw [plainB, if_neg (by omega), if_pos]
        · exact ih
        · have : greek 207 (128 + n - 15) = n := hg
          omega
    · rw [List.nil_append]
      exact signs_plain c f (n + 1) (by omega)
theorem signs_small (c : Int) : ∀ (f n : Nat), n + f ≤ 16 → ∀ x ∈ signsFrom c f n, x < 256
  | 0, _, _, x, hx => by cases hx
  | f + 1, n, h, x, hx => by
    rw [signsFrom_succ] at hx
    rcases List.mem_append.1 hx with hx | hx
    · split at hx
      · exact gk_small n (by omega) x hx
      · cases hx
    · exact signs_small c f (n + 1) (by omega) x hx
theorem text_small {l c : Int} (h0 : 0 ≤ l) (h7 : l ≤ 7) : ∀ x ∈ textL l c, x < 256 := by
  intro x hx
  unfold textL at hx
  rcases List.mem_cons.1 hx with rfl | hx
  · omega
  · rcases List.mem_cons.1 hx with rfl | hx
    · omega
    · rcases List.mem_append.1 hx with hx | hx
      · exact signs_small c 16 0 (by omega) x hx
      · rw [List.mem_singleton] at hx; omega
theorem textS_bl {l c : Int} (h0 : 0 ≤ l) (h7 : l ≤ 7) : bl (textS l c) 0 = textL l c := by
  unfold bl textS
  rw [List.drop_zero]
  exact toB_nat (text_small h0 h7)
theorem good_bounds {l c : Int} (h : goodL l c = true) : 0 ≤ l ∧ l ≤ 7 ∧ 0 ≤ c ∧ c < 65536 := of_decide_eq_true h
theorem labT_good {d : Dm} (h : goodL d.lv d.ct = true) : (printV d.lv d.ct).1 = textS d.lv d.ct := by
  unfold printV
  rw [if_pos h]
theorem lab_ok {d : Dm} (h : goodL d.lv d.ct = true) : wordOk (labT d) := by
  obtain ⟨h0, h7, _, _⟩ := good_bounds h
  unfold labT
  rw [labT_good h]
  refine ⟨?_, ?_⟩
  · intro e
    have h1 := bsL_bl (textS d.lv d.ct)
    rw [e, textS_bl h0 h7] at h1
    unfold textL at h1
    cases h1
  · rw [bsL_bl, textS_bl h0 h7]
    unfold textL
    rw [plainB, if_pos (by omega)]
    have h1 := signs_plain d.ct 16 0 (by omega)
    cases hx : signsFrom d.ct 16 0 ++ [125] with
    | nil => simp at hx
    | cons a r =>
      rw [hx] at h1
      rw [plainB, if_pos (by omega)]
      exact h1
theorem readV_text {l c : Int} (h : goodL l c = true) : readV (textS l c) = (l, c, 0) := by
  obtain ⟨h0, h7, c0, c1⟩ := good_bounds h
  exact readV_some (by rw [textS_bl h0 h7]; exact parse_text l c h0 h7 c0 c1)
theorem itoa_all : ((List.range 17).all fun n => plainB ((Lib.itoa (n : Int)).map UInt8.toNat) && (!(Lib.itoa (n : Int)).isEmpty && decide (numM ⟨(Lib.itoa (n : Int)).toArray⟩ = ((n : Int), true)))) = true := by kernel_rfl
theorem itoa_ok {n : Int} (h0 : 0 ≤ n) (h1 : n ≤ 16) : wordOk (Lib.itoa n) ∧ numM ⟨(Lib.itoa n).toArray⟩ = (n, true) := by
  obtain ⟨m, rfl⟩ : ∃ m : Nat, n = m := ⟨n.toNat, by omega⟩
  have := List.all_eq_true.1 itoa_all m (List.mem_range.2 (by omega))
  simp only [Bool.and_eq_true, decide_eq_true_eq, Bool.not_eq_true'] at this
  exact ⟨⟨fun e => by rw [e] at this; exact absurd this.2.1 (by simp), this.1⟩, this.2.2⟩
theorem kind_ok (k : Int) : wordOk (kindW k) := by
  unfold kindW
  split <;> exact ⟨by simp, by decide⟩
theorem ba_back (s : ByteArray) : (⟨(bsL s).toArray⟩ : ByteArray) = s := by unfold bsL; simp
/-! ### The lines, one by one -/
/-- Lines that all may be, and the policy behind them. -/
def runL : P3 → List (List ByteArray) → Option P3
  | p, [] => some p
  | p, W :: r => if (lineM p W).1 = 0 then runL (lineM p W).2 r else none
theorem runL_app : ∀ (A B : List (List ByteArray)) (p : P3), runL p (A ++ B) = (runL p A).bind (fun q => runL q B)
  | [], B, p => rfl
  | W :: r, B, p => by
    rw [List.cons_append, runL, runL]
    split
    · exact runL_app r B _
    · rfl
theorem parseLines_run : ∀ (A B : List (List ByteArray)) (p q : P3) (n : Int), runL p A = some q → parseLines p n (A ++ B) = parseLines q (n + A.length) B
  | [], B, p, q, n, h => by
    injection h with h
    subst h
    simp
  | W :: r, B, p, q, n, h => by
    rw [runL] at h
    split at h
    · next h0 =>
      rw [List.cons_append, parseLines, if_pos h0, parseLines_run r B _ q (n + 1) h]
      congr 1
      simp only [List.length_cons]
      omega
    · cases h
theorem findD_neg {D : List Dm} {s : ByteArray} (h : findD D s < 0) : ∀ d ∈ D, decide (d.nm = s) = false := by
  unfold findD at h
  split at h
  · omega
  · next hn => exact fun d hd => by simpa using List.findIdx?_eq_none_iff.1 hn d hd
section
variable {D : List Dm} {S : List (Int × Int)} {K : List Lk}
theorem findD_at (h : UpP D S K) {i : Nat} {d : Dm} (hd : D[i]? = some d) : findD D d.nm = i :=
  findD_hit (findD_neg (h.nm i d hd).2) hd (decide_eq_true rfl)
theorem nm_at (h : UpP D S K) {x : Int} (h0 : 0 ≤ x) (h1 : x < D.length) : wordOk (nmAt D x) ∧ findD D ⟨(nmAt D x).toArray⟩ = x := by
  obtain ⟨i, rfl⟩ : ∃ i : Nat, x = i := ⟨x.toNat, by omega⟩
  obtain ⟨d, hd⟩ : ∃ d, D[i]? = some d := ⟨_, List.getElem?_eq_getElem (by omega)⟩
  have e : nmAt D (i : Int) = bsL d.nm := by unfold nmAt; rw [Int.toNat_natCast, hd]
  rw [e, ba_back]
  exact ⟨name_ok (h.dm d (List.mem_of_getElem? hd)).1, findD_at h hd⟩
theorem lines_ok (h : UpP D S K) : ∀ ws ∈ linesP ⟨D, S, K⟩, ws ≠ [] ∧ ∀ w ∈ ws, wordOk w := by
  intro ws hws
  unfold linesP at hws
  rcases List.mem_append.1 hws with hws | hws
  · obtain ⟨d, hd, rfl⟩ := List.mem_map.1 hws
    obtain ⟨h1, h2, h3, h4, h5⟩ := h.dm d hd
    refine ⟨by simp [wD], fun w hw => ?_⟩
    simp only [wD, List.mem_cons, List.not_mem_nil, or_false] at hw
    rcases hw with rfl | rfl | rfl | rfl | rfl | rfl
    · exact ⟨by simp, by decide⟩
    · exact name_ok h1
    · exact lab_ok h2
    · exact (itoa_ok (by omega) (by omega)).1
    · exact (itoa_ok (by omega) (by omega)).1
    · exact (itoa_ok (by omega) (by omega)).1
  · rcases List.mem_append.1 hws with hws | hws
    · obtain ⟨s, hs, rfl⟩ := List.mem_map.1 hws
      obtain ⟨h1, h2⟩ := h.sl s hs
      refine ⟨by simp [wS], fun w hw => ?_⟩
      simp only [wS, List.mem_cons, List.not_mem_nil, or_false] at hw
      rcases hw with rfl | rfl | rfl
      · exact ⟨by simp, by decide⟩
      · exact (nm_at h h1.1 h1.2).1
      · exact (itoa_ok (by omega) (by omega)).1
    · obtain ⟨l, hl, rfl⟩ := List.mem_map.1 hws
      obtain ⟨h1, h2, _, h4, h5, _⟩ := h.lk l hl
      have h6 := most_le l.kd
      refine ⟨by simp [wK], fun w hw => ?_⟩
      simp only [wK, List.mem_cons, List.not_mem_nil, or_false] at hw
      rcases hw with rfl | rfl | rfl | rfl
      · exact kind_ok _
      · exact (nm_at h h1.1 h1.2).1
      · exact (nm_at h h2.1 h2.2).1
      · exact (itoa_ok (by omega) (by omega)).1
theorem lineM_dom (p : P3) (x1 x2 x3 x4 x5 : ByteArray) : lineM p [sDomain, x1, x2, x3, x4, x5] = (domE p.D x1 x2 x3 x4 x5, ⟨domD p.D x1 x2 x3 x4 x5, p.S, p.K⟩) := by
  show (if sDomain = sDomain then (domE p.D x1 x2 x3 x4 x5, (⟨domD p.D x1 x2 x3 x4 x5, p.S, p.K⟩ : P3)) else (2, p)) = _
  rw [if_pos rfl]
theorem lineM_slot (p : P3) (x1 x2 : ByteArray) : lineM p [sSlot, x1, x2] = (slotE p.D x1 x2, ⟨p.D, slotS p.D p.S x1 x2, p.K⟩) := by
  show (if sSlot = sSlot then (slotE p.D x1 x2, (⟨p.D, slotS p.D p.S x1 x2, p.K⟩ : P3)) else (2, p)) = _
  rw [if_pos rfl]
theorem lineM_cell (p : P3) (x1 x2 x3 : ByteArray) : lineM p [sCell, x1, x2, x3] = (linkE p.D x1 x2 x3, ⟨p.D, p.S, linkK p.D p.K 1 x1 x2 x3⟩) := by
  show (if sCell = sCell then (linkE p.D x1 x2 x3, (⟨p.D, p.S, linkK p.D p.K 1 x1 x2 x3⟩ : P3)) else if sCell = sPump then (linkE p.D x1 x2 x3, (⟨p.D, p.S, linkK p.D p.K 2 x1 x2 x3⟩ : P3)) else (2, p)) = _
  rw [if_pos rfl]
theorem lineM_pump (p : P3) (x1 x2 x3 : ByteArray) : lineM p [sPump, x1, x2, x3] = (linkE p.D x1 x2 x3, ⟨p.D, p.S, linkK p.D p.K 2 x1 x2 x3⟩) := by
  show (if sPump = sCell then (linkE p.D x1 x2 x3, (⟨p.D, p.S, linkK p.D p.K 1 x1 x2 x3⟩ : P3)) else if sPump = sPump then (linkE p.D x1 x2 x3, (⟨p.D, p.S, linkK p.D p.K 2 x1 x2 x3⟩ : P3)) else (2, p)) = _
  rw [if_neg (by decide), if_pos rfl]
theorem line_D (h : UpP D S K) {j : Nat} {d : Dm} (hd : D[j]? = some d) : lineM ⟨D.take j, [], []⟩ (wordsB (wD d)) = (0, ⟨D.take (j + 1), [], []⟩) := by
  obtain ⟨h1, h2, h3, h4, h5⟩ := h.dm d (List.mem_of_getElem? hd)
  obtain ⟨n1, n2⟩ := h.nm j d hd
  have e3 := (itoa_ok (n := d.ta) (by omega) (by omega)).2
  have e4 := (itoa_ok (n := d.ob) (by omega) (by omega)).2
  have e5 := (itoa_ok (n := d.ri) (by omega) (by omega)).2
  have e2 : readV (⟨(labT d).toArray⟩ : ByteArray) = (d.lv, d.ct, 0) := by
    unfold labT
    rw [ba_back, labT_good h2]
    exact readV_text h2
  have hE : domE (D.take j) d.nm ⟨(labT d).toArray⟩ ⟨(Lib.itoa d.ta).toArray⟩ ⟨(Lib.itoa d.ob).toArray⟩ ⟨(Lib.itoa d.ri).toArray⟩ = 0 := by
    unfold domE
    rw [if_neg (by rw [n1, decide_eq_false (by omega)]; simp), e2, if_pos rfl, if_pos]
    simp [numAll, e3, e4, e5]
  have hV : domV d.nm ⟨(labT d).toArray⟩ ⟨(Lib.itoa d.ta).toArray⟩ ⟨(Lib.itoa d.ob).toArray⟩ ⟨(Lib.itoa d.ri).toArray⟩ = d := by
    unfold domV
    rw [e2, e3, e4, e5]
  have hW : wordsB (wD d) = [sDomain, d.nm, ⟨(labT d).toArray⟩, ⟨(Lib.itoa d.ta).toArray⟩, ⟨(Lib.itoa d.ob).toArray⟩, ⟨(Lib.itoa d.ri).toArray⟩] := by
    simp only [wordsB, wD, List.map_cons, List.map_nil, ba_back]
    rfl
  rw [hW, lineM_dom]
  simp only
  unfold domD
  rw [hE, if_pos rfl, hV, List.take_add_one, hd, Option.toList_some]
theorem line_S (h : UpP D S K) {j : Nat} {s : Int × Int} (hs : S[j]? = some s) : lineM ⟨D, S.take j, []⟩ (wordsB (wS D s)) = (0, ⟨D, S.take (j + 1), []⟩) := by
  obtain ⟨h1, h2⟩ := h.sl s (List.mem_of_getElem? hs)
  have e1 := (nm_at h h1.1 h1.2).2
  have e2 := (itoa_ok (n := s.2) (by omega) (by omega)).2
  have hE : slotE D ⟨(nmAt D s.1).toArray⟩ ⟨(Lib.itoa s.2).toArray⟩ = 0 := by
    unfold slotE
    rw [if_neg (by rw [e1]; omega), if_pos]
    simp [numAll, e2]
  have hW : wordsB (wS D s) = [sSlot, ⟨(nmAt D s.1).toArray⟩, ⟨(Lib.itoa s.2).toArray⟩] := rfl
  rw [hW, lineM_slot]
  simp only
  unfold slotS
  rw [hE, if_pos rfl, e1, e2, List.take_add_one, hs, Option.toList_some]
theorem line_K (h : UpP D S K) {j : Nat} {l : Lk} (hl : K[j]? = some l) : lineM ⟨D, S, K.take j⟩ (wordsB (wK D l)) = (0, ⟨D, S, K.take (j + 1)⟩) := by
  obtain ⟨h1, h2, _, h4, h5, _⟩ := h.lk l (List.mem_of_getElem? hl)
  have h6 := most_le l.kd
  have e1 := (nm_at h h1.1 h1.2).2
  have e3 := (nm_at h h2.1 h2.2).2
  have e2 := (itoa_ok (n := l.sz) (by omega) (by omega)).2
  have hE : linkE D ⟨(nmAt D l.fr).toArray⟩ ⟨(nmAt D l.tt).toArray⟩ ⟨(Lib.itoa l.sz).toArray⟩ = 0 := by
    unfold linkE
    rw [if_neg (by rw [e1, e3]; omega), if_pos]
    simp [numAll, e2]
  obtain ⟨kd, fr, tt, sz⟩ := l
  simp only at e1 e2 e3 hE h4
  rcases h4 with rfl | rfl
  · have hW : wordsB (wK D ⟨1, fr, tt, sz⟩) = [sCell, ⟨(nmAt D fr).toArray⟩, ⟨(nmAt D tt).toArray⟩, ⟨(Lib.itoa sz).toArray⟩] := rfl
    rw [hW, lineM_cell]
    simp only
    unfold linkK
    rw [hE, if_pos rfl, e1, e2, e3, List.take_add_one, hl, Option.toList_some]
  · have hW : wordsB (wK D ⟨2, fr, tt, sz⟩) = [sPump, ⟨(nmAt D fr).toArray⟩, ⟨(nmAt D tt).toArray⟩, ⟨(Lib.itoa sz).toArray⟩] := rfl
    rw [hW, lineM_pump]
    simp only
    unfold linkK
    rw [hE, if_pos rfl, e1, e2, e3, List.take_add_one, hl, Option.toList_some]
theorem run_prefix {α : Type} {l : List α} {g : α → List ByteArray} {st : Nat → P3} (h : ∀ (j : Nat) (x : α), l[j]? = some x → lineM (st j) (g x) = (0, st (j + 1))) : ∀ j, j ≤ l.length → runL (st 0) ((l.take j).map g) = some (st j)
  | 0, _ => rfl
  | j + 1, hj => by
    obtain ⟨x, hx⟩ : ∃ x, l[j]? = some x := ⟨_, List.getElem?_eq_getElem (by omega)⟩
    rw [List.take_add_one, hx, Option.toList_some, List.map_append, runL_app, run_prefix h j (by omega)]
    show runL (st j) [g x] = _
    rw [runL, h j x hx]
    rfl
theorem run_print (h : UpP D S K) : runL noP ((linesP ⟨D, S, K⟩).map wordsB) = some ⟨D, S, K⟩ := by
  have h1 := run_prefix (l := D) (g := fun d => wordsB (wD d)) (st := fun j => ⟨D.take j, [], []⟩) (fun j d hd => line_D h hd) D.length (Nat.le_refl _)
  have h2 := run_prefix (l := S) (g := fun s => wordsB (wS D s)) (st := fun j => ⟨D, S.take j, []⟩) (fun j d hd => line_S h hd) S.length (Nat.le_refl _)
  have h3 := run_prefix (l := K) (g := fun l => wordsB (wK D l)) (st := fun j => ⟨D, S, K.take j⟩) (fun j d hd => line_K h hd) K.length (Nat.le_refl _)
  simp only [List.take_length, List.take_zero] at h1 h2 h3
  unfold linesP
  rw [List.map_append, List.map_append, List.map_map, List.map_map, List.map_map, runL_app]
  show (runL ⟨[], [], []⟩ (D.map fun d => wordsB (wD d))).bind _ = _
  rw [h1]
  show runL ⟨D, [], []⟩ _ = _
  rw [runL_app]
  show (runL ⟨D, [], []⟩ (S.map fun d => wordsB (wS D d))).bind _ = _
  rw [h2]
  exact h3
theorem printL_len (h : UpP D S K) : (printL ⟨D, S, K⟩).length ≤ 2544 := by
  have e1 := flatD_len h D.length
  rw [List.take_length] at e1
  have e2 := flatS_len h S.length
  rw [List.take_length] at e2
  have e3 := flatK_len h K.length
  rw [List.take_length] at e3
  unfold printL
  simp only [List.length_append]
  omega
end
/-- A POLICY COMES BACK OF ITS TEXT. -/
theorem parse_print {p : P3} (h : checkM p.D p.S p.K = 0) : parseM ⟨(printL p).toArray⟩ = (p, 0, 0) := by
  obtain ⟨D, S, K⟩ := p
  have hu := check_all h
  have hlen : (printL ⟨D, S, K⟩).length ≤ 2544 := printL_len hu
  rw [parseM_lines (Ls := linesP ⟨D, S, K⟩) (by rw [ByteArray.size_mk', List.size_toArray]; omega) (lines_ok hu) (by rw [lines_text])]
  have h1 := parseLines_run ((linesP ⟨D, S, K⟩).map wordsB) [] noP ⟨D, S, K⟩ 1 (run_print hu)
  rw [List.append_nil] at h1
  rw [h1, parseLines, endM, if_pos rfl, if_pos h]
theorem parseRun_bad : ∀ (f : Nat) (p : P3) (L : List Wd), (parseRun f p L).2.2 ≠ 0 → (parseRun f p L).1 = noP
  | 0, p, L, h => absurd rfl h
  | f + 1, p, [], h => absurd rfl h
  | f + 1, p, a :: L, h => by
    rw [parseRun] at h ⊢
    split
    · next h0 =>
      rw [if_pos h0] at h
      exact parseRun_bad f _ _ h
    · rfl
theorem parseM_cases (s : ByteArray) : ((parseM s).2.2 = 0 ∧ (parseM s).2.1 = 0 ∧ checkM (parseM s).1.D (parseM s).1.S (parseM s).1.K = 0) ∨ ((parseM s).2.2 ≠ 0 ∧ (parseM s).1 = noP) := by
  unfold parseM
  split
  · unfold endM
    split
    · split
      · next h0 h1 => exact .inl ⟨rfl, rfl, h1⟩
      · next h0 h1 => exact .inr ⟨h1, rfl⟩
    · next h0 => exact .inr ⟨h0, parseRun_bad _ _ _ h0⟩
  · next h0 => exact .inr ⟨h0, rfl⟩
end Go.Proofs.YtkjhgfjlknbdkaaDoor
