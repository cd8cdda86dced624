/- The document's timers (parcloseref08) in memory, and what New, At, Stop do. Condition of each: they lie in memory (R8), sixteen or fewer. -/
import Derived.Test.YtajhfjgndkdbnaaFrom
import Derived.Test.YtajhfjgndkdbnaaLaw08
import Derived.Test.YtajhfjgndkdbnaaWheelOne
namespace Go.Proofs.Ytajhfjgndkdbnaa
open Go.RowKit BigFrame

theorem Try.info_one8 : (Try.prog.info? 46).map (fun i => (i.zero, i.size, i.bytes)) = some (some (.agg #[.int .i64 0, .int .i64 0]), 2, 16) := by kernel_rfl
def one8 (p : Int × Nat) : List Value := [.int .i64 p.2, .int .i64 p.1]
def ones (M : List (Int × Nat)) : List Value := M.flatMap one8
theorem ones_len (M : List (Int × Nat)) : (ones M).length = M.length * 2 := by
  induction M with
  | nil => rfl
  | cons p M ih =>
    unfold ones at *
    rw [List.flatMap_cons, List.length_append, ih, List.length_cons]
    simp [one8]
    omega
theorem ones_app (A B : List (Int × Nat)) : ones (A ++ B) = ones A ++ ones B := by simp [ones]
theorem ones_one (p : Int × Nat) : ones [p] = one8 p := by simp [ones]
theorem ones_get {M : List (Int × Nat)} {i : Nat} {p : Int × Nat} (h : M[i]? = some p) : (ones M)[i * 2]? = some (.int .i64 p.2) ∧ (ones M)[i * 2 + 1]? = some (.int .i64 p.1) := by
  have h0 := flat_get_mem one8 2 M i 0 (fun _ _ => rfl) (by omega)
  have h1 := flat_get_mem one8 2 M i 1 (fun _ _ => rfl) (by omega)
  rw [h] at h0 h1
  exact ⟨h0, h1⟩
theorem ones_cell (M : List (Int × Nat)) : ∀ u ∈ ones M, u.oneCell' = true := by
  intro u hu
  obtain ⟨p, _, hp⟩ := List.mem_flatMap.1 hu
  simp only [one8, List.mem_cons, List.not_mem_nil, or_false] at hp
  rcases hp with rfl | rfl <;> rfl
/-- The document's timers at p: at most q, the list M. All of it in blocks from n0 on. -/
structure R8v (w : World) (n0 p : Nat) (q : Int) (M : List (Int × Nat)) (v : Value) : Prop where
  p0 : n0 ≤ p
  nsz : n0 ≤ w.heap.size
  blk : w.heap[p]? = some (.cells #[.int .i64 q, v] 44 (0, 0))
  rd : Reads w 2 v M.length (ones M)
  own : ∀ k, v.ownBlock = some k → n0 ≤ k ∧ k ≠ p ∧ k < w.heap.size
  sh : v = .slice none 0 0 ∨ ∃ bl o n c, v = .slice (some ⟨bl, o, none⟩) n c
def R8 (w : World) (n0 p : Nat) (q : Int) (M : List (Int × Nat)) : Prop := ∃ v, R8v w n0 p q M v
section
variable {w w' : World} {n0 p : Nat} {q : Int} {M : List (Int × Nat)} {v : Value}
theorem R8v.keep (h : R8v w n0 p q M v) (hs : w.heap.size ≤ w'.heap.size) (hb : ∀ k, n0 ≤ k → k < w.heap.size → w'.heap[k]? = w.heap[k]?) : R8v w' n0 p q M v :=
  ⟨h.p0, Nat.le_trans h.nsz hs, (hb p h.p0 (lt_of_block h.blk)).trans h.blk, h.rd.frame (fun k hk => hb k (h.own k hk).1 (h.own k hk).2.2), fun k hk => ⟨(h.own k hk).1, (h.own k hk).2.1, Nat.lt_of_lt_of_le (h.own k hk).2.2 hs⟩, h.sh⟩
theorem R8v.below (h : R8v w n0 p q M v) (hb : Below w.heap.size w w') : R8v w' n0 p q M v := h.keep hb.size (fun k _ hk => hb.block k hk)
theorem R8.below (h : R8 w n0 p q M) (hb : Below w.heap.size w w') : R8 w' n0 p q M := h.imp (fun _ h => h.below hb)
theorem R8.ext (h : R8 w n0 p q M) {F : Nat → Prop} (hx : Ext w w' F) (hF : ∀ k, F k → k < n0) : R8 w' n0 p q M := h.imp (fun _ h => h.keep hx.size (fun k h1 h2 => hx.block k h2 (fun hf => by have := hF k hf; omega)))
theorem R8v.grown (h : R8v w n0 p q M v) {row : Option Nat} (hg : w.grownBy w' row) (hr : ∀ k, row = some k → k ≠ p ∧ v.ownBlock ≠ some k) : R8v w' n0 p q M v := by
  have hp := lt_of_block h.blk
  exact ⟨h.p0, Nat.le_trans h.nsz hg.size, (hg.block p hp (fun e => (hr p e.symm).1 rfl)).trans h.blk, h.rd.frame (fun k hk => hg.block k (h.own k hk).2.2 (fun e => (hr k e.symm).2 hk)), fun k hk => ⟨(h.own k hk).1, (h.own k hk).2.1, Nat.lt_of_lt_of_le (h.own k hk).2.2 hg.size⟩, h.sh⟩
/-- The list is said anew. -/
theorem R8v.setR (h : R8v w n0 p q M v) {w1 : World} {B : Nat} (hB : n0 ≤ B) (hBp : p < B) (hs : w.heap.size ≤ w1.heap.size) (hb : w1.heap[p]? = w.heap[p]?) {v' : Value} {l : List (Int × Nat)} (ho : w1.ownsRow B 46 2 v' l.length (ones l)) :
    R8v (w1.setCell ⟨p, 1, none⟩ v') n0 p q l v' := by
  have hp0 := h.p0
  have hns := h.nsz
  have hkeep : ∀ k, k ≠ p → (w1.setCell ⟨p, 1, none⟩ v').heap[k]? = w1.heap[k]? := fun k hk => heap_setCell_other _ _ _ _ hk
  have hszs : (w1.setCell ⟨p, 1, none⟩ v').heap.size = w1.heap.size := by simp [World.setCell]
  refine ⟨hp0, by omega, ?_, (Reads.of_owns ho).frame (fun k hk => hkeep k (by have := (ho.lt k hk).1; omega)), fun k hk => ?_, ?_⟩
  · have := blk_set (hb.trans h.blk) 1 v'
    simpa using this
  · obtain ⟨q1, q2⟩ := ho.lt k hk
    exact ⟨by omega, by omega, by omega⟩
  · rcases ho.2 with ⟨rfl, _⟩ | ⟨g', cap, cur, rfl, _⟩
    · exact .inl rfl
    · exact .inr ⟨_, _, _, _, rfl⟩
theorem R8v.open (h : R8v w n0 p q M v) : ∃ al cl, v = .slice al M.length cl ∧ w.heap[p]? = some (.cells #[.int .i64 q, .slice al M.length cl] 44 (0, 0)) ∧ M.length ≤ cl ∧ cl ≤ maxLen ∧
    (∀ bl o, al = some ⟨bl, o, none⟩ → bl < w.heap.size ∧ bl ≠ p ∧ ∀ (i : Nat) (x : Int × Nat), M[i]? = some x → w.cell? ⟨bl, o + i * 2, none⟩ = some (.int .i64 x.2) ∧ w.cell? ⟨bl, o + i * 2 + 1, none⟩ = some (.int .i64 x.1)) ∧ (0 < M.length → ∃ bl o, al = some ⟨bl, o, none⟩) := by
  obtain ⟨_, a, c, rfl, q1, q2, q3⟩ := h.rd
  refine ⟨a, c, rfl, h.blk, q1, q2, fun bl o e => ?_, fun hn => ?_⟩
  · subst e
    refine ⟨(h.own bl rfl).2.2, (h.own bl rfl).2.1, fun i x hx => ?_⟩
    have hi := (List.getElem?_eq_some_iff.1 hx).1
    obtain ⟨b', o', e, hc⟩ := q3 (by omega)
    injection e with e
    injection e with e1 e2
    subst e1 e2
    obtain ⟨g1, g2⟩ := ones_get hx
    exact ⟨hc _ _ g1, by have := hc _ _ g2; rwa [← Nat.add_assoc] at this⟩
  · obtain ⟨b', o', e, _⟩ := q3 hn
    exact ⟨b', o', e⟩
theorem owns_nil8 (w : World) : (w.alloc (.cells #[] 46)).ownsRow w.heap.size 46 2 (.slice (some ⟨w.heap.size, 0, none⟩) 0 0) 0 (ones []) := ⟨rfl, .inr ⟨w.heap.size, 0, _, rfl, Nat.le_refl _, heap_alloc_new _ _, Nat.le_refl _, Nat.zero_le _, rfl, rfl⟩⟩
set_option maxRecDepth 100000 in
set_option maxHeartbeats 8000000 in
theorem r8new_calls (t : Int) (w : World) (_ : -9223372036854775808 ≤ t) (_ : t ≤ 9223372036854775807) :
    Calls Try.prog 16 #[.int .i64 t] w fun e w' => ∃ p, e = .returned (.pointer (some ⟨p, 0, none⟩)) ∧ R8 w' w.heap.size p (min t 16) [] ∧ Below w.heap.size w w' := by
  have hR : ∀ q : Int, R8 (w.alloc (.cells #[.int .i64 q, .slice none 0 0] 44)) w.heap.size w.heap.size q [] := fun q =>
    ⟨.slice none 0 0, Nat.le_refl _, by simp, heap_alloc_new w _, Reads.nil _ _, (fun k hk => by cases hk), .inl rfl⟩
  have HR := Lib.hid hR
  clear hR
  by_cases h : 16 < t
  · have HM := Lib.hid (show min t 16 = 16 by omega)
    go_enter Try.func16, Try.ntmps16
    go_wp2_with fail
    go_ret
    rw [HM.out]
    exact ⟨_, rfl, HR.out 16, plus_one _ _⟩
  · have HM := Lib.hid (show min t 16 = t by omega)
    go_enter Try.func16, Try.ntmps16
    go_wp2_with fail
    go_ret
    rw [HM.out]
    exact ⟨_, rfl, HR.out t, plus_one _ _⟩
theorem atM_step {M : List (Int × Nat)} {x : Int} {j : Nat} {r : Int × Nat} (hno : ∀ p ∈ M.take j, (p.2 : Int) ≠ x) (hr : M[j]? = some r) (hx : (r.2 : Int) = x) : atM M x = (r.1, true) := by
  unfold atM
  have e : M = M.take j ++ r :: M.drop (j + 1) := by
    obtain ⟨hj, he⟩ := List.getElem?_eq_some_iff.1 hr
    rw [← he, ← List.drop_eq_getElem_cons hj, List.take_append_drop]
  rw [e, List.find?_append]
  have : (M.take j).find? (fun p => decide ((p.2 : Int) = x)) = none := by
    rw [List.find?_eq_none]
    intro p hp
    simpa using hno p hp
  rw [this]
  simp [hx]
theorem atM_none {M : List (Int × Nat)} {x : Int} (hno : ∀ p ∈ M, (p.2 : Int) ≠ x) : atM M x = (0, false) := by
  unfold atM
  have : M.find? (fun p => decide ((p.2 : Int) = x)) = none := by
    rw [List.find?_eq_none]
    intro p hp
    simpa using hno p hp
  rw [this]
set_option maxRecDepth 100000 in
set_option maxHeartbeats 8000000 in
theorem r8at_calls (h : R8 w n0 p q M) (hn16 : M.length ≤ 16) (x : Int) :
    Calls Try.prog 21 #[.pointer (some ⟨p, 0, none⟩), .int .i64 x] w fun e w' => e = .returned (.tuple #[.int .i64 (atM M x).1, .bool (atM M x).2]) ∧ w = w' := by
  obtain ⟨v, hv⟩ := h
  obtain ⟨al, cl, rfl, hblk, q1, q2, hcell, hpos⟩ := hv.open
  have c1 : w.cell? ⟨p, 1, none⟩ = some (.slice al M.length cl) := blk_cell hblk 1
  have HC := Lib.hid hcell
  have HP := Lib.hid hpos
  obtain ⟨n, hn⟩ : ∃ n, n = M.length := ⟨_, rfl⟩
  rw [← hn] at c1 q1 hn16 HP
  have HN := Lib.hid hn
  unfold maxLen at q2
  clear hblk hcell hpos hn hv
  go_enter Try.func21, Try.ntmps21
  go_wp2_with fail
  go_loop [6] (fun u => ∃ j : Nat, u = .int .i64 j ∧ j ≤ n ∧ ∀ p ∈ M.take j, (p.2 : Int) ≠ x) (fun u => n - (intOf u).toNat)
  case atStart => exact ⟨0, rfl, Nat.zero_le _, by simp⟩
  case round =>
    obtain ⟨j, rfl, hj, hno⟩ := hrel
    have HNO := Lib.hid hno
    have hjz : (0 : Int) ≤ (j : Int) := Int.natCast_nonneg _
    clear hno
    by_cases hc : j < n
    · have hc' : (j : Int) < (n : Int) := by omega
      obtain ⟨r, hr⟩ : ∃ r, M[j]? = some r := ⟨_, List.getElem?_eq_getElem (by rw [← HN.out]; omega)⟩
      obtain ⟨bl, o, rfl⟩ := HP.out (by omega)
      obtain ⟨hbl, _, hcx⟩ := HC.out bl o rfl
      obtain ⟨k0, k1⟩ := hcx j r hr
      by_cases hxt : (r.2 : Int) = x
      · have hb : ((r.2 : Int) == x) = true := by simp [hxt]
        have HV := Lib.hid (atM_step HNO.out hr hxt)
        clear hr hxt hcx
        obtain ⟨r1, r2⟩ := r
        simp only at k0 k1 hb HV
        go_wp2_with fail
        go_ret2
        rw [HV.out]
        exact ⟨rfl, rfl⟩
      · have hb : ((r.2 : Int) == x) = false := by simp [hxt]
        have HX := Lib.hid (show ∀ p ∈ M.take (j + 1), (p.2 : Int) ≠ x by
          rw [List.take_add_one, hr, Option.toList_some]
          intro p hp
          rcases List.mem_append.1 hp with hp | hp
          · exact HNO.out p hp
          · rw [List.mem_singleton] at hp
            rw [hp]
            exact hxt)
        clear hr hxt hcx
        obtain ⟨r1, r2⟩ := r
        simp only at k0 k1 hb
        go_wp2_with fail
        go_round
        case rel => exact ⟨j + 1, by go_num, by omega, HX.out⟩
        case measure => simp [intOf]; omega
    · obtain rfl : j = n := by omega
      have hc' : ¬ (j : Int) < (j : Int) := by omega
      have HV := Lib.hid (atM_none (M := M) (x := x) (by
        have := HNO.out
        rwa [List.take_of_length_le (by rw [← HN.out]; exact Nat.le_refl _)] at this))
      go_wp2_with fail
      go_ret2
      rw [HV.out]
      exact ⟨rfl, rfl⟩
/-- Those of the first j whose number is another. -/
def wantM (M : List (Int × Nat)) (x : Int) (j : Nat) : List (Int × Nat) := (M.take j).filter (fun p => decide ((p.2 : Int) ≠ x))
theorem wantM_len (M : List (Int × Nat)) (x : Int) (j : Nat) : (wantM M x j).length ≤ M.length := by
  unfold wantM
  refine Nat.le_trans (List.length_filter_le _ _) ?_
  rw [List.length_take]
  omega
theorem wantM_hit {M : List (Int × Nat)} {x : Int} {j : Nat} {r : Int × Nat} (hr : M[j]? = some r) (h : (r.2 : Int) ≠ x) : wantM M x (j + 1) = wantM M x j ++ [r] := by
  unfold wantM
  rw [List.take_add_one, hr, Option.toList_some, List.filter_append, List.filter_cons, if_pos (by simpa using h)]
  rfl
theorem wantM_miss {M : List (Int × Nat)} {x : Int} {j : Nat} {r : Int × Nat} (hr : M[j]? = some r) (h : (r.2 : Int) = x) : wantM M x (j + 1) = wantM M x j := by
  unfold wantM
  rw [List.take_add_one, hr, Option.toList_some, List.filter_append, List.filter_cons, if_neg (by simpa using h)]
  simp
theorem wantM_all (M : List (Int × Nat)) (x : Int) : wantM M x M.length = stopM M x := by
  unfold wantM stopM
  rw [List.take_length]
theorem wantM_has (M : List (Int × Nat)) (x : Int) : decide ((wantM M x M.length).length < M.length) = hasM M x := by
  rw [wantM_all]
  unfold stopM hasM
  induction M with
  | nil => rfl
  | cons r M ih =>
    have hle := List.length_filter_le (fun p : Int × Nat => decide ((p.2 : Int) ≠ x)) M
    by_cases h : (r.2 : Int) = x
    · rw [List.filter_cons, if_neg (by simpa using h), List.any_cons, decide_eq_true h, Bool.true_or]
      rw [List.length_cons]
      exact decide_eq_true (by omega)
    · rw [List.filter_cons, if_pos (by simpa using h), List.any_cons, decide_eq_false h, Bool.false_or, List.length_cons, List.length_cons, ← ih]
      simp
set_option maxRecDepth 100000 in
set_option maxHeartbeats 8000000 in
theorem r8stop_calls (h : R8 w n0 p q M) (hn16 : M.length ≤ 16) (x : Int) :
    Calls Try.prog 18 #[.pointer (some ⟨p, 0, none⟩), .int .i64 x] w fun e w' => e = .returned (.bool (hasM M x)) ∧ R8 w' n0 p q (stopM M x) ∧ Ext w w' (fun k => k = p) := by
  rw [← wantM_has, ← wantM_all]
  obtain ⟨v, hv⟩ := h
  obtain ⟨al, cl, rfl, hblk, q1, q2, hcell, hpos⟩ := hv.open
  have c1 : w.cell? ⟨p, 1, none⟩ = some (.slice al M.length cl) := blk_cell hblk 1
  have hpl := lt_of_block hblk
  obtain ⟨i0, hi, hz0, hz1, hz2⟩ := info_parts Try.info_one8
  have HI0 := Lib.hid hi
  have H := Lib.hid hv
  have HBK := Lib.hid hblk
  have HC := Lib.hid hcell
  have HP := Lib.hid hpos
  obtain ⟨n, hn⟩ : ∃ n, n = M.length := ⟨_, rfl⟩
  rw [← hn] at c1 q1 hn16 HP ⊢
  have HN := Lib.hid hn
  unfold maxLen at q2
  clear hi hv hblk hcell hpos hn
  go_enter Try.func18, Try.ntmps18
  go_wp2_with fail
  go_loopw [5, 6] (fun u1 u2 wr => ∃ j : Nat, u2 = .int .i64 j ∧ j ≤ n ∧ wr.ownsRow w.heap.size 46 2 u1 (wantM M x j).length (ones (wantM M x j)) ∧ Below w.heap.size w wr) (fun _ u _ => n - (intOf u).toNat)
  case atStart => exact ⟨0, rfl, Nat.zero_le _, owns_nil8 _, plus_one _ _⟩
  case round =>
    obtain ⟨j, rfl, hj, hown, hb⟩ := hrel
    have hwl := wantM_len M x j
    rw [← HN.out] at hwl
    have hjz : (0 : Int) ≤ (j : Int) := Int.natCast_nonneg _
    have d1 : wr.cell? ⟨p, 1, none⟩ = some (.slice al n cl) := (hb.cell (p := ⟨p, 1, none⟩) hpl).trans c1
    have HB := Lib.hid hb
    have HOW := Lib.hid hown
    have hsz := hb.size
    clear hb
    by_cases hc : j < n
    · have hc' : (j : Int) < (n : Int) := by omega
      obtain ⟨r, hr⟩ : ∃ r, M[j]? = some r := ⟨_, List.getElem?_eq_getElem (by rw [← HN.out]; omega)⟩
      obtain ⟨bl, o, rfl⟩ := HP.out (by omega)
      obtain ⟨hbl, _, hcx⟩ := HC.out bl o rfl
      obtain ⟨k0, k1⟩ := hcx j r hr
      have k0 := (HB.out.cell (p := ⟨bl, o + j * 2, none⟩) hbl).trans k0
      have k1 := (HB.out.cell (p := ⟨bl, o + j * 2 + 1, none⟩) hbl).trans k1
      clear hcx
      by_cases hxt : (r.2 : Int) = x
      · have hb : ((r.2 : Int) != x) = false := by simp [hxt]
        have HX := Lib.hid (wantM_miss hr hxt)
        clear hr hxt hown
        obtain ⟨r1, r2⟩ := r
        simp only at k0 k1 hb
        go_wp2_with fail
        go_roundw
        case rel => exact ⟨j + 1, by go_num, by omega, by rw [HX.out]; exact HOW.out, HB.out⟩
        case measure => simp [intOf]; omega
      · have hb : ((r.2 : Int) != x) = true := by simp [hxt]
        have HX := Lib.hid (wantM_hit hr hxt)
        clear hr hxt
        obtain ⟨r1, r2⟩ := r
        simp only at k0 k1 hb
        go_wp2_with (at_builtin; refine wpList_append_own _ rfl _ _ 42 rfl w.heap.size 46 i0 (.agg #[.int .i64 0, .int .i64 0]) 2 16 Try.underlying42 HI0.out hz0 hz1 hz2 rfl (by decide) _ _ _ rfl (hown.alloc _) ⟨wr.heap.size, 0, none⟩ 1 1 (one8 (r1, r2)) rfl rfl ?c1 ?c2 ?c3 ?c4 ?c5 ?_)
        case c1 => first | exact news_cells wr #[.int .i64 r2, .int .i64 r1] _ _ rfl | exact fun _ _ h => h
        case c2 => rw [← ones_one]; exact ones_cell _
        case c3 => unfold maxLen; omega
        case c4 => omega
        case c5 => first | omega | (simp; omega)
        intro v' w4 hown' hgr _
        have hb4 : Below w.heap.size w w4 := (HB.out.alloc hsz _).grown hgr (by simp; omega) (fun k hk => (HOW.out.lt k hk).1)
        have HB4 := Lib.hid hb4
        have HO4 := Lib.hid hown'
        clear hb4 hown' hgr hown
        go_wp2_with fail
        go_roundw
        case rel => exact ⟨j + 1, by go_num, by omega, by rw [HX.out, List.length_append, ones_app, ones_one]; exact HO4.out, HB4.out⟩
        case measure => simp [intOf]; omega
    · obtain rfl : j = n := by omega
      have hc' : ¬ (j : Int) < (j : Int) := by omega
      obtain ⟨a, c, rfl, h1, h2, _⟩ := owns_shape hown
      unfold maxLen at h2
      have hf : wr.frozen? ⟨p, 1, none⟩ = false := blk_free ((HB.out.block p hpl).trans HBK.out) 1
      have HS := Lib.hid (H.out.setR (B := w.heap.size) H.out.nsz hpl HB.out.size (HB.out.block p hpl) HOW.out)
      have HBS := Lib.hid (show Ext w (wr.setCell ⟨p, 1, none⟩ (.slice a (wantM M x j).length c)) (fun k => k = p) from Ext.setCell (F := fun k => k = p) (Ext.of_below HB.out) (p := ⟨p, 1, none⟩) (fun _ => rfl) _)
      obtain ⟨m, hm⟩ : ∃ m, m = (wantM M x j).length := ⟨_, rfl⟩
      rw [← hm] at hwl h1 HS HBS ⊢
      have HM := Lib.hid hm
      clear hown hm
      go_wp2_with fail
      go_ret
      exact ⟨by rw [← HM.out]; rfl, ⟨_, HS.out⟩, HBS.out⟩
end
end Go.Proofs.Ytajhfjgndkdbnaa
