/- What the document's timers (parcloseref08) do at Set and Due. Condition of each: they lie in memory (R8), sixteen or fewer. -/
import Derived.Test.YtajhfjgndkdbnaaRef08
import Derived.Test.YtajhfjgndkdbnaaLaw08b
namespace Go.Proofs.Ytajhfjgndkdbnaa
open Go.RowKit BigFrame

theorem split_take (a : Int) : ∀ (M : List (Int × Nat)) (k : Nat), (∀ p ∈ M.take k, p.1 ≤ a) → (k = M.length ∨ ∃ p, M[k]? = some p ∧ a < p.1) → M.takeWhile (fun p => decide (p.1 ≤ a)) = M.take k ∧ M.dropWhile (fun p => decide (p.1 ≤ a)) = M.drop k
  | [], k, _, _ => by simp
  | p :: M, 0, _, h => by
    rcases h with h | ⟨r, h1, h2⟩
    · simp at h
    · simp only [List.getElem?_cons_zero, Option.some.injEq] at h1
      subst h1
      have : ¬ p.1 ≤ a := by omega
      rw [List.takeWhile_cons, List.dropWhile_cons]
      simp [this]
  | p :: M, k + 1, h1, h2 => by
    have hp : p.1 ≤ a := h1 p (by simp)
    obtain ⟨i1, i2⟩ := split_take a M k (fun r hr => h1 r (by simp [hr])) (by
      rcases h2 with h2 | ⟨r, h2, h3⟩
      · exact .inl (by simpa using h2)
      · exact .inr ⟨r, by simpa using h2, h3⟩)
    rw [List.takeWhile_cons, List.dropWhile_cons]
    simp only [hp, decide_true, if_true, i1, i2, List.take_succ_cons, List.drop_succ_cons]
    exact ⟨trivial, trivial⟩
theorem ones_drop : ∀ (M : List (Int × Nat)) (k : Nat), ones (M.drop k) = (ones M).drop (k * 2)
  | M, 0 => by simp
  | [], k + 1 => by simp [ones]
  | p :: M, k + 1 => by
    rw [List.drop_succ_cons, ones_drop M k, show (k + 1) * 2 = 2 + k * 2 by omega]
    have : ones (p :: M) = one8 p ++ ones M := by simp [ones]
    rw [this, List.drop_append]
    simp [one8]
theorem ones_take : ∀ (M : List (Int × Nat)) (k : Nat), ones (M.take k) = (ones M).take (k * 2)
  | M, 0 => by simp [ones]
  | [], k + 1 => by simp [ones]
  | p :: M, k + 1 => by
    have h1 : ones (p :: M) = one8 p ++ ones M := by simp [ones]
    have h2 : ones (p :: M.take k) = one8 p ++ ones (M.take k) := by simp [ones]
    rw [List.take_succ_cons, h2, ones_take M k, show (k + 1) * 2 = 2 + k * 2 by omega, h1, List.take_append, show List.take (2 + k * 2) (one8 p) = one8 p from List.take_of_length_le (by show 2 ≤ 2 + k * 2; omega)]
    simp [one8]
section
variable {w w' : World} {n0 p : Nat} {q : Int} {M : List (Int × Nat)} {v : Value}
theorem reads_take8 {a : Option Addr} {n c k : Nat} {L : List (Int × Nat)} (h : Reads w 2 (.slice a n c) n (ones L)) (hk : k ≤ n) : Reads w 2 (.slice a k c) k (ones (L.take k)) := by
  obtain ⟨h1, a', c', e, h2, h3, h4⟩ := h
  injection e with e1 _ e3
  subst e1 e3
  rw [ones_len] at h1
  refine ⟨by rw [ones_len, List.length_take]; omega, a, c, rfl, by omega, h3, fun hp => ?_⟩
  obtain ⟨b, o, e, hc⟩ := h4 (by omega)
  refine ⟨b, o, e, fun j u hj => hc j u ?_⟩
  rw [ones_take, List.getElem?_take] at hj
  split at hj
  · exact hj
  · cases hj
theorem reads_drop8 {bl o n c k : Nat} {L : List (Int × Nat)} (h : Reads w 2 (.slice (some ⟨bl, o, none⟩) n c) n (ones L)) (hk : k ≤ n) : Reads w 2 (.slice (some ⟨bl, o + k * 2, none⟩) (n - k) (c - k)) (n - k) (ones (L.drop k)) := by
  obtain ⟨h1, a', c', e, h2, h3, h4⟩ := h
  injection e with e1 _ e3
  subst e1 e3
  rw [ones_len] at h1
  refine ⟨by rw [ones_len, List.length_drop]; omega, _, _, rfl, by omega, by omega, fun hp => ?_⟩
  obtain ⟨b', o', e, hc⟩ := h4 (by omega)
  injection e with e
  injection e with e1 e2
  subst e1 e2
  refine ⟨_, _, rfl, fun j u hj => ?_⟩
  rw [ones_drop, List.getElem?_drop] at hj
  rw [Nat.add_assoc]
  exact hc _ u hj
theorem reads_zero8 (w : World) (a : Option Addr) : Reads w 2 (.slice a 0 0) 0 (ones []) := ⟨rfl, _, _, rfl, Nat.le_refl _, Nat.zero_le _, fun h => by omega⟩
theorem ones_full {L : List (Int × Nat)} {k : Nat} (h : k = L.length) : L.drop k = [] := List.drop_eq_nil_of_le (by omega)
theorem ones_drop0 {L : List (Int × Nat)} (h : 0 = L.length) : ones (L.drop 0) = [] := by
  have : L = [] := List.eq_nil_of_length_eq_zero h.symm
  subst this
  rfl
theorem owns_empty8 (w : World) (B : Nat) (hB : B ≤ w.heap.size) : (w.alloc (.cells #[] 46)).ownsRow B 46 2 (.slice (some ⟨w.heap.size, 0, none⟩) 0 0) 0 [] :=
  ⟨rfl, .inr ⟨w.heap.size, 0, #[], rfl, hB, heap_alloc_new w _, Nat.le_refl _, Nat.zero_le _, rfl, rfl⟩⟩
theorem one_reads8 (w : World) (r : Int × Nat) (t : TypeId) : Reads (w.alloc (.cells #[.int .i64 r.2, .int .i64 r.1] t)) 2 (.slice (some ⟨w.heap.size, 0, none⟩) 1 1) 1 (one8 r) := by
  refine ⟨rfl, _, _, rfl, Nat.le_refl _, by unfold maxLen; omega, fun _ => ⟨_, _, rfl, fun j u hj => ?_⟩⟩
  rw [Nat.zero_add, blk_cell (heap_alloc_new w _)]
  simpa [one8] using hj
set_option maxRecDepth 100000 in
set_option maxHeartbeats 8000000 in
theorem r8set_no (h : R8 w n0 p q M) (x t : Int) (hx : x < 0 ∨ q ≤ x) :
    Calls Try.prog 19 #[.pointer (some ⟨p, 0, none⟩), .int .i64 x, .int .i64 t] w fun e w' => e = .returned (.bool false) ∧ w = w' := by
  obtain ⟨v, hv⟩ := h
  have c0 : w.cell? ⟨p, 0, none⟩ = some (.int .i64 q) := blk_cell hv.blk 0
  clear hv
  by_cases h0 : x < 0
  · go_enter Try.func19, Try.ntmps19
    go_wp2_with fail
    go_ret
    exact ⟨rfl, rfl⟩
  · have hq : q ≤ x := by omega
    clear hx
    go_enter Try.func19, Try.ntmps19
    go_wp2_with fail
    go_ret
    exact ⟨rfl, rfl⟩
set_option maxRecDepth 100000 in
set_option maxHeartbeats 32000000 in
theorem r8set_yes (h : R8 w n0 p q M) (hn16 : M.length ≤ 16) (x : Nat) (hx : (x : Int) < q) (hx16 : x < 16) (t : Int) (ht : t ≤ 9223372036854775807) :
    Calls Try.prog 19 #[.pointer (some ⟨p, 0, none⟩), .int .i64 x, .int .i64 t] w fun e w' => e = .returned (.bool true) ∧ R8 w' n0 p q (insM M (heldT t) x) ∧ Ext w w' (fun k => k = p) := by
  have hst := r8stop_calls h hn16 (x : Int)
  have hld := fun u : World => rheld_calls5 t u ht
  obtain ⟨hb1, hb2⟩ := heldT_bd t
  unfold insM
  generalize heldT t = a at hld hb1 hb2 ⊢
  have HLD := Lib.hid hld
  have hL16 : (stopM M x).length ≤ 16 := Nat.le_trans (List.length_filter_le _ _) hn16
  generalize stopM M x = L at hst hL16 ⊢
  generalize hasM M x = ok at hst
  have HST := Lib.hid hst
  obtain ⟨v, hv⟩ := h
  have c0 : w.cell? ⟨p, 0, none⟩ = some (.int .i64 q) := blk_cell hv.blk 0
  have hxz : (0 : Int) ≤ (x : Int) := Int.natCast_nonneg _
  have hx1 : ¬ (x : Int) < 0 := by omega
  have hx2 : ¬ q ≤ (x : Int) := by omega
  obtain ⟨i0, hi, hz0, hz1, hz2⟩ := info_parts Try.info_one8
  have HI0 := Lib.hid hi
  clear hld hst hv hn16 hi
  go_enter Try.func19, Try.ntmps19
  go_wp2_with fail
  refine HST.out.mono ?_
  rintro e w2 ⟨rfl, ⟨v2, h2⟩, hb2'⟩
  have H2 := Lib.hid h2
  have HB2 := Lib.hid hb2'
  clear h2 hb2' c0 hx2
  go_wp2_with fail
  refine (HLD.out _).mono ?_
  rintro e w' ⟨rfl, rfl⟩
  obtain ⟨al, cl, rfl, hblk, q1, q2, hcell, hpos⟩ := H2.out.open
  have hpl := lt_of_block hblk
  obtain ⟨n, hn⟩ : ∃ n, n = L.length := ⟨_, rfl⟩
  have hsh := H2.out.sh
  have hrd := H2.out.rd
  rw [← hn] at q1 hL16 hpos hblk H2 hsh hrd
  have HN := Lib.hid hn
  have HPOS := Lib.hid hpos
  have c1 : (w2.alloc (.cells #[.int .i64 x, .int .i64 a] 46)).cell? ⟨p, 1, none⟩ = some (.slice al n cl) := ((plus_one w2 _).cell (p := ⟨p, 1, none⟩) hpl).trans (blk_cell hblk 1)
  have x0 : (w2.alloc (.cells #[.int .i64 x, .int .i64 a] 46)).cell? ⟨w2.heap.size, 0, none⟩ = some (.int .i64 x) := blk_cell (heap_alloc_new w2 _) 0
  have x1 : (w2.alloc (.cells #[.int .i64 x, .int .i64 a] 46)).cell? ⟨w2.heap.size, 1, none⟩ = some (.int .i64 a) := blk_cell (heap_alloc_new w2 _) 1
  have HC := Lib.hid (fun (bl o : Nat) (e : al = some ⟨bl, o, none⟩) (i : Nat) (r : Int × Nat) (hr : L[i]? = some r) =>
    (show (w2.alloc (.cells #[.int .i64 x, .int .i64 a] 46)).cell? ⟨bl, o + i * 2 + 1, none⟩ = some (.int .i64 r.1) ∧ bl < (w2.alloc (.cells #[.int .i64 x, .int .i64 a] 46)).heap.size from
      ⟨((plus_one w2 _).cell (p := ⟨bl, o + i * 2 + 1, none⟩) (hcell bl o e).1).trans ((hcell bl o e).2.2 i r hr).2, by have := (hcell bl o e).1; simp; omega⟩))
  have H3 := Lib.hid (H2.out.below (plus_one w2 (.cells #[.int .i64 x, .int .i64 a] 46)))
  have HB3 := Lib.hid (show Ext w (w2.alloc (.cells #[.int .i64 x, .int .i64 a] 46)) (fun k => k = p) from HB2.out.alloc _)
  obtain ⟨xb, hxb⟩ : ∃ xb, xb = w2.heap.size := ⟨_, rfl⟩
  have hx3 : w2.heap.size < (w2.alloc (.cells #[.int .i64 x, .int .i64 a] 46)).heap.size := by simp
  have hp3 : p < (w2.alloc (.cells #[.int .i64 x, .int .i64 a] 46)).heap.size := by simp; omega
  unfold maxLen at q2
  clear hblk hcell hpos hn hrd H2 HB2 hpl
  go_upto_block 0 with (fail)
  rw [← hxb] at x0 x1 hx3 ⊢
  generalize w2.alloc (.cells #[.int .i64 x, .int .i64 a] 46) = w3 at c1 x0 x1 HC H3 HB3 hx3 hp3 ⊢
  clear hxb
  go_cut [8] (fun u8 wc => ∃ k : Nat, u8 = .int .i64 k ∧ k ≤ n ∧ (∀ r ∈ L.take k, r.1 ≤ a) ∧ (k = L.length ∨ ∃ r, L[k]? = some r ∧ a < r.1) ∧ Below w3.heap.size w3 wc)
  case first => as_aux_lemma =>
    go_wp2_with fail
    go_loopw [8] (fun u wr => ∃ k : Nat, u = .int .i64 k ∧ k ≤ n ∧ (∀ r ∈ L.take k, r.1 ≤ a) ∧ Below w3.heap.size w3 wr) (fun u _ => n - (intOf u).toNat)
    case atStart => exact ⟨0, rfl, Nat.zero_le _, by simp, Below.refl _ _⟩
    case round =>
      obtain ⟨k, rfl, hk, hle, hb⟩ := hrel
      have HLE := Lib.hid hle
      have HB := Lib.hid hb
      have hkz : (0 : Int) ≤ (k : Int) := Int.natCast_nonneg _
      have d1 := below_cell hb hp3 c1
      have y0 := below_cell hb hx3 x0
      have y1 := below_cell hb hx3 x1
      clear hle hb c1 x0 x1
      by_cases hc : k < n
      · have hc' : (k : Int) < (n : Int) := by omega
        have hcd : decide ((k : Int) < (n : Int)) = true := decide_eq_true hc'
        have hcd2 : decide (k < n) = true := decide_eq_true hc
        obtain ⟨r, hr⟩ : ∃ r, L[k]? = some r := ⟨_, List.getElem?_eq_getElem (by rw [← HN.out]; omega)⟩
        obtain ⟨bl, o, rfl⟩ := HPOS.out (by omega)
        obtain ⟨k1, hbl⟩ := HC.out bl o rfl k r hr
        have k1 := below_cell HB.out hbl k1
        have HR := Lib.hid hr
        obtain ⟨r1, r2⟩ := r
        simp only at k1
        clear hr hbl
        by_cases hra : r1 ≤ a
        · have hrd : decide (r1 ≤ a) = true := decide_eq_true hra
          go_wp2_with fail
          go_big_region
          go_wp2_with fail
          go_roundw
          case rel =>
            refine ⟨k + 1, by go_num, by omega, ?_, HB.out.trans (below_draws _ _ _)⟩
            rw [List.take_add_one, HR.out, Option.toList_some]
            intro s hs
            rcases List.mem_append.1 hs with hs | hs
            · exact HLE.out s hs
            · rw [List.mem_singleton] at hs
              rw [hs]
              exact hra
          case measure => simp [intOf]; omega
        · have hrd : decide (r1 ≤ a) = false := decide_eq_false hra
          have HRA := Lib.hid (show a < r1 by omega)
          clear hra
          go_wp2_with fail
          go_big_region
          go_wp2_with fail
          go_meet
          exact ⟨k, rfl, hk, HLE.out, .inr ⟨_, HR.out, HRA.out⟩, HB.out.trans (below_draws _ _ _)⟩
      · have hc' : ¬ (k : Int) < (n : Int) := by omega
        have hcd : decide ((k : Int) < (n : Int)) = false := decide_eq_false hc'
        have hcd2 : decide (k < n) = false := decide_eq_false hc
        have HK := Lib.hid (show k = L.length by rw [← HN.out]; omega)
        go_wp2_with fail
        go_big_region
        go_wp2_with fail
        go_meet
        exact ⟨k, rfl, hk, HLE.out, .inl HK.out, HB.out.trans (below_draws _ _ _)⟩
  case rest =>
  obtain ⟨k, rfl, hk, hle, hend, hb⟩ := hcut
  obtain ⟨s1, s2⟩ := split_take a L k hle hend
  have HSPL := Lib.hid (And.intro s1 s2)
  have d1 := below_cell hb hp3 c1
  have y0 := below_cell hb hx3 x0
  have y1 := below_cell hb hx3 x1
  have H4 := Lib.hid (H3.out.below hb)
  have HB4 := Lib.hid (HB3.out.then (Ext.of_below hb))
  have hxl : xb < wc.heap.size := Nat.lt_of_lt_of_le hx3 hb.size
  have hpl : p < wc.heap.size := Nat.lt_of_lt_of_le hp3 hb.size
  have hkz : (0 : Int) ≤ (k : Int) := Int.natCast_nonneg _
  have hkn : (k : Int) ≤ (n : Int) := by omega
  have hkc : (k : Int) ≤ (cl : Int) := by omega
  have hrd4 : Reads wc 2 (.slice al n cl) n (ones L) := by have := H4.out.rd; rwa [← HN.out] at this
  have HRT := Lib.hid (reads_take8 hrd4 hk)
  have HLT := Lib.hid (fun (j : Nat) (e : (Value.slice al n cl).ownBlock = some j) => (H4.out.own j e).2.2)
  have HLTK := Lib.hid (show (L.take k).length = k by rw [List.length_take, ← HN.out]; omega)
  have HSH := Lib.hid hsh
  clear c1 x0 x1 hle hend s1 s2 hb HC H3 HB3 hx3 hp3 hsh
  rcases HSH.out with hnil | ⟨bl, o, n', c', hsome⟩
  · injection hnil with e1 e2 e3
    subst e1 e2 e3
    obtain rfl : k = 0 := by omega
    clear HSH
    go_wp2_with fail
    refine wp_region_W 12 11 (fun w' : World => Below wc.heap.size wc w') (by kernel_rfl) (by kernel_rfl) ⟨rfl, rfl, rfl, Nat.le_refl _, fun _ _ => rfl⟩ (fun hT => ?_)
    refine wpAnyW_take (i := 1) (some 50) rfl rfl (by kernel_rfl) (by kernel_rfl) (by kernel_rfl) (by kernel_rfl) (fun _ _ _ h => h) (v := ?_) (.inl ⟨by rfl, ?_⟩) (.inr hT) ?_
    rotate_left
    · (intro wT _; go_simp <;> with_reducible rfl)
    simp only [Act.put, List.setIfInBounds_toArray, List.set_cons_zero, List.set_cons_succ]
    refine wpAnyW_take (i := 2) (some 51) rfl rfl (by kernel_rfl) (by kernel_rfl) (by kernel_rfl) (by kernel_rfl) (fun _ _ _ h => h) (v := ?_) (.inl ⟨by rfl, ?_⟩) (.inr hT) ?_
    rotate_left
    · (intro wT _; go_simp <;> with_reducible rfl)
    simp only [Act.put, List.setIfInBounds_toArray, List.set_cons_zero, List.set_cons_succ]
    refine wpAnyW_take (i := 3) (some 52) rfl rfl (by kernel_rfl) (by kernel_rfl) (by kernel_rfl) (by kernel_rfl) (fun _ _ _ h => h) (v := ?_) (.inl ⟨by rfl, ?_⟩) (.inr hT) ?_
    rotate_left
    · (intro wT _; go_simp <;> with_reducible rfl)
    simp only [Act.put, List.setIfInBounds_toArray, List.set_cons_zero, List.set_cons_succ]
    refine wpAnyW_load (i := 4) (some 53) rfl rfl (by kernel_rfl) (by kernel_rfl) (by kernel_rfl) (by kernel_rfl) (by kernel_rfl) (fun _ _ _ h => h) (v := ?_) (.inl ⟨by rfl, ?_⟩) hT ?_
    rotate_left
    · (intro wT hT; try dsimp only at hT); (have t1 : wT.cell? ⟨p, 1, none⟩ = some (.slice none 0 0) := below_cell hT hpl d1); (have t2 : wT.cell? ⟨xb, 0, none⟩ = some (.int .i64 x) := below_cell hT hxl y0); (have t3 : wT.cell? ⟨xb, 1, none⟩ = some (.int .i64 a) := below_cell hT hxl y1); clear hT; (go_simp <;> with_reducible rfl)
    simp only [Act.put, List.setIfInBounds_toArray, List.set_cons_zero, List.set_cons_succ]
    refine wpAnyW_take (i := 5) (some 54) rfl rfl (by kernel_rfl) (by kernel_rfl) (by kernel_rfl) (by kernel_rfl) (fun _ _ _ h => h) (v := ?_) (.inl ⟨by rfl, ?_⟩) (.inr hT) ?_
    rotate_left
    · (intro wT _; go_simp <;> with_reducible rfl)
    simp only [Act.put, List.setIfInBounds_toArray, List.set_cons_zero, List.set_cons_succ]
    refine wpAnyW_take (i := 6) (some 55) rfl rfl (by kernel_rfl) (by kernel_rfl) (by kernel_rfl) (by kernel_rfl) (fun _ _ _ h => h) (v := ?_) (.inl ⟨by rfl, ?_⟩) (.inr hT) ?_
    rotate_left
    · (intro wT _; go_simp <;> with_reducible rfl)
    simp only [Act.put, List.setIfInBounds_toArray, List.set_cons_zero, List.set_cons_succ]
    refine wpAnyW_load (i := 8) (some 57) rfl rfl (by kernel_rfl) (by kernel_rfl) (by kernel_rfl) (by kernel_rfl) (by kernel_rfl) (fun _ _ _ h => h) (v := ?_) (.inl ⟨by rfl, ?_⟩) hT ?_
    rotate_left
    · (intro wT hT; try dsimp only at hT); (have t1 : wT.cell? ⟨p, 1, none⟩ = some (.slice none 0 0) := below_cell hT hpl d1); (have t2 : wT.cell? ⟨xb, 0, none⟩ = some (.int .i64 x) := below_cell hT hxl y0); (have t3 : wT.cell? ⟨xb, 1, none⟩ = some (.int .i64 a) := below_cell hT hxl y1); clear hT; (go_simp <;> with_reducible rfl)
    simp only [Act.put, List.setIfInBounds_toArray, List.set_cons_zero, List.set_cons_succ]
    refine wpAnyW_two (i := 0) (j := 9) (by kernel_rfl) rfl rfl (fun K hK => ?_) (fun K hK => ?_)
    · go_simp
      refine name_world (fun W0 hW0 => ?_)
      have hb0 : Below wc.heap.size wc W0 := by rw [hW0]; exact (⟨rfl, rfl, rfl, Nat.le_refl _, fun _ _ => rfl⟩ : Below wc.heap.size wc wc.drew).alloc (Nat.le_refl _) _
      have own0 : W0.ownsRow wc.heap.size 46 2 (.slice (some ⟨wc.heap.size, 0, none⟩) 0 0) 0 [] := by rw [hW0]; exact owns_empty8 _ _ (Nat.le_refl _)
      have lt0 : wc.heap.size < W0.heap.size := by rw [hW0]; simp
      clear hW0
      refine step_owe hK ?_ (fun hT => ?_)
      · first | exact hb0 | exact hb7 | exact hb9 | exact hb10
      clear hK K
      refine wpAnyW_two (i := 7) (j := 9) (by kernel_rfl) rfl rfl (fun K hK => ?_) (fun K hK => ?_)
      · refine step_append_from (by rfl) (.tmp 49) (.tmp 55) 42 (by rfl) wc.heap.size 46 i0 (.agg #[.int .i64 0, .int .i64 0]) 2 16 Try.underlying42 HI0.out hz0 hz1 hz2 rfl (by omega) (.slice (some ⟨wc.heap.size, 0, none⟩) 0 0) 0 [] (by rfl) own0 (.slice none 0 0) 0 (ones (L.take 0)) (by rfl) (Reads.nil _ _) (.inl rfl) (ones_cell _) (by unfold maxLen; omega) (by omega) hb0.size ?_
        intro v7 W7 own7 grow7 at7
        simp only [Nat.zero_add, List.nil_append] at own7
        have hb7 : Below wc.heap.size wc W7 := hb0.grown grow7 hb0.size (fun k hk => by simp only [Value.ownBlock, Option.some.injEq] at hk; subst hk; exact Nat.le_refl _)
        refine step_owe hK ?_ (fun hT => ?_)
        · first | exact hb0 | exact hb7 | exact hb9 | exact hb10
        clear hK K
        refine wpAnyW_one (i := 9) (by kernel_rfl) rfl (fun K hK => ?_)
        go_simp
        refine name_world (fun W9 hW9 => ?_)
        have hb9 : Below wc.heap.size wc W9 := by rw [hW9]; exact hb7.alloc hb7.size _
        have news9 : Reads W9 2 (.slice (some ⟨W7.heap.size, 0, none⟩) 1 1) 1 (one8 (a, x)) := by rw [hW9]; exact one_reads8 _ (a, x) _
        have new9 : ∀ k, (Value.slice (some ⟨W7.heap.size, 0, none⟩) 1 1).ownBlock = some k → k < W9.heap.size ∧ k = W7.heap.size := fun k hk => by simp only [Value.ownBlock, Option.some.injEq] at hk; subst hk; exact ⟨by rw [hW9]; simp, rfl⟩
        have own9 := own7.alloc (.cells #[.int .i64 x, .int .i64 a] 46)
        rw [← hW9] at own9
        have apart9 : v7.ownBlock ≠ some W7.heap.size := fun e => by have := (own7.lt _ e).2; omega
        clear hW9
        refine step_owe hK ?_ (fun hT => ?_)
        · first | exact hb0 | exact hb7 | exact hb9 | exact hb10
        clear hK K
        refine wpAnyW_one (i := 10) (by kernel_rfl) rfl (fun K hK => ?_)
        refine step_append_from (by rfl) (.tmp 56) (.tmp 58) 42 (by rfl) wc.heap.size 46 i0 (.agg #[.int .i64 0, .int .i64 0]) 2 16 Try.underlying42 HI0.out hz0 hz1 hz2 rfl (by omega) v7 0 (ones (L.take 0)) (by rfl) own9 (.slice (some ⟨W7.heap.size, 0, none⟩) 1 1) 1 (one8 (a, x)) (by rfl) news9 (.inr ⟨_, _, _, _, rfl⟩) (by rw [← ones_one]; exact ones_cell _) (by unfold maxLen; omega) (by omega) hb9.size ?_
        intro v10 W10 own10 grow10 at10
        have hb10 : Below wc.heap.size wc W10 := hb9.grown grow10 hb9.size (fun k hk => (own7.lt k hk).1)
        obtain ⟨a10, c10, rfl, l10, m10, _⟩ := owns_shape own10
        unfold maxLen at m10
        have HO10 := Lib.hid own10
        have z10 : W10.frozen? ⟨p, 1, none⟩ = false := blk_free ((hb10.block p hpl).trans H4.out.blk) 1
        have e10 : W10.cell? ⟨p, 1, none⟩ = some (.slice none 0 0) := below_cell hb10 hpl d1
        refine step_owe hK ?_ (fun hT => ?_)
        · first | exact hb0 | exact hb7 | exact hb9 | exact hb10
        clear hK K
        refine wpAnyW_one (i := 11) (by kernel_rfl) rfl (fun K hK => ?_)
        go_simp
        refine step_paid hK (by kernel_rfl) ?_
        clear hK K
        refine wpAnyW_done (by kernel_rfl) ?_
        have HB10 := Lib.hid hb10
        clear own10 grow10 at10 hb10
        go_wp2_with (at_builtin; go_loud (refine wpList_append_from (by rfl) (.tmp 61) (.tmp 67) 42 (by rfl) wc.heap.size 46 i0 (.agg #[.int .i64 0, .int .i64 0]) 2 16 Try.underlying42 HI0.out hz0 hz1 hz2 rfl (by omega) (.slice a10 (0 + 1) c10) (0 + 1) (ones (L.take 0) ++ one8 (a, x)) (by rfl) HO10.out (.slice none 0 0) 0 (ones (L.drop 0)) (by rfl) (by rw [ones_drop0 HN.out]; exact Reads.nil _ _) (.inl rfl) (ones_cell _) (by unfold maxLen; omega) (by omega) HB10.out.size ?_))
        intro v13 w13 own13 gr13 at13
        have hb13 : Below wc.heap.size wc w13 := HB10.out.grown gr13 HB10.out.size (fun k hk => (HO10.out.lt k hk).1)
        obtain ⟨a13, c13, rfl, l13, m13, _⟩ := owns_shape own13
        unfold maxLen at m13
        have z13 : w13.frozen? ⟨p, 1, none⟩ = false := blk_free ((hb13.block p hpl).trans H4.out.blk) 1
        have e13 : w13.cell? ⟨p, 1, none⟩ = some (.slice none 0 0) := below_cell hb13 hpl d1
        have HS := Lib.hid (H4.out.setR (B := wc.heap.size) H4.out.nsz hpl hb13.size (hb13.block p hpl) (l := L.take 0 ++ (a, x) :: L.drop 0) (by
          have hl : (L.take 0 ++ (a, x) :: L.drop 0).length = 0 + 1 + 0 := by rw [List.length_append, HLTK.out, List.length_cons, List.length_drop, ← HN.out] <;> omega
          rw [hl, show L.take 0 ++ (a, x) :: L.drop 0 = (L.take 0 ++ [(a, x)]) ++ L.drop 0 by simp, ones_app, ones_app, ones_one]
          first | exact own13 | (rw [List.append_assoc]; exact own13)))
        have HBS := Lib.hid (Ext.setCell (F := fun k => k = p) (HB4.out.then (Ext.of_below hb13)) (p := ⟨p, 1, none⟩) (fun _ => rfl) (.slice a13 (0 + 1 + 0) c13))
        clear own13 gr13 hb13 at13
        go_wp2_with fail
        go_ret
        rw [HSPL.out.1, HSPL.out.2]
        exact ⟨rfl, ⟨_, HS.out⟩, HBS.out⟩
      · go_simp
        refine name_world (fun W9 hW9 => ?_)
        have hb9 : Below wc.heap.size wc W9 := by rw [hW9]; exact hb0.alloc hb0.size _
        have news9 : Reads W9 2 (.slice (some ⟨W0.heap.size, 0, none⟩) 1 1) 1 (one8 (a, x)) := by rw [hW9]; exact one_reads8 _ (a, x) _
        have new9 : ∀ k, (Value.slice (some ⟨W0.heap.size, 0, none⟩) 1 1).ownBlock = some k → k < W9.heap.size ∧ k = W0.heap.size := fun k hk => by simp only [Value.ownBlock, Option.some.injEq] at hk; subst hk; exact ⟨by rw [hW9]; simp, rfl⟩
        have own9 := own0.alloc (.cells #[.int .i64 x, .int .i64 a] 46)
        rw [← hW9] at own9
        clear hW9
        refine step_owe hK ?_ (fun hT => ?_)
        · first | exact hb0 | exact hb7 | exact hb9 | exact hb10
        clear hK K
        refine wpAnyW_one (i := 7) (by kernel_rfl) rfl (fun K hK => ?_)
        refine step_append_from (by rfl) (.tmp 49) (.tmp 55) 42 (by rfl) wc.heap.size 46 i0 (.agg #[.int .i64 0, .int .i64 0]) 2 16 Try.underlying42 HI0.out hz0 hz1 hz2 rfl (by omega) (.slice (some ⟨wc.heap.size, 0, none⟩) 0 0) 0 [] (by rfl) own9 (.slice none 0 0) 0 (ones (L.take 0)) (by rfl) (Reads.nil _ _) (.inl rfl) (ones_cell _) (by unfold maxLen; omega) (by omega) hb9.size ?_
        intro v7 W7 own7 grow7 at7
        simp only [Nat.zero_add, List.nil_append] at own7
        have hb7 : Below wc.heap.size wc W7 := hb9.grown grow7 hb9.size (fun k hk => by simp only [Value.ownBlock, Option.some.injEq] at hk; subst hk; exact Nat.le_refl _)
        have news7 := news9.grown grow7 (fun k hk => (new9 k hk).1) (fun k hk e => by simp only [Value.ownBlock, Option.some.injEq] at e; have := (new9 k hk).2; have := lt0; omega)
        have apart7 : v7.ownBlock ≠ some W0.heap.size := by
          intro e
          rcases at7 with h | h
          · rw [h] at e; simp only [Value.ownBlock, Option.some.injEq] at e; have := lt0; omega
          · rw [h] at e; injection e with e; have := (new9 W0.heap.size rfl).1; omega
        refine step_owe hK ?_ (fun hT => ?_)
        · first | exact hb0 | exact hb7 | exact hb9 | exact hb10
        clear hK K
        refine wpAnyW_one (i := 10) (by kernel_rfl) rfl (fun K hK => ?_)
        refine step_append_from (by rfl) (.tmp 56) (.tmp 58) 42 (by rfl) wc.heap.size 46 i0 (.agg #[.int .i64 0, .int .i64 0]) 2 16 Try.underlying42 HI0.out hz0 hz1 hz2 rfl (by omega) v7 0 (ones (L.take 0)) (by rfl) own7 (.slice (some ⟨W0.heap.size, 0, none⟩) 1 1) 1 (one8 (a, x)) (by rfl) news7 (.inr ⟨_, _, _, _, rfl⟩) (by rw [← ones_one]; exact ones_cell _) (by unfold maxLen; omega) (by omega) hb7.size ?_
        intro v10 W10 own10 grow10 at10
        have hb10 : Below wc.heap.size wc W10 := hb7.grown grow10 hb7.size (fun k hk => (own7.lt k hk).1)
        obtain ⟨a10, c10, rfl, l10, m10, _⟩ := owns_shape own10
        unfold maxLen at m10
        have HO10 := Lib.hid own10
        have z10 : W10.frozen? ⟨p, 1, none⟩ = false := blk_free ((hb10.block p hpl).trans H4.out.blk) 1
        have e10 : W10.cell? ⟨p, 1, none⟩ = some (.slice none 0 0) := below_cell hb10 hpl d1
        refine step_owe hK ?_ (fun hT => ?_)
        · first | exact hb0 | exact hb7 | exact hb9 | exact hb10
        clear hK K
        refine wpAnyW_one (i := 11) (by kernel_rfl) rfl (fun K hK => ?_)
        go_simp
        refine step_paid hK (by kernel_rfl) ?_
        clear hK K
        refine wpAnyW_done (by kernel_rfl) ?_
        have HB10 := Lib.hid hb10
        clear own10 grow10 at10 hb10
        go_wp2_with (at_builtin; go_loud (refine wpList_append_from (by rfl) (.tmp 61) (.tmp 67) 42 (by rfl) wc.heap.size 46 i0 (.agg #[.int .i64 0, .int .i64 0]) 2 16 Try.underlying42 HI0.out hz0 hz1 hz2 rfl (by omega) (.slice a10 (0 + 1) c10) (0 + 1) (ones (L.take 0) ++ one8 (a, x)) (by rfl) HO10.out (.slice none 0 0) 0 (ones (L.drop 0)) (by rfl) (by rw [ones_drop0 HN.out]; exact Reads.nil _ _) (.inl rfl) (ones_cell _) (by unfold maxLen; omega) (by omega) HB10.out.size ?_))
        intro v13 w13 own13 gr13 at13
        have hb13 : Below wc.heap.size wc w13 := HB10.out.grown gr13 HB10.out.size (fun k hk => (HO10.out.lt k hk).1)
        obtain ⟨a13, c13, rfl, l13, m13, _⟩ := owns_shape own13
        unfold maxLen at m13
        have z13 : w13.frozen? ⟨p, 1, none⟩ = false := blk_free ((hb13.block p hpl).trans H4.out.blk) 1
        have e13 : w13.cell? ⟨p, 1, none⟩ = some (.slice none 0 0) := below_cell hb13 hpl d1
        have HS := Lib.hid (H4.out.setR (B := wc.heap.size) H4.out.nsz hpl hb13.size (hb13.block p hpl) (l := L.take 0 ++ (a, x) :: L.drop 0) (by
          have hl : (L.take 0 ++ (a, x) :: L.drop 0).length = 0 + 1 + 0 := by rw [List.length_append, HLTK.out, List.length_cons, List.length_drop, ← HN.out] <;> omega
          rw [hl, show L.take 0 ++ (a, x) :: L.drop 0 = (L.take 0 ++ [(a, x)]) ++ L.drop 0 by simp, ones_app, ones_app, ones_one]
          first | exact own13 | (rw [List.append_assoc]; exact own13)))
        have HBS := Lib.hid (Ext.setCell (F := fun k => k = p) (HB4.out.then (Ext.of_below hb13)) (p := ⟨p, 1, none⟩) (fun _ => rfl) (.slice a13 (0 + 1 + 0) c13))
        clear own13 gr13 hb13 at13
        go_wp2_with fail
        go_ret
        rw [HSPL.out.1, HSPL.out.2]
        exact ⟨rfl, ⟨_, HS.out⟩, HBS.out⟩
    · go_simp
      refine name_world (fun W9 hW9 => ?_)
      have hb9 : Below wc.heap.size wc W9 := by rw [hW9]; exact (⟨rfl, rfl, rfl, Nat.le_refl _, fun _ _ => rfl⟩ : Below wc.heap.size wc wc.drew).alloc (Nat.le_refl _) _
      have news9 : Reads W9 2 (.slice (some ⟨wc.heap.size, 0, none⟩) 1 1) 1 (one8 (a, x)) := by rw [hW9]; exact one_reads8 _ (a, x) _
      have new9 : ∀ k, (Value.slice (some ⟨wc.heap.size, 0, none⟩) 1 1).ownBlock = some k → k < W9.heap.size ∧ k = wc.heap.size := fun k hk => by simp only [Value.ownBlock, Option.some.injEq] at hk; subst hk; exact ⟨by rw [hW9]; simp, rfl⟩
      clear hW9
      refine step_owe hK ?_ (fun hT => ?_)
      · first | exact hb0 | exact hb7 | exact hb9 | exact hb10
      clear hK K
      refine wpAnyW_one (i := 0) (by kernel_rfl) rfl (fun K hK => ?_)
      go_simp
      refine name_world (fun W0 hW0 => ?_)
      have hb0 : Below wc.heap.size wc W0 := by rw [hW0]; exact hb9.alloc hb9.size _
      have own0 : W0.ownsRow wc.heap.size 46 2 (.slice (some ⟨W9.heap.size, 0, none⟩) 0 0) 0 [] := by rw [hW0]; exact owns_empty8 _ _ hb9.size
      have news0 := (news9.frame (w' := W0) (fun k hk => by rw [hW0]; exact Below.heap_alloc _ _ _ (new9 k hk).1))
      have new0 : ∀ k, (Value.slice (some ⟨wc.heap.size, 0, none⟩) 1 1).ownBlock = some k → k < W0.heap.size ∧ k ≠ W9.heap.size := fun k hk => ⟨Nat.lt_of_lt_of_le (new9 k hk).1 (by rw [hW0]; simp), fun e => by have := (new9 k hk).1; omega⟩
      have blk0 : W9.heap.size < W0.heap.size := by rw [hW0]; simp
      clear hW0
      refine step_owe hK ?_ (fun hT => ?_)
      · first | exact hb0 | exact hb7 | exact hb9 | exact hb10
      clear hK K
      refine wpAnyW_one (i := 7) (by kernel_rfl) rfl (fun K hK => ?_)
      refine step_append_from (by rfl) (.tmp 49) (.tmp 55) 42 (by rfl) wc.heap.size 46 i0 (.agg #[.int .i64 0, .int .i64 0]) 2 16 Try.underlying42 HI0.out hz0 hz1 hz2 rfl (by omega) (.slice (some ⟨W9.heap.size, 0, none⟩) 0 0) 0 [] (by rfl) own0 (.slice none 0 0) 0 (ones (L.take 0)) (by rfl) (Reads.nil _ _) (.inl rfl) (ones_cell _) (by unfold maxLen; omega) (by omega) hb0.size ?_
      intro v7 W7 own7 grow7 at7
      simp only [Nat.zero_add, List.nil_append] at own7
      have hb7 : Below wc.heap.size wc W7 := hb0.grown grow7 hb0.size (fun k hk => by simp only [Value.ownBlock, Option.some.injEq] at hk; subst hk; exact hb9.size)
      have news7 := news0.grown grow7 (fun k hk => (new0 k hk).1) (fun k hk e => by simp only [Value.ownBlock, Option.some.injEq] at e; have := (new0 k hk).2; omega)
      have apart7 : v7.ownBlock ≠ some wc.heap.size := by
        intro e
        rcases at7 with h | h
        · rw [h] at e; simp only [Value.ownBlock, Option.some.injEq] at e; have := (new9 wc.heap.size rfl).1; omega
        · rw [h] at e; injection e with e; have := (new9 wc.heap.size rfl).1; have := (new0 wc.heap.size rfl).1; omega
      refine step_owe hK ?_ (fun hT => ?_)
      · first | exact hb0 | exact hb7 | exact hb9 | exact hb10
      clear hK K
      refine wpAnyW_one (i := 10) (by kernel_rfl) rfl (fun K hK => ?_)
      refine step_append_from (by rfl) (.tmp 56) (.tmp 58) 42 (by rfl) wc.heap.size 46 i0 (.agg #[.int .i64 0, .int .i64 0]) 2 16 Try.underlying42 HI0.out hz0 hz1 hz2 rfl (by omega) v7 0 (ones (L.take 0)) (by rfl) own7 (.slice (some ⟨wc.heap.size, 0, none⟩) 1 1) 1 (one8 (a, x)) (by rfl) news7 (.inr ⟨_, _, _, _, rfl⟩) (by rw [← ones_one]; exact ones_cell _) (by unfold maxLen; omega) (by omega) hb7.size ?_
      intro v10 W10 own10 grow10 at10
      have hb10 : Below wc.heap.size wc W10 := hb7.grown grow10 hb7.size (fun k hk => (own7.lt k hk).1)
      obtain ⟨a10, c10, rfl, l10, m10, _⟩ := owns_shape own10
      unfold maxLen at m10
      have HO10 := Lib.hid own10
      have z10 : W10.frozen? ⟨p, 1, none⟩ = false := blk_free ((hb10.block p hpl).trans H4.out.blk) 1
      have e10 : W10.cell? ⟨p, 1, none⟩ = some (.slice none 0 0) := below_cell hb10 hpl d1
      refine step_owe hK ?_ (fun hT => ?_)
      · first | exact hb0 | exact hb7 | exact hb9 | exact hb10
      clear hK K
      refine wpAnyW_one (i := 11) (by kernel_rfl) rfl (fun K hK => ?_)
      go_simp
      refine step_paid hK (by kernel_rfl) ?_
      clear hK K
      refine wpAnyW_done (by kernel_rfl) ?_
      have HB10 := Lib.hid hb10
      clear own10 grow10 at10 hb10
      go_wp2_with (at_builtin; go_loud (refine wpList_append_from (by rfl) (.tmp 61) (.tmp 67) 42 (by rfl) wc.heap.size 46 i0 (.agg #[.int .i64 0, .int .i64 0]) 2 16 Try.underlying42 HI0.out hz0 hz1 hz2 rfl (by omega) (.slice a10 (0 + 1) c10) (0 + 1) (ones (L.take 0) ++ one8 (a, x)) (by rfl) HO10.out (.slice none 0 0) 0 (ones (L.drop 0)) (by rfl) (by rw [ones_drop0 HN.out]; exact Reads.nil _ _) (.inl rfl) (ones_cell _) (by unfold maxLen; omega) (by omega) HB10.out.size ?_))
      intro v13 w13 own13 gr13 at13
      have hb13 : Below wc.heap.size wc w13 := HB10.out.grown gr13 HB10.out.size (fun k hk => (HO10.out.lt k hk).1)
      obtain ⟨a13, c13, rfl, l13, m13, _⟩ := owns_shape own13
      unfold maxLen at m13
      have z13 : w13.frozen? ⟨p, 1, none⟩ = false := blk_free ((hb13.block p hpl).trans H4.out.blk) 1
      have e13 : w13.cell? ⟨p, 1, none⟩ = some (.slice none 0 0) := below_cell hb13 hpl d1
      have HS := Lib.hid (H4.out.setR (B := wc.heap.size) H4.out.nsz hpl hb13.size (hb13.block p hpl) (l := L.take 0 ++ (a, x) :: L.drop 0) (by
        have hl : (L.take 0 ++ (a, x) :: L.drop 0).length = 0 + 1 + 0 := by rw [List.length_append, HLTK.out, List.length_cons, List.length_drop, ← HN.out] <;> omega
        rw [hl, show L.take 0 ++ (a, x) :: L.drop 0 = (L.take 0 ++ [(a, x)]) ++ L.drop 0 by simp, ones_app, ones_app, ones_one]
        first | exact own13 | (rw [List.append_assoc]; exact own13)))
      have HBS := Lib.hid (Ext.setCell (F := fun k => k = p) (HB4.out.then (Ext.of_below hb13)) (p := ⟨p, 1, none⟩) (fun _ => rfl) (.slice a13 (0 + 1 + 0) c13))
      clear own13 gr13 hb13 at13
      go_wp2_with fail
      go_ret
      rw [HSPL.out.1, HSPL.out.2]
      exact ⟨rfl, ⟨_, HS.out⟩, HBS.out⟩
  · injection hsome with e1 e2 e3
    subst e1 e2 e3
    have HRD := Lib.hid (reads_drop8 hrd4 hk)
    have hbl := HLT.out bl rfl
    clear HSH hrd4
    by_cases hkl : k = cl
    · have hkn1 : k = n := by omega
      subst hkn1
      subst hkl
      clear HRD
      go_wp2_with fail
      refine wp_region_W 12 11 (fun w' : World => Below wc.heap.size wc w') (by kernel_rfl) (by kernel_rfl) ⟨rfl, rfl, rfl, Nat.le_refl _, fun _ _ => rfl⟩ (fun hT => ?_)
      refine wpAnyW_take (i := 1) (some 50) rfl rfl (by kernel_rfl) (by kernel_rfl) (by kernel_rfl) (by kernel_rfl) (fun _ _ _ h => h) (v := ?_) (.inl ⟨by rfl, ?_⟩) (.inr hT) ?_
      rotate_left
      · (intro wT _; go_simp <;> with_reducible rfl)
      simp only [Act.put, List.setIfInBounds_toArray, List.set_cons_zero, List.set_cons_succ]
      refine wpAnyW_take (i := 2) (some 51) rfl rfl (by kernel_rfl) (by kernel_rfl) (by kernel_rfl) (by kernel_rfl) (fun _ _ _ h => h) (v := ?_) (.inl ⟨by rfl, ?_⟩) (.inr hT) ?_
      rotate_left
      · (intro wT _; go_simp <;> with_reducible rfl)
      simp only [Act.put, List.setIfInBounds_toArray, List.set_cons_zero, List.set_cons_succ]
      refine wpAnyW_take (i := 3) (some 52) rfl rfl (by kernel_rfl) (by kernel_rfl) (by kernel_rfl) (by kernel_rfl) (fun _ _ _ h => h) (v := ?_) (.inl ⟨by rfl, ?_⟩) (.inr hT) ?_
      rotate_left
      · (intro wT _; go_simp <;> with_reducible rfl)
      simp only [Act.put, List.setIfInBounds_toArray, List.set_cons_zero, List.set_cons_succ]
      refine wpAnyW_load (i := 4) (some 53) rfl rfl (by kernel_rfl) (by kernel_rfl) (by kernel_rfl) (by kernel_rfl) (by kernel_rfl) (fun _ _ _ h => h) (v := ?_) (.inl ⟨by rfl, ?_⟩) hT ?_
      rotate_left
      · (intro wT hT; try dsimp only at hT); (have t1 : wT.cell? ⟨p, 1, none⟩ = some (.slice (some ⟨bl, o, none⟩) k k) := below_cell hT hpl d1); (have t2 : wT.cell? ⟨xb, 0, none⟩ = some (.int .i64 x) := below_cell hT hxl y0); (have t3 : wT.cell? ⟨xb, 1, none⟩ = some (.int .i64 a) := below_cell hT hxl y1); clear hT; (go_simp <;> with_reducible rfl)
      simp only [Act.put, List.setIfInBounds_toArray, List.set_cons_zero, List.set_cons_succ]
      refine wpAnyW_take (i := 5) (some 54) rfl rfl (by kernel_rfl) (by kernel_rfl) (by kernel_rfl) (by kernel_rfl) (fun _ _ _ h => h) (v := ?_) (.inl ⟨by rfl, ?_⟩) (.inr hT) ?_
      rotate_left
      · (intro wT _; go_simp <;> with_reducible rfl)
      simp only [Act.put, List.setIfInBounds_toArray, List.set_cons_zero, List.set_cons_succ]
      refine wpAnyW_take (i := 6) (some 55) rfl rfl (by kernel_rfl) (by kernel_rfl) (by kernel_rfl) (by kernel_rfl) (fun _ _ _ h => h) (v := ?_) (.inl ⟨by rfl, ?_⟩) (.inr hT) ?_
      rotate_left
      · (intro wT _; go_simp <;> with_reducible rfl)
      simp only [Act.put, List.setIfInBounds_toArray, List.set_cons_zero, List.set_cons_succ]
      refine wpAnyW_load (i := 8) (some 57) rfl rfl (by kernel_rfl) (by kernel_rfl) (by kernel_rfl) (by kernel_rfl) (by kernel_rfl) (fun _ _ _ h => h) (v := ?_) (.inl ⟨by rfl, ?_⟩) hT ?_
      rotate_left
      · (intro wT hT; try dsimp only at hT); (have t1 : wT.cell? ⟨p, 1, none⟩ = some (.slice (some ⟨bl, o, none⟩) k k) := below_cell hT hpl d1); (have t2 : wT.cell? ⟨xb, 0, none⟩ = some (.int .i64 x) := below_cell hT hxl y0); (have t3 : wT.cell? ⟨xb, 1, none⟩ = some (.int .i64 a) := below_cell hT hxl y1); clear hT; (go_simp <;> with_reducible rfl)
      simp only [Act.put, List.setIfInBounds_toArray, List.set_cons_zero, List.set_cons_succ]
      refine wpAnyW_two (i := 0) (j := 9) (by kernel_rfl) rfl rfl (fun K hK => ?_) (fun K hK => ?_)
      · go_simp
        refine name_world (fun W0 hW0 => ?_)
        have hb0 : Below wc.heap.size wc W0 := by rw [hW0]; exact (⟨rfl, rfl, rfl, Nat.le_refl _, fun _ _ => rfl⟩ : Below wc.heap.size wc wc.drew).alloc (Nat.le_refl _) _
        have own0 : W0.ownsRow wc.heap.size 46 2 (.slice (some ⟨wc.heap.size, 0, none⟩) 0 0) 0 [] := by rw [hW0]; exact owns_empty8 _ _ (Nat.le_refl _)
        have lt0 : wc.heap.size < W0.heap.size := by rw [hW0]; simp
        clear hW0
        refine step_owe hK ?_ (fun hT => ?_)
        · first | exact hb0 | exact hb7 | exact hb9 | exact hb10
        clear hK K
        refine wpAnyW_two (i := 7) (j := 9) (by kernel_rfl) rfl rfl (fun K hK => ?_) (fun K hK => ?_)
        · refine step_append_from (by rfl) (.tmp 49) (.tmp 55) 42 (by rfl) wc.heap.size 46 i0 (.agg #[.int .i64 0, .int .i64 0]) 2 16 Try.underlying42 HI0.out hz0 hz1 hz2 rfl (by omega) (.slice (some ⟨wc.heap.size, 0, none⟩) 0 0) 0 [] (by rfl) own0 (.slice (some ⟨bl, o, none⟩) k k) k (ones (L.take k)) (by rfl) (HRT.out.frame (fun j hj => hb0.block j (by simp only [Value.ownBlock, Option.some.injEq] at hj; subst hj; exact hbl))) (.inr ⟨_, _, _, _, rfl⟩) (ones_cell _) (by unfold maxLen; omega) (by omega) hb0.size ?_
          intro v7 W7 own7 grow7 at7
          simp only [Nat.zero_add, List.nil_append] at own7
          have hb7 : Below wc.heap.size wc W7 := hb0.grown grow7 hb0.size (fun k hk => by simp only [Value.ownBlock, Option.some.injEq] at hk; subst hk; exact Nat.le_refl _)
          refine step_owe hK ?_ (fun hT => ?_)
          · first | exact hb0 | exact hb7 | exact hb9 | exact hb10
          clear hK K
          refine wpAnyW_one (i := 9) (by kernel_rfl) rfl (fun K hK => ?_)
          go_simp
          refine name_world (fun W9 hW9 => ?_)
          have hb9 : Below wc.heap.size wc W9 := by rw [hW9]; exact hb7.alloc hb7.size _
          have news9 : Reads W9 2 (.slice (some ⟨W7.heap.size, 0, none⟩) 1 1) 1 (one8 (a, x)) := by rw [hW9]; exact one_reads8 _ (a, x) _
          have new9 : ∀ k, (Value.slice (some ⟨W7.heap.size, 0, none⟩) 1 1).ownBlock = some k → k < W9.heap.size ∧ k = W7.heap.size := fun k hk => by simp only [Value.ownBlock, Option.some.injEq] at hk; subst hk; exact ⟨by rw [hW9]; simp, rfl⟩
          have own9 := own7.alloc (.cells #[.int .i64 x, .int .i64 a] 46)
          rw [← hW9] at own9
          have apart9 : v7.ownBlock ≠ some W7.heap.size := fun e => by have := (own7.lt _ e).2; omega
          clear hW9
          refine step_owe hK ?_ (fun hT => ?_)
          · first | exact hb0 | exact hb7 | exact hb9 | exact hb10
          clear hK K
          refine wpAnyW_one (i := 10) (by kernel_rfl) rfl (fun K hK => ?_)
          refine step_append_from (by rfl) (.tmp 56) (.tmp 58) 42 (by rfl) wc.heap.size 46 i0 (.agg #[.int .i64 0, .int .i64 0]) 2 16 Try.underlying42 HI0.out hz0 hz1 hz2 rfl (by omega) v7 k (ones (L.take k)) (by rfl) own9 (.slice (some ⟨W7.heap.size, 0, none⟩) 1 1) 1 (one8 (a, x)) (by rfl) news9 (.inr ⟨_, _, _, _, rfl⟩) (by rw [← ones_one]; exact ones_cell _) (by unfold maxLen; omega) (by omega) hb9.size ?_
          intro v10 W10 own10 grow10 at10
          have hb10 : Below wc.heap.size wc W10 := hb9.grown grow10 hb9.size (fun k hk => (own7.lt k hk).1)
          obtain ⟨a10, c10, rfl, l10, m10, _⟩ := owns_shape own10
          unfold maxLen at m10
          have HO10 := Lib.hid own10
          have z10 : W10.frozen? ⟨p, 1, none⟩ = false := blk_free ((hb10.block p hpl).trans H4.out.blk) 1
          have e10 : W10.cell? ⟨p, 1, none⟩ = some (.slice (some ⟨bl, o, none⟩) k k) := below_cell hb10 hpl d1
          refine step_owe hK ?_ (fun hT => ?_)
          · first | exact hb0 | exact hb7 | exact hb9 | exact hb10
          clear hK K
          refine wpAnyW_one (i := 11) (by kernel_rfl) rfl (fun K hK => ?_)
          go_simp
          refine step_paid hK (by kernel_rfl) ?_
          clear hK K
          refine wpAnyW_done (by kernel_rfl) ?_
          have HB10 := Lib.hid hb10
          clear own10 grow10 at10 hb10
          go_wp2_with (at_builtin; go_loud (refine wpList_append_from (by rfl) (.tmp 61) (.tmp 67) 42 (by rfl) wc.heap.size 46 i0 (.agg #[.int .i64 0, .int .i64 0]) 2 16 Try.underlying42 HI0.out hz0 hz1 hz2 rfl (by omega) (.slice a10 (k + 1) c10) (k + 1) (ones (L.take k) ++ one8 (a, x)) (by rfl) HO10.out (.slice (some ⟨bl, o, none⟩) 0 0) 0 (ones (L.drop k)) (by rfl) (by rw [ones_full HN.out]; exact reads_zero8 _ _) (.inr ⟨_, _, _, _, rfl⟩) (ones_cell _) (by unfold maxLen; omega) (by omega) HB10.out.size ?_))
          intro v13 w13 own13 gr13 at13
          have hb13 : Below wc.heap.size wc w13 := HB10.out.grown gr13 HB10.out.size (fun k hk => (HO10.out.lt k hk).1)
          obtain ⟨a13, c13, rfl, l13, m13, _⟩ := owns_shape own13
          unfold maxLen at m13
          have z13 : w13.frozen? ⟨p, 1, none⟩ = false := blk_free ((hb13.block p hpl).trans H4.out.blk) 1
          have e13 : w13.cell? ⟨p, 1, none⟩ = some (.slice (some ⟨bl, o, none⟩) k k) := below_cell hb13 hpl d1
          have HS := Lib.hid (H4.out.setR (B := wc.heap.size) H4.out.nsz hpl hb13.size (hb13.block p hpl) (l := L.take k ++ (a, x) :: L.drop k) (by
            have hl : (L.take k ++ (a, x) :: L.drop k).length = k + 1 + 0 := by rw [List.length_append, HLTK.out, List.length_cons, List.length_drop, ← HN.out] <;> omega
            rw [hl, show L.take k ++ (a, x) :: L.drop k = (L.take k ++ [(a, x)]) ++ L.drop k by simp, ones_app, ones_app, ones_one]
            first | exact own13 | (rw [List.append_assoc]; exact own13)))
          have HBS := Lib.hid (Ext.setCell (F := fun k => k = p) (HB4.out.then (Ext.of_below hb13)) (p := ⟨p, 1, none⟩) (fun _ => rfl) (.slice a13 (k + 1 + 0) c13))
          clear own13 gr13 hb13 at13
          go_wp2_with fail
          go_ret
          rw [HSPL.out.1, HSPL.out.2]
          exact ⟨rfl, ⟨_, HS.out⟩, HBS.out⟩
        · go_simp
          refine name_world (fun W9 hW9 => ?_)
          have hb9 : Below wc.heap.size wc W9 := by rw [hW9]; exact hb0.alloc hb0.size _
          have news9 : Reads W9 2 (.slice (some ⟨W0.heap.size, 0, none⟩) 1 1) 1 (one8 (a, x)) := by rw [hW9]; exact one_reads8 _ (a, x) _
          have new9 : ∀ k, (Value.slice (some ⟨W0.heap.size, 0, none⟩) 1 1).ownBlock = some k → k < W9.heap.size ∧ k = W0.heap.size := fun k hk => by simp only [Value.ownBlock, Option.some.injEq] at hk; subst hk; exact ⟨by rw [hW9]; simp, rfl⟩
          have own9 := own0.alloc (.cells #[.int .i64 x, .int .i64 a] 46)
          rw [← hW9] at own9
          clear hW9
          refine step_owe hK ?_ (fun hT => ?_)
          · first | exact hb0 | exact hb7 | exact hb9 | exact hb10
          clear hK K
          refine wpAnyW_one (i := 7) (by kernel_rfl) rfl (fun K hK => ?_)
          refine step_append_from (by rfl) (.tmp 49) (.tmp 55) 42 (by rfl) wc.heap.size 46 i0 (.agg #[.int .i64 0, .int .i64 0]) 2 16 Try.underlying42 HI0.out hz0 hz1 hz2 rfl (by omega) (.slice (some ⟨wc.heap.size, 0, none⟩) 0 0) 0 [] (by rfl) own9 (.slice (some ⟨bl, o, none⟩) k k) k (ones (L.take k)) (by rfl) (HRT.out.frame (fun j hj => hb9.block j (by simp only [Value.ownBlock, Option.some.injEq] at hj; subst hj; exact hbl))) (.inr ⟨_, _, _, _, rfl⟩) (ones_cell _) (by unfold maxLen; omega) (by omega) hb9.size ?_
          intro v7 W7 own7 grow7 at7
          simp only [Nat.zero_add, List.nil_append] at own7
          have hb7 : Below wc.heap.size wc W7 := hb9.grown grow7 hb9.size (fun k hk => by simp only [Value.ownBlock, Option.some.injEq] at hk; subst hk; exact Nat.le_refl _)
          have news7 := news9.grown grow7 (fun k hk => (new9 k hk).1) (fun k hk e => by simp only [Value.ownBlock, Option.some.injEq] at e; have := (new9 k hk).2; have := lt0; omega)
          have apart7 : v7.ownBlock ≠ some W0.heap.size := by
            intro e
            rcases at7 with h | h
            · rw [h] at e; simp only [Value.ownBlock, Option.some.injEq] at e; have := lt0; omega
            · rw [h] at e; injection e with e; have := (new9 W0.heap.size rfl).1; omega
          refine step_owe hK ?_ (fun hT => ?_)
          · first | exact hb0 | exact hb7 | exact hb9 | exact hb10
          clear hK K
          refine wpAnyW_one (i := 10) (by kernel_rfl) rfl (fun K hK => ?_)
          refine step_append_from (by rfl) (.tmp 56) (.tmp 58) 42 (by rfl) wc.heap.size 46 i0 (.agg #[.int .i64 0, .int .i64 0]) 2 16 Try.underlying42 HI0.out hz0 hz1 hz2 rfl (by omega) v7 k (ones (L.take k)) (by rfl) own7 (.slice (some ⟨W0.heap.size, 0, none⟩) 1 1) 1 (one8 (a, x)) (by rfl) news7 (.inr ⟨_, _, _, _, rfl⟩) (by rw [← ones_one]; exact ones_cell _) (by unfold maxLen; omega) (by omega) hb7.size ?_
          intro v10 W10 own10 grow10 at10
          have hb10 : Below wc.heap.size wc W10 := hb7.grown grow10 hb7.size (fun k hk => (own7.lt k hk).1)
          obtain ⟨a10, c10, rfl, l10, m10, _⟩ := owns_shape own10
          unfold maxLen at m10
          have HO10 := Lib.hid own10
          have z10 : W10.frozen? ⟨p, 1, none⟩ = false := blk_free ((hb10.block p hpl).trans H4.out.blk) 1
          have e10 : W10.cell? ⟨p, 1, none⟩ = some (.slice (some ⟨bl, o, none⟩) k k) := below_cell hb10 hpl d1
          refine step_owe hK ?_ (fun hT => ?_)
          · first | exact hb0 | exact hb7 | exact hb9 | exact hb10
          clear hK K
          refine wpAnyW_one (i := 11) (by kernel_rfl) rfl (fun K hK => ?_)
          go_simp
          refine step_paid hK (by kernel_rfl) ?_
          clear hK K
          refine wpAnyW_done (by kernel_rfl) ?_
          have HB10 := Lib.hid hb10
          clear own10 grow10 at10 hb10
          go_wp2_with (at_builtin; go_loud (refine wpList_append_from (by rfl) (.tmp 61) (.tmp 67) 42 (by rfl) wc.heap.size 46 i0 (.agg #[.int .i64 0, .int .i64 0]) 2 16 Try.underlying42 HI0.out hz0 hz1 hz2 rfl (by omega) (.slice a10 (k + 1) c10) (k + 1) (ones (L.take k) ++ one8 (a, x)) (by rfl) HO10.out (.slice (some ⟨bl, o, none⟩) 0 0) 0 (ones (L.drop k)) (by rfl) (by rw [ones_full HN.out]; exact reads_zero8 _ _) (.inr ⟨_, _, _, _, rfl⟩) (ones_cell _) (by unfold maxLen; omega) (by omega) HB10.out.size ?_))
          intro v13 w13 own13 gr13 at13
          have hb13 : Below wc.heap.size wc w13 := HB10.out.grown gr13 HB10.out.size (fun k hk => (HO10.out.lt k hk).1)
          obtain ⟨a13, c13, rfl, l13, m13, _⟩ := owns_shape own13
          unfold maxLen at m13
          have z13 : w13.frozen? ⟨p, 1, none⟩ = false := blk_free ((hb13.block p hpl).trans H4.out.blk) 1
          have e13 : w13.cell? ⟨p, 1, none⟩ = some (.slice (some ⟨bl, o, none⟩) k k) := below_cell hb13 hpl d1
          have HS := Lib.hid (H4.out.setR (B := wc.heap.size) H4.out.nsz hpl hb13.size (hb13.block p hpl) (l := L.take k ++ (a, x) :: L.drop k) (by
            have hl : (L.take k ++ (a, x) :: L.drop k).length = k + 1 + 0 := by rw [List.length_append, HLTK.out, List.length_cons, List.length_drop, ← HN.out] <;> omega
            rw [hl, show L.take k ++ (a, x) :: L.drop k = (L.take k ++ [(a, x)]) ++ L.drop k by simp, ones_app, ones_app, ones_one]
            first | exact own13 | (rw [List.append_assoc]; exact own13)))
          have HBS := Lib.hid (Ext.setCell (F := fun k => k = p) (HB4.out.then (Ext.of_below hb13)) (p := ⟨p, 1, none⟩) (fun _ => rfl) (.slice a13 (k + 1 + 0) c13))
          clear own13 gr13 hb13 at13
          go_wp2_with fail
          go_ret
          rw [HSPL.out.1, HSPL.out.2]
          exact ⟨rfl, ⟨_, HS.out⟩, HBS.out⟩
      · go_simp
        refine name_world (fun W9 hW9 => ?_)
        have hb9 : Below wc.heap.size wc W9 := by rw [hW9]; exact (⟨rfl, rfl, rfl, Nat.le_refl _, fun _ _ => rfl⟩ : Below wc.heap.size wc wc.drew).alloc (Nat.le_refl _) _
        have news9 : Reads W9 2 (.slice (some ⟨wc.heap.size, 0, none⟩) 1 1) 1 (one8 (a, x)) := by rw [hW9]; exact one_reads8 _ (a, x) _
        have new9 : ∀ k, (Value.slice (some ⟨wc.heap.size, 0, none⟩) 1 1).ownBlock = some k → k < W9.heap.size ∧ k = wc.heap.size := fun k hk => by simp only [Value.ownBlock, Option.some.injEq] at hk; subst hk; exact ⟨by rw [hW9]; simp, rfl⟩
        clear hW9
        refine step_owe hK ?_ (fun hT => ?_)
        · first | exact hb0 | exact hb7 | exact hb9 | exact hb10
        clear hK K
        refine wpAnyW_one (i := 0) (by kernel_rfl) rfl (fun K hK => ?_)
        go_simp
        refine name_world (fun W0 hW0 => ?_)
        have hb0 : Below wc.heap.size wc W0 := by rw [hW0]; exact hb9.alloc hb9.size _
        have own0 : W0.ownsRow wc.heap.size 46 2 (.slice (some ⟨W9.heap.size, 0, none⟩) 0 0) 0 [] := by rw [hW0]; exact owns_empty8 _ _ hb9.size
        have news0 := (news9.frame (w' := W0) (fun k hk => by rw [hW0]; exact Below.heap_alloc _ _ _ (new9 k hk).1))
        have new0 : ∀ k, (Value.slice (some ⟨wc.heap.size, 0, none⟩) 1 1).ownBlock = some k → k < W0.heap.size ∧ k ≠ W9.heap.size := fun k hk => ⟨Nat.lt_of_lt_of_le (new9 k hk).1 (by rw [hW0]; simp), fun e => by have := (new9 k hk).1; omega⟩
        have blk0 : W9.heap.size < W0.heap.size := by rw [hW0]; simp
        clear hW0
        refine step_owe hK ?_ (fun hT => ?_)
        · first | exact hb0 | exact hb7 | exact hb9 | exact hb10
        clear hK K
        refine wpAnyW_one (i := 7) (by kernel_rfl) rfl (fun K hK => ?_)
        refine step_append_from (by rfl) (.tmp 49) (.tmp 55) 42 (by rfl) wc.heap.size 46 i0 (.agg #[.int .i64 0, .int .i64 0]) 2 16 Try.underlying42 HI0.out hz0 hz1 hz2 rfl (by omega) (.slice (some ⟨W9.heap.size, 0, none⟩) 0 0) 0 [] (by rfl) own0 (.slice (some ⟨bl, o, none⟩) k k) k (ones (L.take k)) (by rfl) (HRT.out.frame (fun j hj => hb0.block j (by simp only [Value.ownBlock, Option.some.injEq] at hj; subst hj; exact hbl))) (.inr ⟨_, _, _, _, rfl⟩) (ones_cell _) (by unfold maxLen; omega) (by omega) hb0.size ?_
        intro v7 W7 own7 grow7 at7
        simp only [Nat.zero_add, List.nil_append] at own7
        have hb7 : Below wc.heap.size wc W7 := hb0.grown grow7 hb0.size (fun k hk => by simp only [Value.ownBlock, Option.some.injEq] at hk; subst hk; exact hb9.size)
        have news7 := news0.grown grow7 (fun k hk => (new0 k hk).1) (fun k hk e => by simp only [Value.ownBlock, Option.some.injEq] at e; have := (new0 k hk).2; omega)
        have apart7 : v7.ownBlock ≠ some wc.heap.size := by
          intro e
          rcases at7 with h | h
          · rw [h] at e; simp only [Value.ownBlock, Option.some.injEq] at e; have := (new9 wc.heap.size rfl).1; omega
          · rw [h] at e; injection e with e; have := (new9 wc.heap.size rfl).1; have := (new0 wc.heap.size rfl).1; omega
        refine step_owe hK ?_ (fun hT => ?_)
        · first | exact hb0 | exact hb7 | exact hb9 | exact hb10
        clear hK K
        refine wpAnyW_one (i := 10) (by kernel_rfl) rfl (fun K hK => ?_)
        refine step_append_from (by rfl) (.tmp 56) (.tmp 58) 42 (by rfl) wc.heap.size 46 i0 (.agg #[.int .i64 0, .int .i64 0]) 2 16 Try.underlying42 HI0.out hz0 hz1 hz2 rfl (by omega) v7 k (ones (L.take k)) (by rfl) own7 (.slice (some ⟨wc.heap.size, 0, none⟩) 1 1) 1 (one8 (a, x)) (by rfl) news7 (.inr ⟨_, _, _, _, rfl⟩) (by rw [← ones_one]; exact ones_cell _) (by unfold maxLen; omega) (by omega) hb7.size ?_
        intro v10 W10 own10 grow10 at10
        have hb10 : Below wc.heap.size wc W10 := hb7.grown grow10 hb7.size (fun k hk => (own7.lt k hk).1)
        obtain ⟨a10, c10, rfl, l10, m10, _⟩ := owns_shape own10
        unfold maxLen at m10
        have HO10 := Lib.hid own10
        have z10 : W10.frozen? ⟨p, 1, none⟩ = false := blk_free ((hb10.block p hpl).trans H4.out.blk) 1
        have e10 : W10.cell? ⟨p, 1, none⟩ = some (.slice (some ⟨bl, o, none⟩) k k) := below_cell hb10 hpl d1
        refine step_owe hK ?_ (fun hT => ?_)
        · first | exact hb0 | exact hb7 | exact hb9 | exact hb10
        clear hK K
        refine wpAnyW_one (i := 11) (by kernel_rfl) rfl (fun K hK => ?_)
        go_simp
        refine step_paid hK (by kernel_rfl) ?_
        clear hK K
        refine wpAnyW_done (by kernel_rfl) ?_
        have HB10 := Lib.hid hb10
        clear own10 grow10 at10 hb10
        go_wp2_with (at_builtin; go_loud (refine wpList_append_from (by rfl) (.tmp 61) (.tmp 67) 42 (by rfl) wc.heap.size 46 i0 (.agg #[.int .i64 0, .int .i64 0]) 2 16 Try.underlying42 HI0.out hz0 hz1 hz2 rfl (by omega) (.slice a10 (k + 1) c10) (k + 1) (ones (L.take k) ++ one8 (a, x)) (by rfl) HO10.out (.slice (some ⟨bl, o, none⟩) 0 0) 0 (ones (L.drop k)) (by rfl) (by rw [ones_full HN.out]; exact reads_zero8 _ _) (.inr ⟨_, _, _, _, rfl⟩) (ones_cell _) (by unfold maxLen; omega) (by omega) HB10.out.size ?_))
        intro v13 w13 own13 gr13 at13
        have hb13 : Below wc.heap.size wc w13 := HB10.out.grown gr13 HB10.out.size (fun k hk => (HO10.out.lt k hk).1)
        obtain ⟨a13, c13, rfl, l13, m13, _⟩ := owns_shape own13
        unfold maxLen at m13
        have z13 : w13.frozen? ⟨p, 1, none⟩ = false := blk_free ((hb13.block p hpl).trans H4.out.blk) 1
        have e13 : w13.cell? ⟨p, 1, none⟩ = some (.slice (some ⟨bl, o, none⟩) k k) := below_cell hb13 hpl d1
        have HS := Lib.hid (H4.out.setR (B := wc.heap.size) H4.out.nsz hpl hb13.size (hb13.block p hpl) (l := L.take k ++ (a, x) :: L.drop k) (by
          have hl : (L.take k ++ (a, x) :: L.drop k).length = k + 1 + 0 := by rw [List.length_append, HLTK.out, List.length_cons, List.length_drop, ← HN.out] <;> omega
          rw [hl, show L.take k ++ (a, x) :: L.drop k = (L.take k ++ [(a, x)]) ++ L.drop k by simp, ones_app, ones_app, ones_one]
          first | exact own13 | (rw [List.append_assoc]; exact own13)))
        have HBS := Lib.hid (Ext.setCell (F := fun k => k = p) (HB4.out.then (Ext.of_below hb13)) (p := ⟨p, 1, none⟩) (fun _ => rfl) (.slice a13 (k + 1 + 0) c13))
        clear own13 gr13 hb13 at13
        go_wp2_with fail
        go_ret
        rw [HSPL.out.1, HSPL.out.2]
        exact ⟨rfl, ⟨_, HS.out⟩, HBS.out⟩
    · have hkl1 : ¬ cl - k = 0 := by omega
      have hkl2 : ¬ cl ≤ k := by omega
      have hkl3 : ((cl - k : Nat) == 0) = false := by simp; omega
      go_wp2_with fail
      refine wp_region_W 12 11 (fun w' : World => Below wc.heap.size wc w') (by kernel_rfl) (by kernel_rfl) ⟨rfl, rfl, rfl, Nat.le_refl _, fun _ _ => rfl⟩ (fun hT => ?_)
      refine wpAnyW_take (i := 1) (some 50) rfl rfl (by kernel_rfl) (by kernel_rfl) (by kernel_rfl) (by kernel_rfl) (fun _ _ _ h => h) (v := ?_) (.inl ⟨by rfl, ?_⟩) (.inr hT) ?_
      rotate_left
      · (intro wT _; go_simp <;> with_reducible rfl)
      simp only [Act.put, List.setIfInBounds_toArray, List.set_cons_zero, List.set_cons_succ]
      refine wpAnyW_take (i := 2) (some 51) rfl rfl (by kernel_rfl) (by kernel_rfl) (by kernel_rfl) (by kernel_rfl) (fun _ _ _ h => h) (v := ?_) (.inl ⟨by rfl, ?_⟩) (.inr hT) ?_
      rotate_left
      · (intro wT _; go_simp <;> with_reducible rfl)
      simp only [Act.put, List.setIfInBounds_toArray, List.set_cons_zero, List.set_cons_succ]
      refine wpAnyW_take (i := 3) (some 52) rfl rfl (by kernel_rfl) (by kernel_rfl) (by kernel_rfl) (by kernel_rfl) (fun _ _ _ h => h) (v := ?_) (.inl ⟨by rfl, ?_⟩) (.inr hT) ?_
      rotate_left
      · (intro wT _; go_simp <;> with_reducible rfl)
      simp only [Act.put, List.setIfInBounds_toArray, List.set_cons_zero, List.set_cons_succ]
      refine wpAnyW_load (i := 4) (some 53) rfl rfl (by kernel_rfl) (by kernel_rfl) (by kernel_rfl) (by kernel_rfl) (by kernel_rfl) (fun _ _ _ h => h) (v := ?_) (.inl ⟨by rfl, ?_⟩) hT ?_
      rotate_left
      · (intro wT hT; try dsimp only at hT); (have t1 : wT.cell? ⟨p, 1, none⟩ = some (.slice (some ⟨bl, o, none⟩) n cl) := below_cell hT hpl d1); (have t2 : wT.cell? ⟨xb, 0, none⟩ = some (.int .i64 x) := below_cell hT hxl y0); (have t3 : wT.cell? ⟨xb, 1, none⟩ = some (.int .i64 a) := below_cell hT hxl y1); clear hT; (go_simp <;> with_reducible rfl)
      simp only [Act.put, List.setIfInBounds_toArray, List.set_cons_zero, List.set_cons_succ]
      refine wpAnyW_take (i := 5) (some 54) rfl rfl (by kernel_rfl) (by kernel_rfl) (by kernel_rfl) (by kernel_rfl) (fun _ _ _ h => h) (v := ?_) (.inl ⟨by rfl, ?_⟩) (.inr hT) ?_
      rotate_left
      · (intro wT _; go_simp <;> with_reducible rfl)
      simp only [Act.put, List.setIfInBounds_toArray, List.set_cons_zero, List.set_cons_succ]
      refine wpAnyW_take (i := 6) (some 55) rfl rfl (by kernel_rfl) (by kernel_rfl) (by kernel_rfl) (by kernel_rfl) (fun _ _ _ h => h) (v := ?_) (.inl ⟨by rfl, ?_⟩) (.inr hT) ?_
      rotate_left
      · (intro wT _; go_simp <;> with_reducible rfl)
      simp only [Act.put, List.setIfInBounds_toArray, List.set_cons_zero, List.set_cons_succ]
      refine wpAnyW_load (i := 8) (some 57) rfl rfl (by kernel_rfl) (by kernel_rfl) (by kernel_rfl) (by kernel_rfl) (by kernel_rfl) (fun _ _ _ h => h) (v := ?_) (.inl ⟨by rfl, ?_⟩) hT ?_
      rotate_left
      · (intro wT hT; try dsimp only at hT); (have t1 : wT.cell? ⟨p, 1, none⟩ = some (.slice (some ⟨bl, o, none⟩) n cl) := below_cell hT hpl d1); (have t2 : wT.cell? ⟨xb, 0, none⟩ = some (.int .i64 x) := below_cell hT hxl y0); (have t3 : wT.cell? ⟨xb, 1, none⟩ = some (.int .i64 a) := below_cell hT hxl y1); clear hT; (go_simp <;> with_reducible rfl)
      simp only [Act.put, List.setIfInBounds_toArray, List.set_cons_zero, List.set_cons_succ]
      refine wpAnyW_two (i := 0) (j := 9) (by kernel_rfl) rfl rfl (fun K hK => ?_) (fun K hK => ?_)
      · go_simp
        refine name_world (fun W0 hW0 => ?_)
        have hb0 : Below wc.heap.size wc W0 := by rw [hW0]; exact (⟨rfl, rfl, rfl, Nat.le_refl _, fun _ _ => rfl⟩ : Below wc.heap.size wc wc.drew).alloc (Nat.le_refl _) _
        have own0 : W0.ownsRow wc.heap.size 46 2 (.slice (some ⟨wc.heap.size, 0, none⟩) 0 0) 0 [] := by rw [hW0]; exact owns_empty8 _ _ (Nat.le_refl _)
        have lt0 : wc.heap.size < W0.heap.size := by rw [hW0]; simp
        clear hW0
        refine step_owe hK ?_ (fun hT => ?_)
        · first | exact hb0 | exact hb7 | exact hb9 | exact hb10
        clear hK K
        refine wpAnyW_two (i := 7) (j := 9) (by kernel_rfl) rfl rfl (fun K hK => ?_) (fun K hK => ?_)
        · refine step_append_from (by rfl) (.tmp 49) (.tmp 55) 42 (by rfl) wc.heap.size 46 i0 (.agg #[.int .i64 0, .int .i64 0]) 2 16 Try.underlying42 HI0.out hz0 hz1 hz2 rfl (by omega) (.slice (some ⟨wc.heap.size, 0, none⟩) 0 0) 0 [] (by rfl) own0 (.slice (some ⟨bl, o, none⟩) k cl) k (ones (L.take k)) (by rfl) (HRT.out.frame (fun j hj => hb0.block j (by simp only [Value.ownBlock, Option.some.injEq] at hj; subst hj; exact hbl))) (.inr ⟨_, _, _, _, rfl⟩) (ones_cell _) (by unfold maxLen; omega) (by omega) hb0.size ?_
          intro v7 W7 own7 grow7 at7
          simp only [Nat.zero_add, List.nil_append] at own7
          have hb7 : Below wc.heap.size wc W7 := hb0.grown grow7 hb0.size (fun k hk => by simp only [Value.ownBlock, Option.some.injEq] at hk; subst hk; exact Nat.le_refl _)
          refine step_owe hK ?_ (fun hT => ?_)
          · first | exact hb0 | exact hb7 | exact hb9 | exact hb10
          clear hK K
          refine wpAnyW_one (i := 9) (by kernel_rfl) rfl (fun K hK => ?_)
          go_simp
          refine name_world (fun W9 hW9 => ?_)
          have hb9 : Below wc.heap.size wc W9 := by rw [hW9]; exact hb7.alloc hb7.size _
          have news9 : Reads W9 2 (.slice (some ⟨W7.heap.size, 0, none⟩) 1 1) 1 (one8 (a, x)) := by rw [hW9]; exact one_reads8 _ (a, x) _
          have new9 : ∀ k, (Value.slice (some ⟨W7.heap.size, 0, none⟩) 1 1).ownBlock = some k → k < W9.heap.size ∧ k = W7.heap.size := fun k hk => by simp only [Value.ownBlock, Option.some.injEq] at hk; subst hk; exact ⟨by rw [hW9]; simp, rfl⟩
          have own9 := own7.alloc (.cells #[.int .i64 x, .int .i64 a] 46)
          rw [← hW9] at own9
          have apart9 : v7.ownBlock ≠ some W7.heap.size := fun e => by have := (own7.lt _ e).2; omega
          clear hW9
          refine step_owe hK ?_ (fun hT => ?_)
          · first | exact hb0 | exact hb7 | exact hb9 | exact hb10
          clear hK K
          refine wpAnyW_one (i := 10) (by kernel_rfl) rfl (fun K hK => ?_)
          refine step_append_from (by rfl) (.tmp 56) (.tmp 58) 42 (by rfl) wc.heap.size 46 i0 (.agg #[.int .i64 0, .int .i64 0]) 2 16 Try.underlying42 HI0.out hz0 hz1 hz2 rfl (by omega) v7 k (ones (L.take k)) (by rfl) own9 (.slice (some ⟨W7.heap.size, 0, none⟩) 1 1) 1 (one8 (a, x)) (by rfl) news9 (.inr ⟨_, _, _, _, rfl⟩) (by rw [← ones_one]; exact ones_cell _) (by unfold maxLen; omega) (by omega) hb9.size ?_
          intro v10 W10 own10 grow10 at10
          have hb10 : Below wc.heap.size wc W10 := hb9.grown grow10 hb9.size (fun k hk => (own7.lt k hk).1)
          obtain ⟨a10, c10, rfl, l10, m10, _⟩ := owns_shape own10
          unfold maxLen at m10
          have HO10 := Lib.hid own10
          have z10 : W10.frozen? ⟨p, 1, none⟩ = false := blk_free ((hb10.block p hpl).trans H4.out.blk) 1
          have e10 : W10.cell? ⟨p, 1, none⟩ = some (.slice (some ⟨bl, o, none⟩) n cl) := below_cell hb10 hpl d1
          refine step_owe hK ?_ (fun hT => ?_)
          · first | exact hb0 | exact hb7 | exact hb9 | exact hb10
          clear hK K
          refine wpAnyW_one (i := 11) (by kernel_rfl) rfl (fun K hK => ?_)
          go_simp
          refine step_paid hK (by kernel_rfl) ?_
          clear hK K
          refine wpAnyW_done (by kernel_rfl) ?_
          have HB10 := Lib.hid hb10
          clear own10 grow10 at10 hb10
          go_wp2_with (at_builtin; go_loud (refine wpList_append_from (by rfl) (.tmp 61) (.tmp 67) 42 (by rfl) wc.heap.size 46 i0 (.agg #[.int .i64 0, .int .i64 0]) 2 16 Try.underlying42 HI0.out hz0 hz1 hz2 rfl (by omega) (.slice a10 (k + 1) c10) (k + 1) (ones (L.take k) ++ one8 (a, x)) (by rfl) HO10.out (.slice (some ⟨bl, o + k * 2, none⟩) (n - k) (cl - k)) (n - k) (ones (L.drop k)) (by rfl) (HRD.out.frame (fun j hj => HB10.out.block j (by simp only [Value.ownBlock, Option.some.injEq] at hj; subst hj; exact hbl))) (.inr ⟨_, _, _, _, rfl⟩) (ones_cell _) (by unfold maxLen; omega) (by omega) HB10.out.size ?_))
          intro v13 w13 own13 gr13 at13
          have hb13 : Below wc.heap.size wc w13 := HB10.out.grown gr13 HB10.out.size (fun k hk => (HO10.out.lt k hk).1)
          obtain ⟨a13, c13, rfl, l13, m13, _⟩ := owns_shape own13
          unfold maxLen at m13
          have z13 : w13.frozen? ⟨p, 1, none⟩ = false := blk_free ((hb13.block p hpl).trans H4.out.blk) 1
          have e13 : w13.cell? ⟨p, 1, none⟩ = some (.slice (some ⟨bl, o, none⟩) n cl) := below_cell hb13 hpl d1
          have HS := Lib.hid (H4.out.setR (B := wc.heap.size) H4.out.nsz hpl hb13.size (hb13.block p hpl) (l := L.take k ++ (a, x) :: L.drop k) (by
            have hl : (L.take k ++ (a, x) :: L.drop k).length = k + 1 + (n - k) := by rw [List.length_append, HLTK.out, List.length_cons, List.length_drop, ← HN.out] <;> omega
            rw [hl, show L.take k ++ (a, x) :: L.drop k = (L.take k ++ [(a, x)]) ++ L.drop k by simp, ones_app, ones_app, ones_one]
            first | exact own13 | (rw [List.append_assoc]; exact own13)))
          have HBS := Lib.hid (Ext.setCell (F := fun k => k = p) (HB4.out.then (Ext.of_below hb13)) (p := ⟨p, 1, none⟩) (fun _ => rfl) (.slice a13 (k + 1 + (n - k)) c13))
          clear own13 gr13 hb13 at13
          go_wp2_with fail
          go_ret
          rw [HSPL.out.1, HSPL.out.2]
          exact ⟨rfl, ⟨_, HS.out⟩, HBS.out⟩
        · go_simp
          refine name_world (fun W9 hW9 => ?_)
          have hb9 : Below wc.heap.size wc W9 := by rw [hW9]; exact hb0.alloc hb0.size _
          have news9 : Reads W9 2 (.slice (some ⟨W0.heap.size, 0, none⟩) 1 1) 1 (one8 (a, x)) := by rw [hW9]; exact one_reads8 _ (a, x) _
          have new9 : ∀ k, (Value.slice (some ⟨W0.heap.size, 0, none⟩) 1 1).ownBlock = some k → k < W9.heap.size ∧ k = W0.heap.size := fun k hk => by simp only [Value.ownBlock, Option.some.injEq] at hk; subst hk; exact ⟨by rw [hW9]; simp, rfl⟩
          have own9 := own0.alloc (.cells #[.int .i64 x, .int .i64 a] 46)
          rw [← hW9] at own9
          clear hW9
          refine step_owe hK ?_ (fun hT => ?_)
          · first | exact hb0 | exact hb7 | exact hb9 | exact hb10
          clear hK K
          refine wpAnyW_one (i := 7) (by kernel_rfl) rfl (fun K hK => ?_)
          refine step_append_from (by rfl) (.tmp 49) (.tmp 55) 42 (by rfl) wc.heap.size 46 i0 (.agg #[.int .i64 0, .int .i64 0]) 2 16 Try.underlying42 HI0.out hz0 hz1 hz2 rfl (by omega) (.slice (some ⟨wc.heap.size, 0, none⟩) 0 0) 0 [] (by rfl) own9 (.slice (some ⟨bl, o, none⟩) k cl) k (ones (L.take k)) (by rfl) (HRT.out.frame (fun j hj => hb9.block j (by simp only [Value.ownBlock, Option.some.injEq] at hj; subst hj; exact hbl))) (.inr ⟨_, _, _, _, rfl⟩) (ones_cell _) (by unfold maxLen; omega) (by omega) hb9.size ?_
          intro v7 W7 own7 grow7 at7
          simp only [Nat.zero_add, List.nil_append] at own7
          have hb7 : Below wc.heap.size wc W7 := hb9.grown grow7 hb9.size (fun k hk => by simp only [Value.ownBlock, Option.some.injEq] at hk; subst hk; exact Nat.le_refl _)
          have news7 := news9.grown grow7 (fun k hk => (new9 k hk).1) (fun k hk e => by simp only [Value.ownBlock, Option.some.injEq] at e; have := (new9 k hk).2; have := lt0; omega)
          have apart7 : v7.ownBlock ≠ some W0.heap.size := by
            intro e
            rcases at7 with h | h
            · rw [h] at e; simp only [Value.ownBlock, Option.some.injEq] at e; have := lt0; omega
            · rw [h] at e; injection e with e; have := (new9 W0.heap.size rfl).1; omega
          refine step_owe hK ?_ (fun hT => ?_)
          · first | exact hb0 | exact hb7 | exact hb9 | exact hb10
          clear hK K
          refine wpAnyW_one (i := 10) (by kernel_rfl) rfl (fun K hK => ?_)
          refine step_append_from (by rfl) (.tmp 56) (.tmp 58) 42 (by rfl) wc.heap.size 46 i0 (.agg #[.int .i64 0, .int .i64 0]) 2 16 Try.underlying42 HI0.out hz0 hz1 hz2 rfl (by omega) v7 k (ones (L.take k)) (by rfl) own7 (.slice (some ⟨W0.heap.size, 0, none⟩) 1 1) 1 (one8 (a, x)) (by rfl) news7 (.inr ⟨_, _, _, _, rfl⟩) (by rw [← ones_one]; exact ones_cell _) (by unfold maxLen; omega) (by omega) hb7.size ?_
          intro v10 W10 own10 grow10 at10
          have hb10 : Below wc.heap.size wc W10 := hb7.grown grow10 hb7.size (fun k hk => (own7.lt k hk).1)
          obtain ⟨a10, c10, rfl, l10, m10, _⟩ := owns_shape own10
          unfold maxLen at m10
          have HO10 := Lib.hid own10
          have z10 : W10.frozen? ⟨p, 1, none⟩ = false := blk_free ((hb10.block p hpl).trans H4.out.blk) 1
          have e10 : W10.cell? ⟨p, 1, none⟩ = some (.slice (some ⟨bl, o, none⟩) n cl) := below_cell hb10 hpl d1
          refine step_owe hK ?_ (fun hT => ?_)
          · first | exact hb0 | exact hb7 | exact hb9 | exact hb10
          clear hK K
          refine wpAnyW_one (i := 11) (by kernel_rfl) rfl (fun K hK => ?_)
          go_simp
          refine step_paid hK (by kernel_rfl) ?_
          clear hK K
          refine wpAnyW_done (by kernel_rfl) ?_
          have HB10 := Lib.hid hb10
          clear own10 grow10 at10 hb10
          go_wp2_with (at_builtin; go_loud (refine wpList_append_from (by rfl) (.tmp 61) (.tmp 67) 42 (by rfl) wc.heap.size 46 i0 (.agg #[.int .i64 0, .int .i64 0]) 2 16 Try.underlying42 HI0.out hz0 hz1 hz2 rfl (by omega) (.slice a10 (k + 1) c10) (k + 1) (ones (L.take k) ++ one8 (a, x)) (by rfl) HO10.out (.slice (some ⟨bl, o + k * 2, none⟩) (n - k) (cl - k)) (n - k) (ones (L.drop k)) (by rfl) (HRD.out.frame (fun j hj => HB10.out.block j (by simp only [Value.ownBlock, Option.some.injEq] at hj; subst hj; exact hbl))) (.inr ⟨_, _, _, _, rfl⟩) (ones_cell _) (by unfold maxLen; omega) (by omega) HB10.out.size ?_))
          intro v13 w13 own13 gr13 at13
          have hb13 : Below wc.heap.size wc w13 := HB10.out.grown gr13 HB10.out.size (fun k hk => (HO10.out.lt k hk).1)
          obtain ⟨a13, c13, rfl, l13, m13, _⟩ := owns_shape own13
          unfold maxLen at m13
          have z13 : w13.frozen? ⟨p, 1, none⟩ = false := blk_free ((hb13.block p hpl).trans H4.out.blk) 1
          have e13 : w13.cell? ⟨p, 1, none⟩ = some (.slice (some ⟨bl, o, none⟩) n cl) := below_cell hb13 hpl d1
          have HS := Lib.hid (H4.out.setR (B := wc.heap.size) H4.out.nsz hpl hb13.size (hb13.block p hpl) (l := L.take k ++ (a, x) :: L.drop k) (by
            have hl : (L.take k ++ (a, x) :: L.drop k).length = k + 1 + (n - k) := by rw [List.length_append, HLTK.out, List.length_cons, List.length_drop, ← HN.out] <;> omega
            rw [hl, show L.take k ++ (a, x) :: L.drop k = (L.take k ++ [(a, x)]) ++ L.drop k by simp, ones_app, ones_app, ones_one]
            first | exact own13 | (rw [List.append_assoc]; exact own13)))
          have HBS := Lib.hid (Ext.setCell (F := fun k => k = p) (HB4.out.then (Ext.of_below hb13)) (p := ⟨p, 1, none⟩) (fun _ => rfl) (.slice a13 (k + 1 + (n - k)) c13))
          clear own13 gr13 hb13 at13
          go_wp2_with fail
          go_ret
          rw [HSPL.out.1, HSPL.out.2]
          exact ⟨rfl, ⟨_, HS.out⟩, HBS.out⟩
      · go_simp
        refine name_world (fun W9 hW9 => ?_)
        have hb9 : Below wc.heap.size wc W9 := by rw [hW9]; exact (⟨rfl, rfl, rfl, Nat.le_refl _, fun _ _ => rfl⟩ : Below wc.heap.size wc wc.drew).alloc (Nat.le_refl _) _
        have news9 : Reads W9 2 (.slice (some ⟨wc.heap.size, 0, none⟩) 1 1) 1 (one8 (a, x)) := by rw [hW9]; exact one_reads8 _ (a, x) _
        have new9 : ∀ k, (Value.slice (some ⟨wc.heap.size, 0, none⟩) 1 1).ownBlock = some k → k < W9.heap.size ∧ k = wc.heap.size := fun k hk => by simp only [Value.ownBlock, Option.some.injEq] at hk; subst hk; exact ⟨by rw [hW9]; simp, rfl⟩
        clear hW9
        refine step_owe hK ?_ (fun hT => ?_)
        · first | exact hb0 | exact hb7 | exact hb9 | exact hb10
        clear hK K
        refine wpAnyW_one (i := 0) (by kernel_rfl) rfl (fun K hK => ?_)
        go_simp
        refine name_world (fun W0 hW0 => ?_)
        have hb0 : Below wc.heap.size wc W0 := by rw [hW0]; exact hb9.alloc hb9.size _
        have own0 : W0.ownsRow wc.heap.size 46 2 (.slice (some ⟨W9.heap.size, 0, none⟩) 0 0) 0 [] := by rw [hW0]; exact owns_empty8 _ _ hb9.size
        have news0 := (news9.frame (w' := W0) (fun k hk => by rw [hW0]; exact Below.heap_alloc _ _ _ (new9 k hk).1))
        have new0 : ∀ k, (Value.slice (some ⟨wc.heap.size, 0, none⟩) 1 1).ownBlock = some k → k < W0.heap.size ∧ k ≠ W9.heap.size := fun k hk => ⟨Nat.lt_of_lt_of_le (new9 k hk).1 (by rw [hW0]; simp), fun e => by have := (new9 k hk).1; omega⟩
        have blk0 : W9.heap.size < W0.heap.size := by rw [hW0]; simp
        clear hW0
        refine step_owe hK ?_ (fun hT => ?_)
        · first | exact hb0 | exact hb7 | exact hb9 | exact hb10
        clear hK K
        refine wpAnyW_one (i := 7) (by kernel_rfl) rfl (fun K hK => ?_)
        refine step_append_from (by rfl) (.tmp 49) (.tmp 55) 42 (by rfl) wc.heap.size 46 i0 (.agg #[.int .i64 0, .int .i64 0]) 2 16 Try.underlying42 HI0.out hz0 hz1 hz2 rfl (by omega) (.slice (some ⟨W9.heap.size, 0, none⟩) 0 0) 0 [] (by rfl) own0 (.slice (some ⟨bl, o, none⟩) k cl) k (ones (L.take k)) (by rfl) (HRT.out.frame (fun j hj => hb0.block j (by simp only [Value.ownBlock, Option.some.injEq] at hj; subst hj; exact hbl))) (.inr ⟨_, _, _, _, rfl⟩) (ones_cell _) (by unfold maxLen; omega) (by omega) hb0.size ?_
        intro v7 W7 own7 grow7 at7
        simp only [Nat.zero_add, List.nil_append] at own7
        have hb7 : Below wc.heap.size wc W7 := hb0.grown grow7 hb0.size (fun k hk => by simp only [Value.ownBlock, Option.some.injEq] at hk; subst hk; exact hb9.size)
        have news7 := news0.grown grow7 (fun k hk => (new0 k hk).1) (fun k hk e => by simp only [Value.ownBlock, Option.some.injEq] at e; have := (new0 k hk).2; omega)
        have apart7 : v7.ownBlock ≠ some wc.heap.size := by
          intro e
          rcases at7 with h | h
          · rw [h] at e; simp only [Value.ownBlock, Option.some.injEq] at e; have := (new9 wc.heap.size rfl).1; omega
          · rw [h] at e; injection e with e; have := (new9 wc.heap.size rfl).1; have := (new0 wc.heap.size rfl).1; omega
        refine step_owe hK ?_ (fun hT => ?_)
        · first | exact hb0 | exact hb7 | exact hb9 | exact hb10
        clear hK K
        refine wpAnyW_one (i := 10) (by kernel_rfl) rfl (fun K hK => ?_)
        refine step_append_from (by rfl) (.tmp 56) (.tmp 58) 42 (by rfl) wc.heap.size 46 i0 (.agg #[.int .i64 0, .int .i64 0]) 2 16 Try.underlying42 HI0.out hz0 hz1 hz2 rfl (by omega) v7 k (ones (L.take k)) (by rfl) own7 (.slice (some ⟨wc.heap.size, 0, none⟩) 1 1) 1 (one8 (a, x)) (by rfl) news7 (.inr ⟨_, _, _, _, rfl⟩) (by rw [← ones_one]; exact ones_cell _) (by unfold maxLen; omega) (by omega) hb7.size ?_
        intro v10 W10 own10 grow10 at10
        have hb10 : Below wc.heap.size wc W10 := hb7.grown grow10 hb7.size (fun k hk => (own7.lt k hk).1)
        obtain ⟨a10, c10, rfl, l10, m10, _⟩ := owns_shape own10
        unfold maxLen at m10
        have HO10 := Lib.hid own10
        have z10 : W10.frozen? ⟨p, 1, none⟩ = false := blk_free ((hb10.block p hpl).trans H4.out.blk) 1
        have e10 : W10.cell? ⟨p, 1, none⟩ = some (.slice (some ⟨bl, o, none⟩) n cl) := below_cell hb10 hpl d1
        refine step_owe hK ?_ (fun hT => ?_)
        · first | exact hb0 | exact hb7 | exact hb9 | exact hb10
        clear hK K
        refine wpAnyW_one (i := 11) (by kernel_rfl) rfl (fun K hK => ?_)
        go_simp
        refine step_paid hK (by kernel_rfl) ?_
        clear hK K
        refine wpAnyW_done (by kernel_rfl) ?_
        have HB10 := Lib.hid hb10
        clear own10 grow10 at10 hb10
        go_wp2_with (at_builtin; go_loud (refine wpList_append_from (by rfl) (.tmp 61) (.tmp 67) 42 (by rfl) wc.heap.size 46 i0 (.agg #[.int .i64 0, .int .i64 0]) 2 16 Try.underlying42 HI0.out hz0 hz1 hz2 rfl (by omega) (.slice a10 (k + 1) c10) (k + 1) (ones (L.take k) ++ one8 (a, x)) (by rfl) HO10.out (.slice (some ⟨bl, o + k * 2, none⟩) (n - k) (cl - k)) (n - k) (ones (L.drop k)) (by rfl) (HRD.out.frame (fun j hj => HB10.out.block j (by simp only [Value.ownBlock, Option.some.injEq] at hj; subst hj; exact hbl))) (.inr ⟨_, _, _, _, rfl⟩) (ones_cell _) (by unfold maxLen; omega) (by omega) HB10.out.size ?_))
        intro v13 w13 own13 gr13 at13
        have hb13 : Below wc.heap.size wc w13 := HB10.out.grown gr13 HB10.out.size (fun k hk => (HO10.out.lt k hk).1)
        obtain ⟨a13, c13, rfl, l13, m13, _⟩ := owns_shape own13
        unfold maxLen at m13
        have z13 : w13.frozen? ⟨p, 1, none⟩ = false := blk_free ((hb13.block p hpl).trans H4.out.blk) 1
        have e13 : w13.cell? ⟨p, 1, none⟩ = some (.slice (some ⟨bl, o, none⟩) n cl) := below_cell hb13 hpl d1
        have HS := Lib.hid (H4.out.setR (B := wc.heap.size) H4.out.nsz hpl hb13.size (hb13.block p hpl) (l := L.take k ++ (a, x) :: L.drop k) (by
          have hl : (L.take k ++ (a, x) :: L.drop k).length = k + 1 + (n - k) := by rw [List.length_append, HLTK.out, List.length_cons, List.length_drop, ← HN.out] <;> omega
          rw [hl, show L.take k ++ (a, x) :: L.drop k = (L.take k ++ [(a, x)]) ++ L.drop k by simp, ones_app, ones_app, ones_one]
          first | exact own13 | (rw [List.append_assoc]; exact own13)))
        have HBS := Lib.hid (Ext.setCell (F := fun k => k = p) (HB4.out.then (Ext.of_below hb13)) (p := ⟨p, 1, none⟩) (fun _ => rfl) (.slice a13 (k + 1 + (n - k)) c13))
        clear own13 gr13 hb13 at13
        go_wp2_with fail
        go_ret
        rw [HSPL.out.1, HSPL.out.2]
        exact ⟨rfl, ⟨_, HS.out⟩, HBS.out⟩
end
end Go.Proofs.Ytajhfjgndkdbnaa
