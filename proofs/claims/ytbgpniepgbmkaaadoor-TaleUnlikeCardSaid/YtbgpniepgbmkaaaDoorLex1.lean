/- The words of a text (package lex): its reader in memory, and what end does. Condition: the reader lies in memory. -/
import Derived.Test.YtbgpniepgbmkaaaDoorPol6
import Derived.Test.YtbgpniepgbmkaaaDoorObj
namespace Go.Proofs.YtbgpniepgbmkaaaDoor
open Go.RowKit BigFrame

theorem name_world2 {K : Act → World → Prop} {a : Act} {W' : World} (h : ∀ W, W = W' → K a W) : K a W' := h _ rfl
theorem Tryd.info_word : (Tryd.prog.info? 63).map (fun i => (i.zero, i.size, i.bytes)) = some (some (.agg #[.string ByteArray.empty, .int .i64 0, .int .i64 0]), 3, 32) := by kernel_rfl
structure Wd where
  tx : ByteArray
  ln : Int
  co : Int
def wdCells (d : Wd) : List Value := [.string d.tx, .int .i64 d.ln, .int .i64 d.co]
theorem wdCells_one (d : Wd) : ∀ u ∈ wdCells d, u.oneCell' = true := by
  intro u hu
  simp only [wdCells, List.mem_cons, List.not_mem_nil, or_false] at hu
  rcases hu with rfl | rfl | rfl <;> rfl
def rdCells (v : Value) (ln co fr ca : Int) (re : Bool) : Obj := .cells #[v, .int .i64 ln, .int .i64 co, .int .i64 fr, .int .i64 ca, .bool re] 93 (0, 0)
/-- The reader at rb: its words, line, column, where a word began and its column, is it in a remark; and the runes' place in block ib. -/
structure RD (w0 w : World) (rb ib : Nat) (o : Obj) (L : List Wd) (ln co fr ca : Int) (re : Bool) : Prop where
  ex : ∃ v, w.heap[rb]? = some (rdCells v ln co fr ca re) ∧ w.ownsRow w0.heap.size 63 3 v L.length (L.flatMap wdCells) ∧ v.ownBlock ≠ some rb ∧ v.ownBlock ≠ some ib
  it : w.heap[ib]? = some o
  ne : ib ≠ rb
  b : Below w0.heap.size w0 w
  ge : w0.heap.size ≤ rb
/-- A word ends: its text runs from fr to i. -/
def endL (L : List Wd) (s : ByteArray) (ln fr ca : Int) (i : Nat) : List Wd := if 0 ≤ fr then L ++ [⟨s.extract fr.toNat i, ln, ca⟩] else L
section
variable {w0 w : World} {rb ib : Nat} {o : Obj} {L : List Wd} {ln co fr ca : Int} {re : Bool}
theorem RD.setF (h : RD w0 w rb ib o L ln co fr ca re) (x : Int) : RD w0 (w.setCell ⟨rb, 3, none⟩ (.int .i64 x)) rb ib o L ln co x ca re := by
  obtain ⟨v, h1, h2, h3, h4⟩ := h.ex
  refine ⟨⟨v, ?_, owns_same h2 (fun k hk => heap_setCell_other _ _ _ _ (fun e => h3 (by rw [hk, e]))), h3, h4⟩, (heap_setCell_other _ _ _ _ h.ne).trans h.it, h.ne, h.b.setCell (p := ⟨rb, 3, none⟩) h.ge _, h.ge⟩
  have := blk_set h1 3 (.int .i64 x)
  simpa [rdCells] using this
set_option maxRecDepth 100000 in
set_option maxHeartbeats 16000000 in
theorem end_calls (h : RD w0 w rb ib o L ln co fr ca re) (s : ByteArray) (i : Nat) (hi : i ≤ s.size) (hs : s.size ≤ 4096) (hf : fr ≤ i) (hL : L.length ≤ 4096) :
    Calls Tryd.prog 40 #[.pointer (some ⟨rb, 0, none⟩), .string s, .int .i64 i] w fun e w' => e = .returned (.tuple #[]) ∧ RD w0 w' rb ib o (endL L s ln fr ca i) ln co (-1) ca re := by
  obtain ⟨v, h1, h2, h3, h4⟩ := h.ex
  have HB := Lib.hid h1
  have HO := Lib.hid h2
  have HH := Lib.hid h
  have c0 : w.cell? ⟨rb, 0, none⟩ = some v := blk_cell h1 0
  have c1 : w.cell? ⟨rb, 1, none⟩ = some (.int .i64 ln) := blk_cell h1 1
  have c3 : w.cell? ⟨rb, 3, none⟩ = some (.int .i64 fr) := blk_cell h1 3
  have c4 : w.cell? ⟨rb, 4, none⟩ = some (.int .i64 ca) := blk_cell h1 4
  have z3 : w.frozen? ⟨rb, 3, none⟩ = false := blk_free h1 3
  have hiz : (0 : Int) ≤ (i : Int) := Int.natCast_nonneg _
  have his : (i : Int) ≤ (s.size : Int) := by omega
  obtain ⟨i0, hi0, hz0, hz1, hz2⟩ := info_parts Tryd.info_word
  have HI0 := Lib.hid hi0
  have H34 := Lib.hid (And.intro h3 h4)
  obtain ⟨av, cv, rfl, hv1, hv2, _⟩ := owns_shape h2
  unfold maxLen at hv2
  by_cases hfr : 0 ≤ fr
  · obtain ⟨f, rfl⟩ : ∃ f : Nat, fr = f := ⟨fr.toNat, by omega⟩
    have hfi : (f : Int) ≤ (i : Int) := hf
    have HE := Lib.hid (show endL L s ln f ca i = L ++ [⟨s.extract f i, ln, ca⟩] by unfold endL; rw [if_pos hfr, Int.toNat_natCast])
    obtain ⟨n, hn⟩ : ∃ n, n = L.length := ⟨_, rfl⟩
    rw [← hn] at c0 hv1 hL HO HB H34
    have HN := Lib.hid hn
    clear h h1 h2 h3 h4 hi0 hn
    go_enter Tryd.func40, Tryd.ntmps40
    go_wp2_with fail
    refine wp_region_W 26 25 (fun w' : World => w'.heap[rb]? = some (rdCells (.slice av n cv) ln co f ca re)) (by kernel_rfl) (by kernel_rfl) HB.out (fun hT => ?_)
    refine wpAnyW_take (i := 0) (some 11) rfl rfl (by kernel_rfl) (by kernel_rfl) (by kernel_rfl) (by kernel_rfl) (fun _ _ _ h => h) (v := ?_) (.inl ⟨by rfl, ?_⟩) (.inr hT) ?_
    rotate_left
    · (intro wT _; go_simp <;> with_reducible rfl)
    simp only [Act.put, List.setIfInBounds_toArray, List.set_cons_zero, List.set_cons_succ]
    refine wpAnyW_take (i := 1) (some 12) rfl rfl (by kernel_rfl) (by kernel_rfl) (by kernel_rfl) (by kernel_rfl) (fun _ _ _ h => h) (v := ?_) (.inl ⟨by rfl, ?_⟩) (.inr hT) ?_
    rotate_left
    · (intro wT _; go_simp <;> with_reducible rfl)
    simp only [Act.put, List.setIfInBounds_toArray, List.set_cons_zero, List.set_cons_succ]
    refine wpAnyW_take (i := 2) (some 13) rfl rfl (by kernel_rfl) (by kernel_rfl) (by kernel_rfl) (by kernel_rfl) (fun _ _ _ h => h) (v := ?_) (.inl ⟨by rfl, ?_⟩) (.inr hT) ?_
    rotate_left
    · (intro wT _; go_simp <;> with_reducible rfl)
    simp only [Act.put, List.setIfInBounds_toArray, List.set_cons_zero, List.set_cons_succ]
    refine wpAnyW_take (i := 3) (some 14) rfl rfl (by kernel_rfl) (by kernel_rfl) (by kernel_rfl) (by kernel_rfl) (fun _ _ _ h => h) (v := ?_) (.inl ⟨by rfl, ?_⟩) (.inr hT) ?_
    rotate_left
    · (intro wT _; go_simp <;> with_reducible rfl)
    simp only [Act.put, List.setIfInBounds_toArray, List.set_cons_zero, List.set_cons_succ]
    refine wpAnyW_load (i := 4) (some 15) rfl rfl (by kernel_rfl) (by kernel_rfl) (by kernel_rfl) (by kernel_rfl) (by kernel_rfl) (fun _ _ _ h => h) (v := ?_) (.inl ⟨by rfl, ?_⟩) hT ?_
    rotate_left
    · (intro wT hT; try dsimp only at hT); (have hC := hT; have t0 : wT.cell? ⟨rb, 0, none⟩ = some (.slice av n cv) := blk_cell hC 0; have t1 : wT.cell? ⟨rb, 1, none⟩ = some (.int .i64 ln) := blk_cell hC 1; have t3 : wT.cell? ⟨rb, 3, none⟩ = some (.int .i64 f) := blk_cell hC 3; have t4 : wT.cell? ⟨rb, 4, none⟩ = some (.int .i64 ca) := blk_cell hC 4; clear hC hT); (go_simp <;> with_reducible rfl)
    simp only [Act.put, List.setIfInBounds_toArray, List.set_cons_zero, List.set_cons_succ]
    refine wpAnyW_take (i := 5) (some 16) rfl rfl (by kernel_rfl) (by kernel_rfl) (by kernel_rfl) (by kernel_rfl) (fun _ _ _ h => h) (v := ?_) (.inl ⟨by rfl, ?_⟩) (.inr hT) ?_
    rotate_left
    · (intro wT _; go_simp <;> with_reducible rfl)
    simp only [Act.put, List.setIfInBounds_toArray, List.set_cons_zero, List.set_cons_succ]
    refine wpAnyW_take (i := 6) (some 17) rfl rfl (by kernel_rfl) (by kernel_rfl) (by kernel_rfl) (by kernel_rfl) (fun _ _ _ h => h) (v := ?_) (.inl ⟨by rfl, ?_⟩) (.inr hT) ?_
    rotate_left
    · (intro wT _; go_simp <;> with_reducible rfl)
    simp only [Act.put, List.setIfInBounds_toArray, List.set_cons_zero, List.set_cons_succ]
    refine wpAnyW_take (i := 7) (some 18) rfl rfl (by kernel_rfl) (by kernel_rfl) (by kernel_rfl) (by kernel_rfl) (fun _ _ _ h => h) (v := ?_) (.inl ⟨by rfl, ?_⟩) (.inr hT) ?_
    rotate_left
    · (intro wT _; go_simp <;> with_reducible rfl)
    simp only [Act.put, List.setIfInBounds_toArray, List.set_cons_zero, List.set_cons_succ]
    refine wpAnyW_take (i := 8) (some 19) rfl rfl (by kernel_rfl) (by kernel_rfl) (by kernel_rfl) (by kernel_rfl) (fun _ _ _ h => h) (v := ?_) (.inl ⟨by rfl, ?_⟩) (.inr hT) ?_
    rotate_left
    · (intro wT _; go_simp <;> with_reducible rfl)
    simp only [Act.put, List.setIfInBounds_toArray, List.set_cons_zero, List.set_cons_succ]
    refine wpAnyW_load (i := 9) (some 20) rfl rfl (by kernel_rfl) (by kernel_rfl) (by kernel_rfl) (by kernel_rfl) (by kernel_rfl) (fun _ _ _ h => h) (v := ?_) (.inl ⟨by rfl, ?_⟩) hT ?_
    rotate_left
    · (intro wT hT; try dsimp only at hT); (have hC := hT; have t0 : wT.cell? ⟨rb, 0, none⟩ = some (.slice av n cv) := blk_cell hC 0; have t1 : wT.cell? ⟨rb, 1, none⟩ = some (.int .i64 ln) := blk_cell hC 1; have t3 : wT.cell? ⟨rb, 3, none⟩ = some (.int .i64 f) := blk_cell hC 3; have t4 : wT.cell? ⟨rb, 4, none⟩ = some (.int .i64 ca) := blk_cell hC 4; clear hC hT); (go_simp <;> with_reducible rfl)
    simp only [Act.put, List.setIfInBounds_toArray, List.set_cons_zero, List.set_cons_succ]
    refine wpAnyW_take (i := 10) (some 21) rfl rfl (by kernel_rfl) (by kernel_rfl) (by kernel_rfl) (by kernel_rfl) (fun _ _ _ h => h) (v := ?_) (.inl ⟨by rfl, ?_⟩) (.inr hT) ?_
    rotate_left
    · (intro wT _; go_simp <;> with_reducible rfl)
    simp only [Act.put, List.setIfInBounds_toArray, List.set_cons_zero, List.set_cons_succ]
    refine wpAnyW_take (i := 11) (some 22) rfl rfl (by kernel_rfl) (by kernel_rfl) (by kernel_rfl) (by kernel_rfl) (fun _ _ _ h => h) (v := ?_) (.inl ⟨by rfl, ?_⟩) (.inr hT) ?_
    rotate_left
    · (intro wT _; go_simp <;> with_reducible rfl)
    simp only [Act.put, List.setIfInBounds_toArray, List.set_cons_zero, List.set_cons_succ]
    refine wpAnyW_take (i := 12) (some 23) rfl rfl (by kernel_rfl) (by kernel_rfl) (by kernel_rfl) (by kernel_rfl) (fun _ _ _ h => h) (v := ?_) (.inl ⟨by rfl, ?_⟩) (.inr hT) ?_
    rotate_left
    · (intro wT _; go_simp <;> with_reducible rfl)
    simp only [Act.put, List.setIfInBounds_toArray, List.set_cons_zero, List.set_cons_succ]
    refine wpAnyW_take (i := 13) (some 24) rfl rfl (by kernel_rfl) (by kernel_rfl) (by kernel_rfl) (by kernel_rfl) (fun _ _ _ h => h) (v := ?_) (.inl ⟨by rfl, ?_⟩) (.inr hT) ?_
    rotate_left
    · (intro wT _; go_simp <;> with_reducible rfl)
    simp only [Act.put, List.setIfInBounds_toArray, List.set_cons_zero, List.set_cons_succ]
    refine wpAnyW_take (i := 14) (some 25) rfl rfl (by kernel_rfl) (by kernel_rfl) (by kernel_rfl) (by kernel_rfl) (fun _ _ _ h => h) (v := ?_) (.inl ⟨by rfl, ?_⟩) (.inr hT) ?_
    rotate_left
    · (intro wT _; go_simp <;> with_reducible rfl)
    simp only [Act.put, List.setIfInBounds_toArray, List.set_cons_zero, List.set_cons_succ]
    refine wpAnyW_load (i := 15) (some 26) rfl rfl (by kernel_rfl) (by kernel_rfl) (by kernel_rfl) (by kernel_rfl) (by kernel_rfl) (fun _ _ _ h => h) (v := ?_) (.inl ⟨by rfl, ?_⟩) hT ?_
    rotate_left
    · (intro wT hT; try dsimp only at hT); (have hC := hT; have t0 : wT.cell? ⟨rb, 0, none⟩ = some (.slice av n cv) := blk_cell hC 0; have t1 : wT.cell? ⟨rb, 1, none⟩ = some (.int .i64 ln) := blk_cell hC 1; have t3 : wT.cell? ⟨rb, 3, none⟩ = some (.int .i64 f) := blk_cell hC 3; have t4 : wT.cell? ⟨rb, 4, none⟩ = some (.int .i64 ca) := blk_cell hC 4; clear hC hT); (go_simp <;> with_reducible rfl)
    simp only [Act.put, List.setIfInBounds_toArray, List.set_cons_zero, List.set_cons_succ]
    refine wpAnyW_take (i := 16) (some 27) rfl rfl (by kernel_rfl) (by kernel_rfl) (by kernel_rfl) (by kernel_rfl) (fun _ _ _ h => h) (v := ?_) (.inl ⟨by rfl, ?_⟩) (.inr hT) ?_
    rotate_left
    · (intro wT _; go_simp <;> with_reducible rfl)
    simp only [Act.put, List.setIfInBounds_toArray, List.set_cons_zero, List.set_cons_succ]
    refine wpAnyW_take (i := 17) (some 28) rfl rfl (by kernel_rfl) (by kernel_rfl) (by kernel_rfl) (by kernel_rfl) (fun _ _ _ h => h) (v := ?_) (.inl ⟨by rfl, ?_⟩) (.inr hT) ?_
    rotate_left
    · (intro wT _; go_simp <;> with_reducible rfl)
    simp only [Act.put, List.setIfInBounds_toArray, List.set_cons_zero, List.set_cons_succ]
    refine wpAnyW_take (i := 18) (some 29) rfl rfl (by kernel_rfl) (by kernel_rfl) (by kernel_rfl) (by kernel_rfl) (fun _ _ _ h => h) (v := ?_) (.inl ⟨by rfl, ?_⟩) (.inr hT) ?_
    rotate_left
    · (intro wT _; go_simp <;> with_reducible rfl)
    simp only [Act.put, List.setIfInBounds_toArray, List.set_cons_zero, List.set_cons_succ]
    refine wpAnyW_load (i := 19) (some 30) rfl rfl (by kernel_rfl) (by kernel_rfl) (by kernel_rfl) (by kernel_rfl) (by kernel_rfl) (fun _ _ _ h => h) (v := ?_) (.inl ⟨by rfl, ?_⟩) hT ?_
    rotate_left
    · (intro wT hT; try dsimp only at hT); (have hC := hT; have t0 : wT.cell? ⟨rb, 0, none⟩ = some (.slice av n cv) := blk_cell hC 0; have t1 : wT.cell? ⟨rb, 1, none⟩ = some (.int .i64 ln) := blk_cell hC 1; have t3 : wT.cell? ⟨rb, 3, none⟩ = some (.int .i64 f) := blk_cell hC 3; have t4 : wT.cell? ⟨rb, 4, none⟩ = some (.int .i64 ca) := blk_cell hC 4; clear hC hT); (go_simp <;> with_reducible rfl)
    simp only [Act.put, List.setIfInBounds_toArray, List.set_cons_zero, List.set_cons_succ]
    refine wpAnyW_take (i := 20) (some 31) rfl rfl (by kernel_rfl) (by kernel_rfl) (by kernel_rfl) (by kernel_rfl) (fun _ _ _ h => h) (v := ?_) (.inl ⟨by rfl, ?_⟩) (.inr hT) ?_
    rotate_left
    · (intro wT _; go_simp <;> with_reducible rfl)
    simp only [Act.put, List.setIfInBounds_toArray, List.set_cons_zero, List.set_cons_succ]
    refine wpAnyW_one (i := 21) (by kernel_rfl) rfl (fun K hK => ?_)
    go_simp
    refine name_world2 (fun W21 hW21 => ?_)
    have hlt := lt_of_block HB.out
    have hb21 : W21.heap[rb]? = some (rdCells (.slice av n cv) ln co f ca re) := by rw [hW21]; exact (Below.heap_alloc _ _ _ hlt).trans HB.out
    have it21 : W21.heap[ib]? = some o := by rw [hW21]; exact (Below.heap_alloc _ _ _ (lt_of_block HH.out.it)).trans HH.out.it
    have own21 : W21.ownsRow w0.heap.size 63 3 (.slice av n cv) n (L.flatMap wdCells) := by
      rw [hW21]
      exact (owns_same HO.out (fun _ _ => rfl) : w.drew.ownsRow w0.heap.size 63 3 (.slice av n cv) n (L.flatMap wdCells)).alloc _
    have bel21 : Below w0.heap.size w0 W21 := by rw [hW21]; exact (HH.out.b.trans ((Below.refl w0.heap.size w).drew)).alloc (by exact HH.out.b.size) _
    have news21 : ∀ (j : Nat) (u : Value), (wdCells ⟨s.extract f i, ln, ca⟩)[j]? = some u → W21.cell? ((⟨w.heap.size, 0, none⟩ : Addr).add j) = some u := by
      intro j u hj
      rw [hW21]
      exact news_cells w.drew #[.string (s.extract f i), .int .i64 ln, .int .i64 ca] _ w.heap.size rfl j u hj
    clear hW21
    refine step_owe hK ?_ (fun hT => ?_)
    · first | exact hb21 | exact hb22
    clear hK K
    refine wpAnyW_one (i := 22) (by kernel_rfl) rfl (fun K hK => ?_)
    refine step_append_at (by rfl) (.tmp 15) (.tmp 32) 58 (by rfl) w0.heap.size 63 i0 (.agg #[.string ByteArray.empty, .int .i64 0, .int .i64 0]) 3 32 Tryd.underlying58 HI0.out hz0 hz1 hz2 rfl (by omega) (.slice av n cv) n (L.flatMap wdCells) (by rfl) own21 ⟨w.heap.size, 0, none⟩ 1 1 (wdCells ⟨s.extract f i, ln, ca⟩) (by rfl) rfl news21 (wdCells_one _) (by unfold maxLen; omega) (by omega) bel21.size ?_
    intro v22 W22 own22 grow22 at22
    have hb22 : W22.heap[rb]? = some (rdCells (.slice av n cv) ln co f ca re) := (grow22.block rb (lt_of_block hb21) (fun e => H34.out.1 e.symm)).trans hb21
    have it22 : W22.heap[ib]? = some o := (grow22.block ib (lt_of_block it21) (fun e => H34.out.2 e.symm)).trans it21
    have bel22 : Below w0.heap.size w0 W22 := bel21.grown grow22 bel21.size (fun k hk => (HO.out.lt k hk).1)
    have ne22 : v22.ownBlock ≠ some rb ∧ v22.ownBlock ≠ some ib := by
      rcases at22 with h | h
      · rw [h]
        exact H34.out
      · rw [h]
        have q1 := lt_of_block hb21
        have q2 := lt_of_block it21
        exact ⟨fun e => by injection e with e; omega, fun e => by injection e with e; omega⟩
    obtain ⟨a22, c22, rfl, _, _, _⟩ := owns_shape own22
    have z22 : W22.frozen? ⟨rb, 0, none⟩ = false := blk_free hb22 0
    have m22 : W22.cell? ⟨rb, 0, none⟩ = some (.slice av n cv) := blk_cell hb22 0
    refine step_owe hK ?_ (fun hT => ?_)
    · first | exact hb21 | exact hb22
    clear hK K
    refine wpAnyW_take (i := 23) (some 34) rfl rfl (by kernel_rfl) (by kernel_rfl) (by kernel_rfl) (by kernel_rfl) (fun _ _ _ h => h) (v := ?_) (.inl ⟨by rfl, ?_⟩) (.inr hT) ?_
    rotate_left
    · (intro wT _; go_simp <;> with_reducible rfl)
    simp only [Act.put, List.setIfInBounds_toArray, List.set_cons_zero, List.set_cons_succ]
    refine wpAnyW_take (i := 24) (some 35) rfl rfl (by kernel_rfl) (by kernel_rfl) (by kernel_rfl) (by kernel_rfl) (fun _ _ _ h => h) (v := ?_) (.inl ⟨by rfl, ?_⟩) (.inr hT) ?_
    rotate_left
    · (intro wT _; go_simp <;> with_reducible rfl)
    simp only [Act.put, List.setIfInBounds_toArray, List.set_cons_zero, List.set_cons_succ]
    refine wpAnyW_one (i := 25) (by kernel_rfl) rfl (fun K hK => ?_)
    go_simp
    refine step_paid hK (by kernel_rfl) ?_
    clear hK K
    refine wpAnyW_done (by kernel_rfl) ?_
    have HS := Lib.hid (show RD w0 (W22.setCell ⟨rb, 0, none⟩ (.slice a22 (n + 1) c22)) rb ib o (L ++ [⟨s.extract f i, ln, ca⟩]) ln co f ca re from by
      refine ⟨⟨_, ?_, owns_same ?_ (fun k hk => heap_setCell_other _ _ _ _ (fun e => ne22.1 (by rw [hk, e]))), ne22.1, ne22.2⟩, (heap_setCell_other _ _ _ _ HH.out.ne).trans it22, HH.out.ne, bel22.setCell (p := ⟨rb, 0, none⟩) HH.out.ge _, HH.out.ge⟩
      · have := blk_set hb22 0 (.slice a22 (n + 1) c22)
        simpa [rdCells] using this
      · rw [List.length_append, ← HN.out, List.flatMap_append]
        simpa using own22)
    have z2 : (W22.setCell ⟨rb, 0, none⟩ (.slice a22 (n + 1) c22)).frozen? ⟨rb, 3, none⟩ = false := by
      obtain ⟨_, q, _⟩ := HS.out.ex
      exact blk_free q 3
    have m2 : (W22.setCell ⟨rb, 0, none⟩ (.slice a22 (n + 1) c22)).cell? ⟨rb, 3, none⟩ = some (.int .i64 f) := by
      obtain ⟨_, q, _⟩ := HS.out.ex
      exact blk_cell q 3
    have HS2 := Lib.hid (HS.out.setF (-1))
    clear own22 grow22 at22 hb22 it22 bel22 own21 hb21 it21 bel21 news21 ne22
    go_wp2_with fail
    go_end0
    rw [HE.out]
    exact ⟨rfl, HS2.out⟩
  · have hfr' : ¬ 0 ≤ fr := hfr
    have HE := Lib.hid (show endL L s ln fr ca i = L by unfold endL; rw [if_neg hfr])
    have HS := Lib.hid (h.setF (-1))
    clear h h1 h2 h3 h4 hi0 hfr
    go_enter Tryd.func40, Tryd.ntmps40
    go_wp2_with fail
    go_end0
    rw [HE.out]
    exact ⟨rfl, HS.out⟩
end
end Go.Proofs.YtbgpniepgbmkaaaDoor
