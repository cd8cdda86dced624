/- The walks of the statements SignReads, SignNames, SignPrints, SignUnlike, SignCats, SignBack: each returns true. Condition: a text's length, at most 2^47 bytes; numbers are of their kinds. -/
import Derived.Test.YtbmkioaomjnggaaSignAwake
namespace Go.Proofs.Ytbmkioaomjnggaa
open Go.RowKit BigFrame

theorem kept {B b : Nat} {w w' : World} {cs : Array Value} {t : TypeId} (hb : Below B w w') (hlt : b < B) (h : w.heap[b]? = some (.cells cs t (0, 0))) : w'.heap[b]? = some (.cells cs t (0, 0)) := (hb.block b hlt).trans h
theorem readOut_eq {s : ByteArray} {x y z : Int} (h : readV s = (x, y, z)) : readOut s = .tuple #[.agg #[.int .i64 x, .int .i64 y], .int .i64 z] := by unfold readOut lab; rw [h]

theorem signs_small (c : Int) : ∀ f n : Nat, n + f = 16 → ∀ x ∈ signsFrom c f n, x < 256
  | 0, _, _, x, h => by simp [signsFrom] at h
  | f + 1, n, hn, x, h => by
      rw [signsFrom_succ] at h
      rcases List.mem_append.1 h with h | h
      · split at h
        · exact gk_small n (by omega) x h
        · simp at h
      · exact signs_small c f (n + 1) (by omega) x h
theorem text_small (l c : Int) (h0 : 0 ≤ l) (h7 : l ≤ 7) : ∀ x ∈ textL l c, x < 256 := by
  intro x hx
  unfold textL at hx
  rcases List.mem_cons.1 hx with h | h
  · omega
  · rcases List.mem_cons.1 h with h | h
    · omega
    · rcases List.mem_append.1 h with h | h
      · exact signs_small c 16 0 rfl x h
      · simp at h; omega
theorem toB_map (l : List UInt8) : toB (l.map UInt8.toNat) = l := by
  unfold toB
  rw [List.map_map]
  conv => rhs; rw [← List.map_id l]
  apply List.map_congr_left
  intro x _
  simp
theorem map_toB {l : List Nat} (h : ∀ x ∈ l, x < 256) : (toB l).map UInt8.toNat = l := by
  unfold toB
  rw [List.map_map]
  conv => rhs; rw [← List.map_id l]
  apply List.map_congr_left
  intro x hx
  have := h x hx
  simp
  omega
theorem bl_text {l c : Int} (h0 : 0 ≤ l) (h7 : l ≤ 7) : bl (textS l c) 0 = textL l c := by
  unfold bl textS
  simp only [List.drop_zero]
  exact map_toB (text_small l c h0 h7)
theorem good_iff {l c : Int} : goodL l c = true ↔ 0 ≤ l ∧ l ≤ 7 ∧ 0 ≤ c ∧ c < 65536 := by unfold goodL; simp
theorem read_print {l c : Int} (h : goodL l c = true) : readV (textS l c) = (l, c, 0) := by
  obtain ⟨h0, h7, c0, c1⟩ := good_iff.1 h
  exact readV_some (by rw [bl_text h0 h7]; exact parse_text l c h0 h7 c0 c1)
theorem print_good {l c : Int} (h : goodL l c = true) : printV l c = (textS l c, 0) := by unfold printV; rw [if_pos h]
theorem print_bad {l c : Int} (h : goodL l c = false) : printV l c = (⟨#[]⟩, 3) := by unfold printV; rw [if_neg (by rw [h]; decide)]
theorem print_read (s : ByteArray) : readV s = (0, 0, 3) ∨ ∃ l c, readV s = (l, c, 0) ∧ goodL l c = true ∧ textS l c = s := by
  cases h : parseL (bl s 0) with
  | none => exact .inl (readV_none h)
  | some p =>
    obtain ⟨l, c⟩ := p
    obtain ⟨h0, h7, c0, c1, hl⟩ := text_parse h
    refine .inr ⟨l, c, readV_some h, good_iff.2 ⟨h0, h7, c0, c1⟩, ?_⟩
    unfold textS
    rw [← hl]
    unfold bl
    rw [List.drop_zero, toB_map]
theorem text_apart {a b c d : Int} (h : goodL a b = true) (k : goodL c d = true) (hne : ¬ (a = c ∧ b = d)) : textS a b ≠ textS c d := by
  intro e
  have h1 := read_print h
  rw [e, read_print k] at h1
  injection h1 with h2 h3
  injection h3 with h3 h4
  exact hne ⟨h2.symm, h3.symm⟩

set_option maxRecDepth 100000 in
set_option maxHeartbeats 4000000 in
theorem signReads_walk (w : World) (s : ByteArray) (hs : s.size ≤ 140737488351232) :
    Calls Try.prog 7 #[.string s] w fun e w' => e = .returned (.bool true) ∧ Below w.heap.size w w' := by
  obtain ⟨⟨x, y, z⟩, hv⟩ : ∃ p, readV s = p := ⟨_, rfl⟩
  have h1 := fun u : World => signRead_calls s hs u
  have h2 := fun u : World => rRead_calls s hs u
  rw [readOut_eq hv] at h1 h2
  clear hv
  go_enter Try.func7, Try.ntmps7
  go_wp2_with fail
  refine (h1 _).mono ?_
  rintro e w1 ⟨rfl, hb1⟩
  go_wp2_with fail
  refine (h2 _).mono ?_
  rintro e w2 ⟨rfl, hb2⟩
  go_wp2_with fail
  refine (awake2_calls _).mono ?_
  rintro e w3 ⟨rfl, hb3⟩
  have s1 := hb1.size
  have s2 := hb2.size
  have s3 := hb3.size
  simp only [World.size_alloc] at s1 s2 s3
  have k1 : w3.heap[w1.heap.size]? = some (.cells #[.int .i64 x, .int .i64 y] 43 (0, 0)) := kept hb3 (by simp; omega) ((Below.heap_alloc _ _ _ (by omega)).trans (kept hb2 (by simp) (heap_alloc_new w1 _)))
  have k2 : w3.heap[w2.heap.size]? = some (.cells #[.int .i64 x, .int .i64 y] 43 (0, 0)) := kept hb3 (by simp) (heap_alloc_new w2 _)
  have c0 : w3.cell? ⟨w1.heap.size, 0, none⟩ = some (.int .i64 x) := blk_cell k1 0
  have c1 : w3.cell? ⟨w1.heap.size, 1, none⟩ = some (.int .i64 y) := blk_cell k1 1
  have d0 : w3.cell? ⟨w2.heap.size, 0, none⟩ = some (.int .i64 x) := blk_cell k2 0
  have d1 : w3.cell? ⟨w2.heap.size, 1, none⟩ = some (.int .i64 y) := blk_cell k2 1
  go_wp2_with fail
  go_ret
  refine ⟨by first | rfl | simp, ?_⟩
  have a2 : Below w.heap.size w w2 := hb1.trans (((Below.refl _ w1).alloc (by omega) _).trans (hb2.mono (by simp; omega)))
  exact a2.trans (((Below.refl _ w2).alloc (by omega) _).trans (hb3.mono (by simp; omega)))

set_option maxRecDepth 100000 in
set_option maxHeartbeats 4000000 in
theorem signNames_walk (w : World) (s : ByteArray) (hs : s.size ≤ 140737488351232) :
    Calls Try.prog 11 #[.string s] w fun e w' => e = .returned (.bool true) ∧ Below w.heap.size w w' := by
  go_enter Try.func11, Try.ntmps11
  go_wp2_with fail
  refine (awake2_calls _).mono ?_
  rintro e w1 ⟨rfl, hb1⟩
  go_wp2_with fail
  refine (signName_calls s hs _).mono ?_
  rintro e w2 ⟨rfl, hb2⟩
  go_wp2_with fail
  refine (rName_calls s hs _).mono ?_
  rintro e w3 ⟨rfl, hb3⟩
  go_wp2_with fail
  go_ret
  refine ⟨by first | rfl | simp, ?_⟩
  have s1 := hb1.size
  have s2 := hb2.size
  exact hb1.trans ((hb2.mono (by omega)).trans (hb3.mono (by omega)))

set_option maxRecDepth 100000 in
set_option maxHeartbeats 4000000 in
theorem signPrints_walk (w : World) (l : Int) (_ : -9223372036854775808 ≤ l) (_ : l ≤ 9223372036854775807) (c : Int) (c0 : -9223372036854775808 ≤ c) (c1 : c ≤ 9223372036854775807) :
    Calls Try.prog 8 #[.agg #[.int .i64 l, .int .i64 c]] w fun e w' => e = .returned (.bool true) ∧ Below w.heap.size w w' := by
  obtain ⟨⟨t, f⟩, hv⟩ : ∃ p, printV l c = p := ⟨_, rfl⟩
  have h1 := fun u : World => signPrint_calls l c u
  have h2 := fun u : World => rPrint_calls l c c0 c1 u
  rw [hv] at h1 h2
  unfold lab at h1 h2
  clear hv
  go_enter Try.func8, Try.ntmps8
  go_wp2_with fail
  refine (h1 _).mono ?_
  rintro e w1 ⟨rfl, hb1⟩
  have s1 := hb1.size
  simp only [World.size_alloc] at s1
  have k1 : w1.heap[w.heap.size]? = some (.cells #[.int .i64 l, .int .i64 c] 43 (0, 0)) := kept hb1 (by simp) (heap_alloc_new w _)
  have d0 : w1.cell? ⟨w.heap.size, 0, none⟩ = some (.int .i64 l) := blk_cell k1 0
  have d1 : w1.cell? ⟨w.heap.size, 1, none⟩ = some (.int .i64 c) := blk_cell k1 1
  go_wp2_with fail
  refine (h2 _).mono ?_
  rintro e w2 ⟨rfl, hb2⟩
  have s2 := hb2.size
  go_wp2_with fail
  refine (awake2_calls _).mono ?_
  rintro e w3 ⟨rfl, hb3⟩
  go_wp2_with fail
  go_ret
  refine ⟨by first | rfl | simp, ?_⟩
  have a1 : Below w.heap.size w w1 := ((Below.refl _ w).alloc (by omega) _).trans (hb1.mono (by simp))
  exact a1.trans ((hb2.mono (by omega)).trans (hb3.mono (by omega)))

set_option maxRecDepth 100000 in
set_option maxHeartbeats 4000000 in
theorem signUnlike_walk (w : World) (a : Int) (_ : -9223372036854775808 ≤ a) (_ : a ≤ 9223372036854775807) (b : Int) (_ : -9223372036854775808 ≤ b) (_ : b ≤ 9223372036854775807) (c : Int) (_ : -9223372036854775808 ≤ c) (_ : c ≤ 9223372036854775807) (d : Int) (_ : -9223372036854775808 ≤ d) (_ : d ≤ 9223372036854775807) :
    Calls Try.prog 10 #[.agg #[.int .i64 a, .int .i64 b], .agg #[.int .i64 c, .int .i64 d]] w fun e w' => e = .returned (.bool true) ∧ Below w.heap.size w w' := by
  have h1 := fun u : World => signPrint_calls a b u
  have h2 := fun u : World => signPrint_calls c d u
  unfold lab at h1 h2
  by_cases g1 : goodL a b = true
  · rw [print_good g1] at h1
    by_cases g2 : goodL c d = true
    · rw [print_good g2] at h2
      obtain ⟨s, hs⟩ : ∃ s, s = textS a b := ⟨_, rfl⟩
      obtain ⟨t, ht⟩ : ∃ t, t = textS c d := ⟨_, rfl⟩
      rw [← hs] at h1
      rw [← ht] at h2
      have hw : ((s.toList == t.toList) == (a == c && b == d)) = true := by
        by_cases hh : a = c ∧ b = d
        · obtain ⟨rfl, rfl⟩ := hh
          rw [hs, ht]
          simp
        · have hne := text_apart g1 g2 hh
          rw [← hs, ← ht] at hne
          have h3 : (s.toList == t.toList) = false := by
            cases h : s.toList == t.toList with
            | false => rfl
            | true =>
              exfalso
              apply hne
              have h4 := eq_of_beq h
              rw [ByteArray.toList_eq, ByteArray.toList_eq] at h4
              exact ByteArray.ext (Array.ext' h4)
          have h5 : (a == c && b == d) = false := by
            cases h : (a == c && b == d) with
            | false => rfl
            | true =>
              exfalso
              simp at h
              exact hh h
          rw [h3, h5]
          rfl
      have HW := Lib.hid hw
      clear hw hs ht g1 g2
      go_enter Try.func10, Try.ntmps10
      go_wp2_with fail
      refine (h1 _).mono ?_
      rintro e w1 ⟨rfl, hb1⟩
      have s1 := hb1.size
      simp only [World.size_alloc] at s1
      have ka : w1.heap[w.heap.size]? = some (.cells #[.int .i64 a, .int .i64 b] 43 (0, 0)) := kept hb1 (by simp; omega) ((Below.heap_alloc _ _ _ (by simp)).trans (heap_alloc_new w _))
      have kc : w1.heap[w.heap.size + 1]? = some (.cells #[.int .i64 c, .int .i64 d] 43 (0, 0)) := kept hb1 (by simp) (heap_alloc2_new w _ _)
      have a0 : w1.cell? ⟨w.heap.size + 1, 0, none⟩ = some (.int .i64 c) := blk_cell kc 0
      have a1 : w1.cell? ⟨w.heap.size + 1, 1, none⟩ = some (.int .i64 d) := blk_cell kc 1
      have hbel : Below w.heap.size w w1 := ((((Below.refl _ w).alloc (by omega) _).alloc (by simp) _).trans (hb1.mono (by simp; omega)))
      go_wp2_with fail
      refine (h2 _).mono ?_
      rintro e w2 ⟨rfl, hb2⟩
      have s2 := hb2.size
      go_wp2_with fail
      refine (awake2_calls _).mono ?_
      rintro e w3 ⟨rfl, hb3⟩
      have k3 := kept hb3 (by omega) (kept hb2 (by omega) ka)
      have k4 := kept hb3 (by omega) (kept hb2 (by omega) kc)
      have b0 : w3.cell? ⟨w.heap.size, 0, none⟩ = some (.int .i64 a) := blk_cell k3 0
      have b1 : w3.cell? ⟨w.heap.size, 1, none⟩ = some (.int .i64 b) := blk_cell k3 1
      have b2 : w3.cell? ⟨w.heap.size + 1, 0, none⟩ = some (.int .i64 c) := blk_cell k4 0
      have b3 : w3.cell? ⟨w.heap.size + 1, 1, none⟩ = some (.int .i64 d) := blk_cell k4 1
      go_wp2_with fail
      all_goals go_ret
      all_goals refine ⟨?_, hbel.trans ((hb2.mono (by omega)).trans (hb3.mono (by omega)))⟩
      all_goals have h := HW.out
      all_goals clear hb1 hb2 hb3 hbel s1 s2 ka kc k3 k4 HW h1 h2
      all_goals simp_all
    · rw [print_bad (by simpa using g2)] at h2
      generalize textS a b = s at h1
      clear g1 g2
      go_enter Try.func10, Try.ntmps10
      go_wp2_with fail
      refine (h1 _).mono ?_
      rintro e w1 ⟨rfl, hb1⟩
      have s1 := hb1.size
      simp only [World.size_alloc] at s1
      have ka : w1.heap[w.heap.size]? = some (.cells #[.int .i64 a, .int .i64 b] 43 (0, 0)) := kept hb1 (by simp; omega) ((Below.heap_alloc _ _ _ (by simp)).trans (heap_alloc_new w _))
      have kc : w1.heap[w.heap.size + 1]? = some (.cells #[.int .i64 c, .int .i64 d] 43 (0, 0)) := kept hb1 (by simp) (heap_alloc2_new w _ _)
      have a0 : w1.cell? ⟨w.heap.size + 1, 0, none⟩ = some (.int .i64 c) := blk_cell kc 0
      have a1 : w1.cell? ⟨w.heap.size + 1, 1, none⟩ = some (.int .i64 d) := blk_cell kc 1
      have hbel : Below w.heap.size w w1 := ((((Below.refl _ w).alloc (by omega) _).alloc (by simp) _).trans (hb1.mono (by simp; omega)))
      go_wp2_with fail
      refine (h2 _).mono ?_
      rintro e w2 ⟨rfl, hb2⟩
      have s2 := hb2.size
      go_wp2_with fail
      refine (awake2_calls _).mono ?_
      rintro e w3 ⟨rfl, hb3⟩
      go_wp2_with fail
      go_ret
      exact ⟨rfl, hbel.trans ((hb2.mono (by omega)).trans (hb3.mono (by omega)))⟩
  · rw [print_bad (by simpa using g1)] at h1
    obtain ⟨⟨t, f⟩, hv⟩ : ∃ p, printV c d = p := ⟨_, rfl⟩
    rw [hv] at h2
    clear hv g1
    go_enter Try.func10, Try.ntmps10
    go_wp2_with fail
    refine (h1 _).mono ?_
    rintro e w1 ⟨rfl, hb1⟩
    have s1 := hb1.size
    simp only [World.size_alloc] at s1
    have ka : w1.heap[w.heap.size]? = some (.cells #[.int .i64 a, .int .i64 b] 43 (0, 0)) := kept hb1 (by simp; omega) ((Below.heap_alloc _ _ _ (by simp)).trans (heap_alloc_new w _))
    have kc : w1.heap[w.heap.size + 1]? = some (.cells #[.int .i64 c, .int .i64 d] 43 (0, 0)) := kept hb1 (by simp) (heap_alloc2_new w _ _)
    have a0 : w1.cell? ⟨w.heap.size + 1, 0, none⟩ = some (.int .i64 c) := blk_cell kc 0
    have a1 : w1.cell? ⟨w.heap.size + 1, 1, none⟩ = some (.int .i64 d) := blk_cell kc 1
    have hbel : Below w.heap.size w w1 := ((((Below.refl _ w).alloc (by omega) _).alloc (by simp) _).trans (hb1.mono (by simp; omega)))
    go_wp2_with fail
    refine (h2 _).mono ?_
    rintro e w2 ⟨rfl, hb2⟩
    have s2 := hb2.size
    go_wp2_with fail
    refine (awake2_calls _).mono ?_
    rintro e w3 ⟨rfl, hb3⟩
    go_wp2_with fail
    go_ret
    exact ⟨rfl, hbel.trans ((hb2.mono (by omega)).trans (hb3.mono (by omega)))⟩
end Go.Proofs.Ytbmkioaomjnggaa
