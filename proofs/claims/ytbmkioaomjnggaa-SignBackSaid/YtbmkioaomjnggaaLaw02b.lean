/- The walks of the statements SignCats and SignBack: each returns true. Condition: a text's length, at most 2^47 bytes; numbers are of their kinds. -/
import Derived.Test.YtbmkioaomjnggaaLaw02
namespace Go.Proofs.Ytbmkioaomjnggaa
open Go.RowKit BigFrame

theorem cats_each : ∀ m : Fin 16, goodL 0 (2 ^ m.val) = true ∧ (textS 0 (2 ^ m.val)).size = 5 := by decide
theorem signsFrom_len (c : Int) : ∀ f n : Nat, (signsFrom c f n).length ≤ 2 * f
  | 0, _ => by simp [signsFrom]
  | f + 1, n => by
      rw [signsFrom_succ, List.length_append]
      have := signsFrom_len c f (n + 1)
      have h : (if testB c n then gk n else []).length ≤ 2 := by
        split
        · rw [gk_len]; exact Nat.le_refl _
        · simp
      omega
theorem text_size (l c : Int) : (textS l c).size ≤ 140737488351232 := by
  have h : (textL l c).length ≤ 35 := by
    unfold textL
    have := signsFrom_len c 16 0
    simp only [List.length_cons, List.length_append, List.length_nil]
    omega
  have h2 : (textS l c).size = (textL l c).length := by
    unfold textS toB
    simp [ByteArray.size]
  omega

set_option maxRecDepth 100000 in
set_option maxHeartbeats 4000000 in
theorem signCats_walk (w : World) (r : Int) (r0 : -2147483648 ≤ r) (r1 : r ≤ 2147483647) (n : Int) (n0 : 0 ≤ n) (n1 : n ≤ 255) :
    Calls Try.prog 12 #[.int .i32 r, .int .u8 n] w fun e w' => e = .returned (.bool true) ∧ Below w.heap.size w w' := by
  obtain ⟨k, hk⟩ : ∃ k : Int, k = n % 16 := ⟨_, rfl⟩
  have hk0 : 0 ≤ k ∧ k < 16 := by omega
  have hk2 : n % 16 = k := hk.symm
  have hc := cats_each ⟨k.toNat, by omega⟩
  simp only at hc
  have h1 := fun u : World => signPrint_calls 0 (2 ^ k.toNat) u
  rw [print_good hc.1] at h1
  obtain ⟨s, hs⟩ : ∃ s, s = textS 0 (2 ^ k.toNat) := ⟨_, rfl⟩
  rw [← hs] at h1
  have hsz : (s.size : Int) = 5 := by rw [hs]; have := hc.2; omega
  have hle : (2 : Int) ^ k.toNat ≤ 32768 := by
    have : (2 : Nat) ^ k.toNat ≤ 2 ^ 15 := Nat.pow_le_pow_right (by decide) (by omega)
    exact_mod_cast this
  have hpp := pow_pos' k.toNat
  have h2 := fun u : World => cat_calls r r0 r1 u
  have h3 := fun u : World => cat_calls (945 + k) (by omega) (by omega) u
  rw [show catOf (945 + k) = k by unfold catOf; rw [if_neg (by omega)]; omega] at h3
  have HK := Lib.hid hk
  clear hk hs hc
  unfold lab at h1
  by_cases a : r < 945
  · have hcat : catOf r = -1 := by unfold catOf; rw [if_pos (.inl a)]
    rw [hcat] at h2
    clear hcat
    go_enter Try.func12, Try.ntmps12
    go_wp2_with fail
    refine (h1 _).mono ?_
    rintro e w1 ⟨rfl, hb1⟩
    go_wp2_with fail
    refine (awake2_calls _).mono ?_
    rintro e w2 ⟨rfl, hb2⟩
    go_wp2_with fail
    refine (h2 _).mono ?_
    rintro e w3 ⟨rfl, rfl⟩
    go_wp2_with fail
    refine (h3 _).mono ?_
    rintro e w4 ⟨rfl, rfl⟩
    go_wp2_with fail
    go_ret
    have s1 := hb1.size
    exact ⟨rfl, hb1.trans (hb2.mono (by omega))⟩
  · by_cases b : r ≤ 960
    · have hcat : catOf r = r - 945 := by unfold catOf; rw [if_neg (by omega)]
      rw [hcat] at h2
      clear hcat
      go_enter Try.func12, Try.ntmps12
      go_wp2_with fail
      refine (h1 _).mono ?_
      rintro e w1 ⟨rfl, hb1⟩
      go_wp2_with fail
      refine (awake2_calls _).mono ?_
      rintro e w2 ⟨rfl, hb2⟩
      go_wp2_with fail
      refine (h2 _).mono ?_
      rintro e w3 ⟨rfl, rfl⟩
      go_wp2_with fail
      refine (h3 _).mono ?_
      rintro e w4 ⟨rfl, rfl⟩
      go_wp2_with fail
      go_ret
      have s1 := hb1.size
      exact ⟨rfl, hb1.trans (hb2.mono (by omega))⟩
    · have hcat : catOf r = -1 := by unfold catOf; rw [if_pos (.inr (by omega))]
      rw [hcat] at h2
      clear hcat
      go_enter Try.func12, Try.ntmps12
      go_wp2_with fail
      refine (h1 _).mono ?_
      rintro e w1 ⟨rfl, hb1⟩
      go_wp2_with fail
      refine (awake2_calls _).mono ?_
      rintro e w2 ⟨rfl, hb2⟩
      go_wp2_with fail
      refine (h2 _).mono ?_
      rintro e w3 ⟨rfl, rfl⟩
      go_wp2_with fail
      refine (h3 _).mono ?_
      rintro e w4 ⟨rfl, rfl⟩
      go_wp2_with fail
      go_ret
      have s1 := hb1.size
      exact ⟨rfl, hb1.trans (hb2.mono (by omega))⟩

set_option maxRecDepth 100000 in
set_option maxHeartbeats 4000000 in
theorem signBack_walk (w : World) (l : Int) (_ : -9223372036854775808 ≤ l) (_ : l ≤ 9223372036854775807) (c : Int) (_ : -9223372036854775808 ≤ c) (_ : c ≤ 9223372036854775807) (s : ByteArray) (hs : s.size ≤ 140737488351232) :
    Calls Try.prog 9 #[.agg #[.int .i64 l, .int .i64 c], .string s] w fun e w' => e = .returned (.bool true) ∧ Below w.heap.size w w' := by
  have h1 := fun u : World => signPrint_calls l c u
  have h3 := fun u : World => good_calls l c u
  have h4 := fun u : World => signRead_calls s hs u
  have hr := print_read s
  unfold lab at h1 h3
  by_cases g : goodL l c = true
  · rw [print_good g] at h1
    rw [g] at h3
    obtain ⟨t, ht⟩ : ∃ t, t = textS l c := ⟨_, rfl⟩
    have h2 := fun u : World => signRead_calls (textS l c) (text_size l c) u
    rw [readOut_eq (read_print g), ← ht] at h2
    rw [← ht] at h1
    clear ht g
    rcases hr with hr | ⟨x, y, hr, gx, htx⟩
    · rw [readOut_eq hr] at h4
      clear hr
      go_enter Try.func9, Try.ntmps9
      go_wp2_with fail
      refine (h1 _).mono ?_
      rintro e w1 ⟨rfl, hb1⟩
      have s1 := hb1.size
      simp only [World.size_alloc] at s1
      have ka : w1.heap[w.heap.size]? = some (.cells #[.int .i64 l, .int .i64 c] 43 (0, 0)) := kept hb1 (by simp) (heap_alloc_new w _)
      have B1 : Below w.heap.size w w1 := ((Below.refl _ w).alloc (by omega) _).trans (hb1.mono (by simp))
      go_wp2_with fail
      refine (h2 _).mono ?_
      rintro e w2 ⟨rfl, hb2⟩
      have s2 := hb2.size
      have kb : w2.heap[w.heap.size]? = some (.cells #[.int .i64 l, .int .i64 c] 43 (0, 0)) := kept hb2 (by omega) ka
      have kc : (w2.alloc (.cells #[.int .i64 l, .int .i64 c] 43)).heap[w.heap.size]? = some (.cells #[.int .i64 l, .int .i64 c] 43 (0, 0)) := (Below.heap_alloc _ _ _ (by omega)).trans kb
      have B2 : Below w.heap.size w (w2.alloc (.cells #[.int .i64 l, .int .i64 c] 43)) := (B1.trans (hb2.mono (by omega))).alloc (by omega) _
      have kd : (w2.alloc (.cells #[.int .i64 l, .int .i64 c] 43)).heap[w2.heap.size]? = some (.cells #[.int .i64 l, .int .i64 c] 43 (0, 0)) := heap_alloc_new w2 _
      have a0 := blk_cell kc 0
      have a1 := blk_cell kc 1
      simp only [List.getElem?_toArray, List.getElem?_cons_zero, List.getElem?_cons_succ] at a0 a1
      go_wp2_with fail
      refine (h3 _).mono ?_
      rintro e w3 ⟨rfl, hb3⟩
      have s3 := hb3.size
      simp only [World.size_alloc] at s3
      have B3 : Below w.heap.size w w3 := B2.trans (hb3.mono (by simp; omega))
      have ke := kept hb3 (by simp; omega) kc
      have kf := kept hb3 (by simp) kd
      have b0 : w3.cell? ⟨w.heap.size, 0, none⟩ = some (.int .i64 l) := blk_cell ke 0
      have b1 : w3.cell? ⟨w.heap.size, 1, none⟩ = some (.int .i64 c) := blk_cell ke 1
      have b2 : w3.cell? ⟨w2.heap.size, 0, none⟩ = some (.int .i64 l) := blk_cell kf 0
      have b3 : w3.cell? ⟨w2.heap.size, 1, none⟩ = some (.int .i64 c) := blk_cell kf 1
      go_wp2_with fail
      refine (h4 _).mono ?_
      rintro e w4 ⟨rfl, hb4⟩
      have s4 := hb4.size
      have B4 : Below w.heap.size w w4 := B3.trans (hb4.mono (by omega))
      clear ka kb kc kd ke kf a0 a1 b0 b1 b2 b3 hb1 hb2 hb3 hb4 B1 B2 B3 h1 h2 h3 h4
      go_wp2_with fail
      refine (awake2_calls _).mono ?_
      rintro e w5 ⟨rfl, hb5⟩
      have k5 := kept hb5 (by simp) (heap_alloc_new w4 (.cells #[.int .i64 0, .int .i64 0] 43))
      have d0 : w5.cell? ⟨w4.heap.size, 0, none⟩ = some (.int .i64 0) := blk_cell k5 0
      have d1 : w5.cell? ⟨w4.heap.size, 1, none⟩ = some (.int .i64 0) := blk_cell k5 1
      go_wp2_with fail
      go_ret
      exact ⟨rfl, (B4.alloc (by omega) _).trans (hb5.mono (by simp; omega))⟩
    · rw [readOut_eq hr] at h4
      have h5 := fun u : World => signPrint_calls x y u
      have h6 := fun u : World => good_calls x y u
      rw [print_good gx, htx] at h5
      rw [gx] at h6
      unfold lab at h5 h6
      clear hr gx htx
      go_enter Try.func9, Try.ntmps9
      go_wp2_with fail
      refine (h1 _).mono ?_
      rintro e w1 ⟨rfl, hb1⟩
      have s1 := hb1.size
      simp only [World.size_alloc] at s1
      have ka : w1.heap[w.heap.size]? = some (.cells #[.int .i64 l, .int .i64 c] 43 (0, 0)) := kept hb1 (by simp) (heap_alloc_new w _)
      have B1 : Below w.heap.size w w1 := ((Below.refl _ w).alloc (by omega) _).trans (hb1.mono (by simp))
      go_wp2_with fail
      refine (h2 _).mono ?_
      rintro e w2 ⟨rfl, hb2⟩
      have s2 := hb2.size
      have kb : w2.heap[w.heap.size]? = some (.cells #[.int .i64 l, .int .i64 c] 43 (0, 0)) := kept hb2 (by omega) ka
      have kc : (w2.alloc (.cells #[.int .i64 l, .int .i64 c] 43)).heap[w.heap.size]? = some (.cells #[.int .i64 l, .int .i64 c] 43 (0, 0)) := (Below.heap_alloc _ _ _ (by omega)).trans kb
      have B2 : Below w.heap.size w (w2.alloc (.cells #[.int .i64 l, .int .i64 c] 43)) := (B1.trans (hb2.mono (by omega))).alloc (by omega) _
      have kd : (w2.alloc (.cells #[.int .i64 l, .int .i64 c] 43)).heap[w2.heap.size]? = some (.cells #[.int .i64 l, .int .i64 c] 43 (0, 0)) := heap_alloc_new w2 _
      have a0 := blk_cell kc 0
      have a1 := blk_cell kc 1
      simp only [List.getElem?_toArray, List.getElem?_cons_zero, List.getElem?_cons_succ] at a0 a1
      go_wp2_with fail
      refine (h3 _).mono ?_
      rintro e w3 ⟨rfl, hb3⟩
      have s3 := hb3.size
      simp only [World.size_alloc] at s3
      have B3 : Below w.heap.size w w3 := B2.trans (hb3.mono (by simp; omega))
      have ke := kept hb3 (by simp; omega) kc
      have kf := kept hb3 (by simp) kd
      have b0 : w3.cell? ⟨w.heap.size, 0, none⟩ = some (.int .i64 l) := blk_cell ke 0
      have b1 : w3.cell? ⟨w.heap.size, 1, none⟩ = some (.int .i64 c) := blk_cell ke 1
      have b2 : w3.cell? ⟨w2.heap.size, 0, none⟩ = some (.int .i64 l) := blk_cell kf 0
      have b3 : w3.cell? ⟨w2.heap.size, 1, none⟩ = some (.int .i64 c) := blk_cell kf 1
      go_wp2_with fail
      refine (h4 _).mono ?_
      rintro e w4 ⟨rfl, hb4⟩
      have s4 := hb4.size
      have B4 : Below w.heap.size w w4 := B3.trans (hb4.mono (by omega))
      clear ka kb kc kd ke kf a0 a1 b0 b1 b2 b3 hb1 hb2 hb3 hb4 B1 B2 B3 h1 h2 h3 h4
      go_wp2_with fail
      refine (h5 _).mono ?_
      rintro e w5 ⟨rfl, hb5⟩
      have s5 := hb5.size
      simp only [World.size_alloc] at s5
      have k5 := kept hb5 (by simp) (heap_alloc_new w4 (.cells #[.int .i64 x, .int .i64 y] 43))
      go_wp2_with fail
      refine (awake2_calls _).mono ?_
      rintro e w6 ⟨rfl, hb6⟩
      have s6 := hb6.size
      have k6 := kept hb6 (by omega) k5
      have d0 : w6.cell? ⟨w4.heap.size, 0, none⟩ = some (.int .i64 x) := blk_cell k6 0
      have d1 : w6.cell? ⟨w4.heap.size, 1, none⟩ = some (.int .i64 y) := blk_cell k6 1
      go_wp2_with fail
      refine (h6 _).mono ?_
      rintro e w7 ⟨rfl, hb7⟩
      go_wp2_with fail
      go_ret
      refine ⟨by first | rfl | simp, ?_⟩
      exact (B4.alloc (by omega) _).trans ((hb5.mono (by simp; omega)).trans ((hb6.mono (by omega)).trans (hb7.mono (by omega))))
  · rw [print_bad (by simpa using g)] at h1
    rw [show goodL l c = false by simpa using g] at h3
    obtain ⟨ml, hml⟩ : ∃ ml : Int, ml = 0 := ⟨_, rfl⟩
    obtain ⟨mc, hmc⟩ : ∃ mc : Int, mc = 0 := ⟨_, rfl⟩
    have h2 := fun u : World => signRead_calls ⟨#[]⟩ (by decide) u
    rw [readOut_eq (s := ⟨#[]⟩) (x := 0) (y := 0) (z := 3) (by decide), ← hml] at h2
    obtain rfl : ml = mc := by rw [hml, hmc]
    clear g hml hmc
    rcases hr with hr | ⟨x, y, hr, gx, htx⟩
    · rw [readOut_eq hr] at h4
      clear hr
      go_enter Try.func9, Try.ntmps9
      go_wp2_with fail
      refine (h1 _).mono ?_
      rintro e w1 ⟨rfl, hb1⟩
      have s1 := hb1.size
      simp only [World.size_alloc] at s1
      have ka : w1.heap[w.heap.size]? = some (.cells #[.int .i64 l, .int .i64 c] 43 (0, 0)) := kept hb1 (by simp) (heap_alloc_new w _)
      have B1 : Below w.heap.size w w1 := ((Below.refl _ w).alloc (by omega) _).trans (hb1.mono (by simp))
      go_wp2_with fail
      refine (h2 _).mono ?_
      rintro e w2 ⟨rfl, hb2⟩
      have s2 := hb2.size
      have kb : w2.heap[w.heap.size]? = some (.cells #[.int .i64 l, .int .i64 c] 43 (0, 0)) := kept hb2 (by omega) ka
      have kc : (w2.alloc (.cells #[.int .i64 ml, .int .i64 ml] 43)).heap[w.heap.size]? = some (.cells #[.int .i64 l, .int .i64 c] 43 (0, 0)) := (Below.heap_alloc _ _ _ (by omega)).trans kb
      have B2 : Below w.heap.size w (w2.alloc (.cells #[.int .i64 ml, .int .i64 ml] 43)) := (B1.trans (hb2.mono (by omega))).alloc (by omega) _
      have kd : (w2.alloc (.cells #[.int .i64 ml, .int .i64 ml] 43)).heap[w2.heap.size]? = some (.cells #[.int .i64 ml, .int .i64 ml] 43 (0, 0)) := heap_alloc_new w2 _
      have a0 := blk_cell kc 0
      have a1 := blk_cell kc 1
      simp only [List.getElem?_toArray, List.getElem?_cons_zero, List.getElem?_cons_succ] at a0 a1
      go_wp2_with fail
      refine (h3 _).mono ?_
      rintro e w3 ⟨rfl, hb3⟩
      have s3 := hb3.size
      simp only [World.size_alloc] at s3
      have B3 : Below w.heap.size w w3 := B2.trans (hb3.mono (by simp; omega))
      have ke := kept hb3 (by simp; omega) kc
      have kf := kept hb3 (by simp) kd
      have b0 : w3.cell? ⟨w.heap.size, 0, none⟩ = some (.int .i64 l) := blk_cell ke 0
      have b1 : w3.cell? ⟨w.heap.size, 1, none⟩ = some (.int .i64 c) := blk_cell ke 1
      have b2 : w3.cell? ⟨w2.heap.size, 0, none⟩ = some (.int .i64 ml) := blk_cell kf 0
      have b3 : w3.cell? ⟨w2.heap.size, 1, none⟩ = some (.int .i64 ml) := blk_cell kf 1
      go_wp2_with fail
      refine (h4 _).mono ?_
      rintro e w4 ⟨rfl, hb4⟩
      have s4 := hb4.size
      have B4 : Below w.heap.size w w4 := B3.trans (hb4.mono (by omega))
      clear ka kb kc kd ke kf a0 a1 b0 b1 b2 b3 hb1 hb2 hb3 hb4 B1 B2 B3 h1 h2 h3 h4
      go_wp2_with fail
      refine (awake2_calls _).mono ?_
      rintro e w5 ⟨rfl, hb5⟩
      have k5 := kept hb5 (by simp) (heap_alloc_new w4 (.cells #[.int .i64 0, .int .i64 0] 43))
      have d0 : w5.cell? ⟨w4.heap.size, 0, none⟩ = some (.int .i64 0) := blk_cell k5 0
      have d1 : w5.cell? ⟨w4.heap.size, 1, none⟩ = some (.int .i64 0) := blk_cell k5 1
      go_wp2_with fail
      go_ret
      exact ⟨rfl, (B4.alloc (by omega) _).trans (hb5.mono (by simp; omega))⟩
    · rw [readOut_eq hr] at h4
      have h5 := fun u : World => signPrint_calls x y u
      have h6 := fun u : World => good_calls x y u
      rw [print_good gx, htx] at h5
      rw [gx] at h6
      unfold lab at h5 h6
      clear hr gx htx
      go_enter Try.func9, Try.ntmps9
      go_wp2_with fail
      refine (h1 _).mono ?_
      rintro e w1 ⟨rfl, hb1⟩
      have s1 := hb1.size
      simp only [World.size_alloc] at s1
      have ka : w1.heap[w.heap.size]? = some (.cells #[.int .i64 l, .int .i64 c] 43 (0, 0)) := kept hb1 (by simp) (heap_alloc_new w _)
      have B1 : Below w.heap.size w w1 := ((Below.refl _ w).alloc (by omega) _).trans (hb1.mono (by simp))
      go_wp2_with fail
      refine (h2 _).mono ?_
      rintro e w2 ⟨rfl, hb2⟩
      have s2 := hb2.size
      have kb : w2.heap[w.heap.size]? = some (.cells #[.int .i64 l, .int .i64 c] 43 (0, 0)) := kept hb2 (by omega) ka
      have kc : (w2.alloc (.cells #[.int .i64 ml, .int .i64 ml] 43)).heap[w.heap.size]? = some (.cells #[.int .i64 l, .int .i64 c] 43 (0, 0)) := (Below.heap_alloc _ _ _ (by omega)).trans kb
      have B2 : Below w.heap.size w (w2.alloc (.cells #[.int .i64 ml, .int .i64 ml] 43)) := (B1.trans (hb2.mono (by omega))).alloc (by omega) _
      have kd : (w2.alloc (.cells #[.int .i64 ml, .int .i64 ml] 43)).heap[w2.heap.size]? = some (.cells #[.int .i64 ml, .int .i64 ml] 43 (0, 0)) := heap_alloc_new w2 _
      have a0 := blk_cell kc 0
      have a1 := blk_cell kc 1
      simp only [List.getElem?_toArray, List.getElem?_cons_zero, List.getElem?_cons_succ] at a0 a1
      go_wp2_with fail
      refine (h3 _).mono ?_
      rintro e w3 ⟨rfl, hb3⟩
      have s3 := hb3.size
      simp only [World.size_alloc] at s3
      have B3 : Below w.heap.size w w3 := B2.trans (hb3.mono (by simp; omega))
      have ke := kept hb3 (by simp; omega) kc
      have kf := kept hb3 (by simp) kd
      have b0 : w3.cell? ⟨w.heap.size, 0, none⟩ = some (.int .i64 l) := blk_cell ke 0
      have b1 : w3.cell? ⟨w.heap.size, 1, none⟩ = some (.int .i64 c) := blk_cell ke 1
      have b2 : w3.cell? ⟨w2.heap.size, 0, none⟩ = some (.int .i64 ml) := blk_cell kf 0
      have b3 : w3.cell? ⟨w2.heap.size, 1, none⟩ = some (.int .i64 ml) := blk_cell kf 1
      go_wp2_with fail
      refine (h4 _).mono ?_
      rintro e w4 ⟨rfl, hb4⟩
      have s4 := hb4.size
      have B4 : Below w.heap.size w w4 := B3.trans (hb4.mono (by omega))
      clear ka kb kc kd ke kf a0 a1 b0 b1 b2 b3 hb1 hb2 hb3 hb4 B1 B2 B3 h1 h2 h3 h4
      go_wp2_with fail
      refine (h5 _).mono ?_
      rintro e w5 ⟨rfl, hb5⟩
      have s5 := hb5.size
      simp only [World.size_alloc] at s5
      have k5 := kept hb5 (by simp) (heap_alloc_new w4 (.cells #[.int .i64 x, .int .i64 y] 43))
      go_wp2_with fail
      refine (awake2_calls _).mono ?_
      rintro e w6 ⟨rfl, hb6⟩
      have s6 := hb6.size
      have k6 := kept hb6 (by omega) k5
      have d0 : w6.cell? ⟨w4.heap.size, 0, none⟩ = some (.int .i64 x) := blk_cell k6 0
      have d1 : w6.cell? ⟨w4.heap.size, 1, none⟩ = some (.int .i64 y) := blk_cell k6 1
      go_wp2_with fail
      refine (h6 _).mono ?_
      rintro e w7 ⟨rfl, hb7⟩
      go_wp2_with fail
      go_ret
      refine ⟨by first | rfl | simp, ?_⟩
      exact (B4.alloc (by omega) _).trans ((hb5.mono (by simp; omega)).trans ((hb6.mono (by omega)).trans (hb7.mono (by omega))))
end Go.Proofs.Ytbmkioaomjnggaa
