/- What slices.Repeat does at the queues' and the nodes' types: one element, n times. Conditions: n at most 32; the element lies in a row of its own. -/
import Derived.Test.YtajhfjgndkdbnaaCopyK
import Derived.Test.YtajhfjgndkdbnaaShelf
import Derived.Deep.CutBlock
namespace Go.Proofs.Ytajhfjgndkdbnaa
open Go.RowKit

theorem info_queue : (Try.prog.info? 61).map (fun i => (i.zero, i.size, i.bytes)) = some (some (.agg #[.int .i64 0, .int .i64 0, .int .i64 0]), 3, 24) := by kernel_rfl
set_option maxRecDepth 100000 in
set_option maxHeartbeats 4000000 in
theorem repeat_queue (x y z : Int) (n : Nat) (hn : n ≤ 32) (gx : Nat) (w : World) (hx : w.heap[gx]? = some (.cells #[.int .i64 x, .int .i64 y, .int .i64 z] 61 (0, 0))) :
    Calls Try.prog 31 #[.slice (some ⟨gx, 0, none⟩) 1 1, .int .i64 n] w fun e w' => e = .returned (.slice (some ⟨w.heap.size, 0, none⟩) n n) ∧ w'.heap[w.heap.size]? = some (.cells (rep n [.int .i64 x, .int .i64 y, .int .i64 z]).toArray 61 (0, 0)) ∧ w.heap.size < w'.heap.size ∧ Below w.heap.size w w' := by
  have hn0 : (0 : Int) ≤ (n : Int) := Int.natCast_nonneg _
  have hn1 : (n : Int) ≤ 32 := by omega
  have hgx : gx < w.heap.size := (Array.getElem?_eq_some_iff.1 hx).1
  obtain ⟨i8, hi, hz0, hz1, hz2⟩ := info_parts info_queue
  have HI := Lib.hid hi
  have hmul := fun u : World => Try.bits_Mul 1 n (by omega) (by omega) u
  rw [show 1 * n / 18446744073709551616 = 0 by omega, show 1 * n % 18446744073709551616 = n by omega] at hmul
  obtain ⟨X, hX⟩ : ∃ X : List Value, X = [.int .i64 x, .int .i64 y, .int .i64 z] := ⟨_, rfl⟩
  have hXl : X.length = 3 := by rw [hX]; rfl
  have hX1 : ∀ m, ∀ v ∈ rep m X, v.oneCell' = true := by
    intro m v hv
    have := rep_mem hv
    rw [hX] at this
    simp at this
    rcases this with rfl | rfl | rfl <;> rfl
  have hx' : w.heap[gx]? = some (.cells X.toArray 61 (0, 0)) := by rw [hX]; exact hx
  rw [← hX]
  have HX := Lib.hid hX
  have HX1 := Lib.hid hX1
  have HXX := Lib.hid hx'
  clear hi hX hX1 hx hx'
  go_enter Try.func31, Try.ntmps31
  go_wp2_with fail
  refine (hmul _).mono ?_
  rintro e w0 ⟨rfl, rfl⟩
  clear hmul
  go_wp2_with (refine wpList_make_full _ rfl _ _ 58 rfl w0.heap.size 61 i8 (.agg #[.int .i64 0, .int .i64 0, .int .i64 0]) 3 Try.underlying58 HI.out hz0 hz1 .i64 .i64 n n n rfl rfl rfl rfl (by rw [hz2]; omega) (by unfold maxLen; omega) (Nat.le_refl _) ?_)
  intro w1 hown hgr
  obtain ⟨R, hRl, hg⟩ : ∃ R : List Value, R.length = n * 3 ∧ w1.heap[w0.heap.size]? = some (.cells R.toArray 61 (0, 0)) := by
    rcases hown.2 with ⟨h, _⟩ | ⟨g', cap, cur, hv, _, hg, _, _, hcs, _⟩
    · cases h
    · injection hv with h1 h2 h3
      injection h1 with h1
      injection h1 with h1
      subst h1 h3
      exact ⟨cur.toList, by simpa using hcs, by simpa using hg⟩
  have hb1 : Below w0.heap.size w0 w1 := (Below.refl _ _).grown hgr (Nat.le_refl _) (fun _ h => by cases h)
  have hs1 : w0.heap.size < w1.heap.size := (Array.getElem?_eq_some_iff.1 hg).1
  obtain ⟨m, hm⟩ : ∃ m, Nat.min 1 n = m := ⟨_, rfl⟩
  have hm1 : m ≤ 1 ∧ m ≤ n ∧ (0 < n → 0 < m) := by
    have : m = min 1 n := hm.symm
    omega
  have hsrc : ∀ j v, (rep m X)[j]? = some v → w1.cell? ((⟨gx, 0, none⟩ : Addr).add j) = some v := by
    intro j v hj
    have hm2 : m = 1 := by
      rcases Nat.lt_or_ge 0 m with h | h
      · omega
      · obtain rfl : m = 0 := by omega
        simp [rep] at hj
    rw [hm2, rep_one] at hj
    have h := blk_cell ((hb1.block _ hgx).trans HXX.out) j
    rw [show ((⟨gx, 0, none⟩ : Addr).add j) = ⟨gx, j, none⟩ by unfold Addr.add; split <;> simp_all, h]
    simpa using hj
  have HG := Lib.hid hg
  have HS := Lib.hid hsrc
  clear hown hgr hg hsrc
  go_wp2_with (refine wpList_copy_k rfl (.tmp 31) (.tmp 32) 58 58 rfl 61 3 Try.underlying58 (by kernel_rfl) w0.heap.size 0 n n ⟨gx, 0, none⟩ 1 1 rfl rfl R 61 HG.out (rep m X) m hm (by rw [rep_len, hXl]) HS.out (by rw [rep_len, hXl, hRl]; omega) (HX1.out m) w0.heap.size w0 hb1 (Nat.le_refl _) ?_)
  intro w2 hg2 hb2
  have HG2 := Lib.hid (show w2.heap[w0.heap.size]? = some (.cells (rep m X ++ R.drop (m * 3)).toArray 61 (0, 0)) by
    have h : w2.heap[w0.heap.size]? = some (.cells (splice R 0 (rep m X)).toArray 61 (0, 0)) := hg2
    rw [h]
    simp [splice, rep_len, hXl])
  clear hg2 hm
  go_wp2_with fail
  go_loopw [8] (fun v wr => ∃ (k : Nat) (rest : List Value), v = .int .i64 k ∧ k ≤ n ∧ (0 < n → 0 < k) ∧ rest.length = (n - k) * 3 ∧ Hid (wr.heap[w0.heap.size]? = some (.cells (rep k X ++ rest).toArray 61 (0, 0))) ∧ Below w0.heap.size w0 wr) (fun v _ => n - (intOf v).toNat)
  case atStart => exact ⟨m, R.drop (m * 3), rfl, hm1.2.1, hm1.2.2, by simp [hRl]; omega, Lib.hid HG2.out, hb2⟩
  case round =>
    obtain ⟨k, rest, rfl, hkn, hk1, hrl, HGR, hbw⟩ := hrel
    have hk0 : (0 : Int) ≤ (k : Int) := Int.natCast_nonneg _
    by_cases hlt : k < n
    · have hlt1 : (k : Int) < (n : Int) := by omega
      obtain ⟨m2, hm2⟩ : ∃ m, Nat.min k (n - k) = m := ⟨_, rfl⟩
      have hm3 : 0 < m2 ∧ k + m2 ≤ n := by
        have : m2 = min k (n - k) := hm2.symm
        have := hk1 (by omega)
        omega
      have hsrc : ∀ j v, (rep m2 X)[j]? = some v → wr.cell? ((⟨w0.heap.size, 0, none⟩ : Addr).add j) = some v := by
        intro j v hj
        have hle : m2 ≤ k := by
          have : m2 = min k (n - k) := hm2.symm
          omega
        have h := blk_cell HGR.out j
        rw [show ((⟨w0.heap.size, 0, none⟩ : Addr).add j) = ⟨w0.heap.size, j, none⟩ by unfold Addr.add; split <;> simp_all, h]
        have hjl : j < (rep m2 X).length := (List.getElem?_eq_some_iff.1 hj).1
        rw [show k = m2 + (k - m2) by omega, rep_add]
        simp only [List.append_assoc, List.getElem?_toArray]
        rw [List.getElem?_append_left hjl]
        exact hj
      have hwr : IntKind.i64.wrap ((k : Int) + (m2 : Int)) = (k : Int) + (m2 : Int) := wrap_small _ (by omega) (by omega)
      have HS2 := Lib.hid hsrc
      have HM2 := Lib.hid hm2
      clear hsrc hm2
      go_wp2_with fail
      go_region_law (refine step_copy_k rfl (.tmp 41) (.tmp 44) 58 58 rfl 61 3 Try.underlying58 (by kernel_rfl) w0.heap.size (k * 3) (n - k) (n - k) ⟨w0.heap.size, 0, none⟩ k n (by simp [Act.eval, Act.put]; omega) (by simp [Act.eval, Act.put]) (rep k X ++ rest) 61 HGR.out (rep m2 X) m2 HM2.out (by rw [rep_len, hXl]) HS2.out (by rw [rep_len, hXl, List.length_append, rep_len, hXl, hrl]; omega) (HX1.out m2) w0.heap.size w0 hbw.drew (Nat.le_refl _) ?_; intro w3 hg3 hb3)
      have HG3 : Hid (w3.heap[w0.heap.size]? = some (.cells (rep (k + m2) X ++ rest.drop (m2 * 3)).toArray 61 (0, 0))) := by
        have h : w3.heap[w0.heap.size]? = some (.cells (splice (rep k X ++ rest) (k * 3) (rep m2 X)).toArray 61 (0, 0)) := hg3
        have h2 := rep_splice k m2 X rest
        rw [hXl] at h2
        rw [h2] at h
        exact h
      clear hg3
      go_wp2_with fail
      go_roundw
      case rel => exact ⟨k + m2, by go_num, hm3.2, fun _ => by omega, rest.drop (m2 * 3), by rw [List.length_drop, hrl]; omega, HG3⟩
      case measure => simp [intOf]; omega
    · obtain rfl : k = n := by omega
      go_wp2_with fail
      go_ret
      have hr0 : rest = [] := List.eq_nil_of_length_eq_zero (by omega)
      have h : wr.heap[w0.heap.size]? = some (.cells (rep k X ++ rest).toArray 61 (0, 0)) := HGR
      rw [hr0, List.append_nil] at h
      exact ⟨rfl, h, (Array.getElem?_eq_some_iff.1 h).1, hbw⟩
theorem info_node : (Try.prog.info? 65).map (fun i => (i.zero, i.size, i.bytes)) = some (some (.agg #[.int .i64 0, .int .i64 0, .int .i64 0]), 3, 24) := by kernel_rfl
set_option maxRecDepth 100000 in
set_option maxHeartbeats 4000000 in
theorem repeat_node (x y z : Int) (n : Nat) (hn : n ≤ 32) (gx : Nat) (w : World) (hx : w.heap[gx]? = some (.cells #[.int .i64 x, .int .i64 y, .int .i64 z] 65 (0, 0))) :
    Calls Try.prog 33 #[.slice (some ⟨gx, 0, none⟩) 1 1, .int .i64 n] w fun e w' => e = .returned (.slice (some ⟨w.heap.size, 0, none⟩) n n) ∧ w'.heap[w.heap.size]? = some (.cells (rep n [.int .i64 x, .int .i64 y, .int .i64 z]).toArray 65 (0, 0)) ∧ w.heap.size < w'.heap.size ∧ Below w.heap.size w w' := by
  have hn0 : (0 : Int) ≤ (n : Int) := Int.natCast_nonneg _
  have hn1 : (n : Int) ≤ 32 := by omega
  have hgx : gx < w.heap.size := (Array.getElem?_eq_some_iff.1 hx).1
  obtain ⟨i8, hi, hz0, hz1, hz2⟩ := info_parts info_node
  have HI := Lib.hid hi
  have hmul := fun u : World => Try.bits_Mul 1 n (by omega) (by omega) u
  rw [show 1 * n / 18446744073709551616 = 0 by omega, show 1 * n % 18446744073709551616 = n by omega] at hmul
  obtain ⟨X, hX⟩ : ∃ X : List Value, X = [.int .i64 x, .int .i64 y, .int .i64 z] := ⟨_, rfl⟩
  have hXl : X.length = 3 := by rw [hX]; rfl
  have hX1 : ∀ m, ∀ v ∈ rep m X, v.oneCell' = true := by
    intro m v hv
    have := rep_mem hv
    rw [hX] at this
    simp at this
    rcases this with rfl | rfl | rfl <;> rfl
  have hx' : w.heap[gx]? = some (.cells X.toArray 65 (0, 0)) := by rw [hX]; exact hx
  rw [← hX]
  have HX := Lib.hid hX
  have HX1 := Lib.hid hX1
  have HXX := Lib.hid hx'
  clear hi hX hX1 hx hx'
  go_enter Try.func33, Try.ntmps33
  go_wp2_with fail
  refine (hmul _).mono ?_
  rintro e w0 ⟨rfl, rfl⟩
  clear hmul
  go_wp2_with (refine wpList_make_full _ rfl _ _ 62 rfl w0.heap.size 65 i8 (.agg #[.int .i64 0, .int .i64 0, .int .i64 0]) 3 Try.underlying62 HI.out hz0 hz1 .i64 .i64 n n n rfl rfl rfl rfl (by rw [hz2]; omega) (by unfold maxLen; omega) (Nat.le_refl _) ?_)
  intro w1 hown hgr
  obtain ⟨R, hRl, hg⟩ : ∃ R : List Value, R.length = n * 3 ∧ w1.heap[w0.heap.size]? = some (.cells R.toArray 65 (0, 0)) := by
    rcases hown.2 with ⟨h, _⟩ | ⟨g', cap, cur, hv, _, hg, _, _, hcs, _⟩
    · cases h
    · injection hv with h1 h2 h3
      injection h1 with h1
      injection h1 with h1
      subst h1 h3
      exact ⟨cur.toList, by simpa using hcs, by simpa using hg⟩
  have hb1 : Below w0.heap.size w0 w1 := (Below.refl _ _).grown hgr (Nat.le_refl _) (fun _ h => by cases h)
  have hs1 : w0.heap.size < w1.heap.size := (Array.getElem?_eq_some_iff.1 hg).1
  obtain ⟨m, hm⟩ : ∃ m, Nat.min 1 n = m := ⟨_, rfl⟩
  have hm1 : m ≤ 1 ∧ m ≤ n ∧ (0 < n → 0 < m) := by
    have : m = min 1 n := hm.symm
    omega
  have hsrc : ∀ j v, (rep m X)[j]? = some v → w1.cell? ((⟨gx, 0, none⟩ : Addr).add j) = some v := by
    intro j v hj
    have hm2 : m = 1 := by
      rcases Nat.lt_or_ge 0 m with h | h
      · omega
      · obtain rfl : m = 0 := by omega
        simp [rep] at hj
    rw [hm2, rep_one] at hj
    have h := blk_cell ((hb1.block _ hgx).trans HXX.out) j
    rw [show ((⟨gx, 0, none⟩ : Addr).add j) = ⟨gx, j, none⟩ by unfold Addr.add; split <;> simp_all, h]
    simpa using hj
  have HG := Lib.hid hg
  have HS := Lib.hid hsrc
  clear hown hgr hg hsrc
  go_wp2_with (refine wpList_copy_k rfl (.tmp 31) (.tmp 32) 62 62 rfl 65 3 Try.underlying62 (by kernel_rfl) w0.heap.size 0 n n ⟨gx, 0, none⟩ 1 1 rfl rfl R 65 HG.out (rep m X) m hm (by rw [rep_len, hXl]) HS.out (by rw [rep_len, hXl, hRl]; omega) (HX1.out m) w0.heap.size w0 hb1 (Nat.le_refl _) ?_)
  intro w2 hg2 hb2
  have HG2 := Lib.hid (show w2.heap[w0.heap.size]? = some (.cells (rep m X ++ R.drop (m * 3)).toArray 65 (0, 0)) by
    have h : w2.heap[w0.heap.size]? = some (.cells (splice R 0 (rep m X)).toArray 65 (0, 0)) := hg2
    rw [h]
    simp [splice, rep_len, hXl])
  clear hg2 hm
  go_wp2_with fail
  go_loopw [8] (fun v wr => ∃ (k : Nat) (rest : List Value), v = .int .i64 k ∧ k ≤ n ∧ (0 < n → 0 < k) ∧ rest.length = (n - k) * 3 ∧ Hid (wr.heap[w0.heap.size]? = some (.cells (rep k X ++ rest).toArray 65 (0, 0))) ∧ Below w0.heap.size w0 wr) (fun v _ => n - (intOf v).toNat)
  case atStart => exact ⟨m, R.drop (m * 3), rfl, hm1.2.1, hm1.2.2, by simp [hRl]; omega, Lib.hid HG2.out, hb2⟩
  case round =>
    obtain ⟨k, rest, rfl, hkn, hk1, hrl, HGR, hbw⟩ := hrel
    have hk0 : (0 : Int) ≤ (k : Int) := Int.natCast_nonneg _
    by_cases hlt : k < n
    · have hlt1 : (k : Int) < (n : Int) := by omega
      obtain ⟨m2, hm2⟩ : ∃ m, Nat.min k (n - k) = m := ⟨_, rfl⟩
      have hm3 : 0 < m2 ∧ k + m2 ≤ n := by
        have : m2 = min k (n - k) := hm2.symm
        have := hk1 (by omega)
        omega
      have hsrc : ∀ j v, (rep m2 X)[j]? = some v → wr.cell? ((⟨w0.heap.size, 0, none⟩ : Addr).add j) = some v := by
        intro j v hj
        have hle : m2 ≤ k := by
          have : m2 = min k (n - k) := hm2.symm
          omega
        have h := blk_cell HGR.out j
        rw [show ((⟨w0.heap.size, 0, none⟩ : Addr).add j) = ⟨w0.heap.size, j, none⟩ by unfold Addr.add; split <;> simp_all, h]
        have hjl : j < (rep m2 X).length := (List.getElem?_eq_some_iff.1 hj).1
        rw [show k = m2 + (k - m2) by omega, rep_add]
        simp only [List.append_assoc, List.getElem?_toArray]
        rw [List.getElem?_append_left hjl]
        exact hj
      have hwr : IntKind.i64.wrap ((k : Int) + (m2 : Int)) = (k : Int) + (m2 : Int) := wrap_small _ (by omega) (by omega)
      have HS2 := Lib.hid hsrc
      have HM2 := Lib.hid hm2
      clear hsrc hm2
      go_wp2_with fail
      go_region_law (refine step_copy_k rfl (.tmp 41) (.tmp 44) 62 62 rfl 65 3 Try.underlying62 (by kernel_rfl) w0.heap.size (k * 3) (n - k) (n - k) ⟨w0.heap.size, 0, none⟩ k n (by simp [Act.eval, Act.put]; omega) (by simp [Act.eval, Act.put]) (rep k X ++ rest) 65 HGR.out (rep m2 X) m2 HM2.out (by rw [rep_len, hXl]) HS2.out (by rw [rep_len, hXl, List.length_append, rep_len, hXl, hrl]; omega) (HX1.out m2) w0.heap.size w0 hbw.drew (Nat.le_refl _) ?_; intro w3 hg3 hb3)
      have HG3 : Hid (w3.heap[w0.heap.size]? = some (.cells (rep (k + m2) X ++ rest.drop (m2 * 3)).toArray 65 (0, 0))) := by
        have h : w3.heap[w0.heap.size]? = some (.cells (splice (rep k X ++ rest) (k * 3) (rep m2 X)).toArray 65 (0, 0)) := hg3
        have h2 := rep_splice k m2 X rest
        rw [hXl] at h2
        rw [h2] at h
        exact h
      clear hg3
      go_wp2_with fail
      go_roundw
      case rel => exact ⟨k + m2, by go_num, hm3.2, fun _ => by omega, rest.drop (m2 * 3), by rw [List.length_drop, hrl]; omega, HG3⟩
      case measure => simp [intOf]; omega
    · obtain rfl : k = n := by omega
      go_wp2_with fail
      go_ret
      have hr0 : rest = [] := List.eq_nil_of_length_eq_zero (by omega)
      have h : wr.heap[w0.heap.size]? = some (.cells (rep k X ++ rest).toArray 65 (0, 0)) := HGR
      rw [hr0, List.append_nil] at h
      exact ⟨rfl, h, (Array.getElem?_eq_some_iff.1 h).1, hbw⟩
end Go.Proofs.Ytajhfjgndkdbnaa
