/- What fifo's Pop does, and the nil queues' answers, and the fixed facts (parcloselaw07.awake). Condition: the queues lie in memory (IsF). -/
import Derived.Test.YtkiogbenbicghaaFifo5
namespace Go.Proofs.Ytkiogbenbicghaa
open Go.RowKit BigFrame

set_option maxHeartbeats 2000000 in
theorem pop_calls {w : World} {g bq bn N : Nat} {L : List (List Nat)} (h : IsF w g bq bn L N) (n : Int) :
    Calls Try.prog 15 #[.pointer (some ⟨g, 0, none⟩), .int .i64 n] w fun e w' => e = .returned (.tuple #[.int .i64 (popL L n).1, .bool (popL L n).2.1]) ∧ IsF w' g bq bn (popL L n).2.2 N ∧ Ext w w' (FqF bq bn) := by
  have h0 := h
  obtain ⟨qs, ns, h1, h2⟩ := h
  have hIs := fis_calls h1 n
  by_cases hr : 0 ≤ n ∧ n < L.length
  · rw [show inR n qs = true by rw [h2.inR]; simpa using hr] at hIs
    obtain ⟨i, rfl⟩ : ∃ i : Nat, n = i := ⟨n.toNat, by omega⟩
    obtain ⟨l, hl⟩ : ∃ l, L[i]? = some l := ⟨_, List.getElem?_eq_getElem (by omega)⟩
    have hq := (h2.q i l hl).1
    have c0 := h1.g0
    have d0 := h1.q0 hq
    have hql := h1.ql
    have hqe := h2.ql
    simp only at d0
    obtain ⟨lq, hlq⟩ : ∃ l, l = qs.length := ⟨_, rfl⟩
    rw [← hlq] at c0 hql hqe
    have i0 : (0 : Int) ≤ (i : Int) := Int.natCast_nonneg _
    have i1 : (i : Int) < (lq : Int) := by omega
    cases l with
    | nil =>
      have hv : popL L i = (0, false, L) := by unfold popL; rw [if_neg (by omega)]; simp [hl]
      rw [hv]
      have HH := Lib.hid h0
      simp only [headD] at d0
      clear h0 h1 h2 hq hl hlq hqe hr hv
      go_enter Try.func15, Try.ntmps15
      go_wp2_with fail
      refine hIs.mono ?_
      rintro e w' ⟨rfl, rfl⟩
      go_wp2_with fail
      go_ret2
      exact ⟨rfl, HH.out, Ext.refl _ _⟩
    | cons x r =>
      have hv : popL L i = ((x : Int), true, L.set i r) := by unfold popL; rw [if_neg (by omega)]; simp [hl]
      rw [hv]
      have hrm := remove_calls h0 x
      have hrv : removeL L x = (true, L.set i r) := by
        unfold removeL
        rw [if_pos ⟨by omega, hasL_iff.2 ⟨i, _, hl, by simp⟩⟩]
        simp only [Int.toNat_natCast]
        rw [erase_map h2 (A := []) hl]
        rfl
      rw [hrv] at hrm
      simp only [headD] at d0
      have hne : ((x : Int) == -1) = false := by simp
      clear h0 h1 h2 hq hl hlq hqe hr hv hrv
      go_enter Try.func15, Try.ntmps15
      go_wp2_with fail
      refine hIs.mono ?_
      rintro e w' ⟨rfl, rfl⟩
      go_wp2_with fail
      refine hrm.mono ?_
      rintro e w' ⟨rfl, k1, k2⟩
      have K1 := Lib.hid k1
      have K2 := Lib.hid k2
      clear k1 k2
      go_wp2_with fail
      go_ret2
      exact ⟨rfl, K1.out, K2.out⟩
  · rw [show inR n qs = false by rw [h2.inR]; simpa using hr] at hIs
    have hv : popL L n = (0, false, L) := by
      unfold popL
      split
      · rfl
      · rw [List.getElem?_eq_none (by omega)]
    rw [hv]
    have HH := Lib.hid h0
    clear h0 h1 h2 hr hv
    go_enter Try.func15, Try.ntmps15
    go_wp2_with fail
    refine hIs.mono ?_
    rintro e w' ⟨rfl, rfl⟩
    go_wp2_with fail
    go_ret2
    exact ⟨rfl, HH.out, Ext.refl _ _⟩

theorem fpop_nil (n : Int) (w : World) : Calls Try.prog 15 #[.pointer none, .int .i64 n] w fun e w' => e = .returned (.tuple #[.int .i64 0, .bool false]) ∧ w = w' := by
  go_enter Try.func15, Try.ntmps15
  go_wp2_with fail
  refine (fis_nil n _).mono ?_
  rintro e w' ⟨rfl, rfl⟩
  go_wp2_with fail
  go_ret2
  exact ⟨rfl, rfl⟩
theorem fpush_nil (n x : Int) (w : World) : Calls Try.prog 19 #[.pointer none, .int .i64 n, .int .i64 x] w fun e w' => e = .returned (.bool false) ∧ w = w' := by
  go_enter Try.func19, Try.ntmps19
  go_wp2_with fail
  refine (fis_nil n _).mono ?_
  rintro e w' ⟨rfl, rfl⟩
  go_wp2_with fail
  go_ret
  exact ⟨rfl, rfl⟩
theorem fremove_nil (x : Int) (w : World) : Calls Try.prog 17 #[.pointer none, .int .i64 x] w fun e w' => e = .returned (.bool false) ∧ w = w' := by
  go_enter Try.func17, Try.ntmps17
  go_wp2_with fail
  refine (fwhere_nil x _).mono ?_
  rintro e w' ⟨rfl, rfl⟩
  go_wp2_with fail
  go_ret
  exact ⟨rfl, rfl⟩
theorem fall_nil (n : Int) (w : World) : Calls Try.prog 22 #[.pointer none, .int .i64 n] w fun e w' => e = .returned (.slice none 0 0) ∧ w = w' := by
  go_enter Try.func22, Try.ntmps22
  go_wp2_with fail
  refine (fis_nil n _).mono ?_
  rintro e w' ⟨rfl, rfl⟩
  go_wp2_with fail
  go_ret
  exact ⟨rfl, rfl⟩
theorem flen_nil (n : Int) (w : World) : Calls Try.prog 23 #[.pointer none, .int .i64 n] w fun e w' => e = .returned (.int .i64 0) ∧ w = w' := by
  go_enter Try.func23, Try.ntmps23
  go_wp2_with fail
  refine (fis_nil n _).mono ?_
  rintro e w' ⟨rfl, rfl⟩
  go_wp2_with fail
  go_ret
  exact ⟨rfl, rfl⟩

theorem ext_below {w0 a b : World} {B bq bn : Nat} (h : Below B w0 a) (k : Ext a b (FqF bq bn)) (hq : B ≤ bq) (hn : B ≤ bn) (hB : B ≤ a.heap.size) : Below B w0 b :=
  h.trans ⟨k.os, k.tape, k.output, k.size, fun i hi => k.block i (by omega) (by rintro (rfl | rfl) <;> omega)⟩

set_option maxRecDepth 100000 in
set_option maxHeartbeats 4000000 in
theorem awake7_calls (w : World) : Calls Try.prog 26 #[] w fun e w' => e = .returned (.bool true) ∧ Below w.heap.size w w' := by
  go_enter Try.func26, Try.ntmps26
  go_wp2_with fail
  refine (new_calls 2 4 _).mono ?_
  rintro e w1 ⟨g, bq, bn, rfl, h1, hg, hq, hn, hb1⟩
  have s1 := hb1.size
  have p1 := push_calls h1 0 3
  rw [show pushL (List.replicate (heldN 2) []) (heldN 4) 0 3 = (true, [[3], []]) by decide] at p1
  go_wp2_with fail
  refine p1.mono ?_
  rintro e w2 ⟨rfl, h2, x2⟩
  have hb2 := ext_below hb1 x2 hq hn s1
  have s2 := hb2.size
  have p2 := push_calls h2 0 1
  rw [show pushL [[3], []] (heldN 4) 0 1 = (true, [[3, 1], []]) by decide] at p2
  clear p1 h1 x2 hb1
  go_wp2_with fail
  refine p2.mono ?_
  rintro e w3 ⟨rfl, h3, x3⟩
  have hb3 := ext_below hb2 x3 hq hn s2
  have s3 := hb3.size
  have p3 := push_calls h3 1 3
  rw [show pushL [[3, 1], []] (heldN 4) 1 3 = (false, [[3, 1], []]) by decide] at p3
  clear p2 h2 x3 hb2
  go_wp2_with fail
  refine p3.mono ?_
  rintro e w4 ⟨rfl, h4, x4⟩
  have hb4 := ext_below hb3 x4 hq hn s3
  have s4 := hb4.size
  have p4 := remove_calls h4 3
  rw [show removeL [[3, 1], []] 3 = (true, [[1], []]) by decide] at p4
  clear p3 h3 x4 hb3
  go_wp2_with fail
  refine p4.mono ?_
  rintro e w5 ⟨rfl, h5, x5⟩
  have hb5 := ext_below hb4 x5 hq hn s4
  have s5 := hb5.size
  have p5 := pop_calls h5 0
  rw [show popL [[1], []] 0 = (1, true, [[], []]) by decide] at p5
  clear p4 h4 x5 hb4
  go_wp2_with fail
  refine p5.mono ?_
  rintro e w6 ⟨rfl, h6, x6⟩
  have hb6 := ext_below hb5 x6 hq hn s5
  have p6 := where_calls h6 1
  rw [show whereL [[], []] 1 = -1 by decide] at p6
  have p7 := len_calls h6 0
  rw [show lenL [[], []] 0 = 0 by decide] at p7
  clear p5 h5 x6 hb5 h6
  go_wp2_with fail
  refine p6.mono ?_
  rintro e w7 ⟨rfl, rfl⟩
  go_wp2_with fail
  refine p7.mono ?_
  rintro e w8 ⟨rfl, rfl⟩
  go_wp2_with fail
  go_ret
  exact ⟨rfl, hb6⟩
end Go.Proofs.Ytkiogbenbicghaa
