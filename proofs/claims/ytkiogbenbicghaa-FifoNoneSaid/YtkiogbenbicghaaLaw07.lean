/- The walk of the statement FifoNone: it returns true. Conditions: none. -/
import Derived.Test.YtkiogbenbicghaaFifo6
namespace Go.Proofs.Ytkiogbenbicghaa
open Go.RowKit BigFrame

theorem none_each : ∀ a b : Fin 3, (pushL (List.replicate (heldN 3) []) (heldN 3) (a.val : Int) (b.val : Int)).1 = true ∧ whereL (pushL (List.replicate (heldN 3) []) (heldN 3) (a.val : Int) (b.val : Int)).2 (b.val : Int) = (a.val : Int) := by decide

set_option maxRecDepth 100000 in
set_option maxHeartbeats 8000000 in
theorem fifoNone_walk (w : World) (n : Int) (_ : -9223372036854775808 ≤ n) (_ : n ≤ 9223372036854775807) (x : Int) (_ : -9223372036854775808 ≤ x) (_ : x ≤ 9223372036854775807) :
    Calls Try.prog 7 #[.int .i64 n, .int .i64 x] w fun e w' => e = .returned (.bool true) ∧ Below w.heap.size w w' := by
  by_cases a : n < 0
  · have hpush : pushL (List.replicate (heldN 3) []) (heldN 3) n x = (false, List.replicate (heldN 3) []) := by
      unfold pushL
      rw [if_neg]
      rintro ⟨h1, h2, h3, h4, _⟩
      rw [show heldN 3 = 3 by decide] at h2 h4
      simp at h2
      omega
    have hwh : whereL (List.replicate (heldN 3) []) x = -1 := by
      unfold whereL
      split
      · rfl
      · first
          | rfl
          | (rw [show heldN 3 = 3 by decide]; simp [List.replicate, List.findIdx?_cons])
    go_enter Try.func7, Try.ntmps7
    go_wp2_with fail
    refine (fpop_nil n _).mono ?_
    rintro e w' ⟨rfl, rfl⟩
    go_wp2_with fail
    refine (fpush_nil n x _).mono ?_
    rintro e w' ⟨rfl, rfl⟩
    go_wp2_with fail
    refine (fremove_nil x _).mono ?_
    rintro e w' ⟨rfl, rfl⟩
    go_wp2_with fail
    refine (fwhere_nil x _).mono ?_
    rintro e w' ⟨rfl, rfl⟩
    go_wp2_with fail
    refine (fall_nil n _).mono ?_
    rintro e w' ⟨rfl, rfl⟩
    go_wp2_with fail
    refine (flen_nil n _).mono ?_
    rintro e w' ⟨rfl, rfl⟩
    go_wp2_with fail
    refine (new_calls 3 3 _).mono ?_
    rintro e w1 ⟨g, bq, bn, rfl, h1, hg, hq, hn, hb1⟩
    have s1 := hb1.size
    have hlt := h1.lt
    go_wp2_with fail
    refine (awake7_calls _).mono ?_
    rintro e w2 ⟨rfl, hb2⟩
    have h2 : IsF w2 g bq bn (List.replicate (heldN 3) []) (heldN 3) := h1.frame (fun k hk => hb2.block k (by omega))
    have s2 := hb2.size
    have p1 := push_calls h2 n x
    rw [hpush] at p1
    go_wp2_with fail
    refine p1.mono ?_
    rintro e w3 ⟨rfl, h3, x3⟩
    have hb3 := ext_below (hb1.trans (hb2.mono s1)) x3 hq hn (by omega)
    have p2 := where_calls h3 x
    rw [hwh] at p2
    go_wp2_with fail
    refine p2.mono ?_
    rintro e w4 ⟨rfl, rfl⟩
    go_wp2_with fail
    go_ret
    exact ⟨by first | rfl | (simp; done) | (simp; omega), hb3⟩
  · by_cases b : 2 < n
    · have hpush : pushL (List.replicate (heldN 3) []) (heldN 3) n x = (false, List.replicate (heldN 3) []) := by
        unfold pushL
        rw [if_neg]
        rintro ⟨h1, h2, h3, h4, _⟩
        rw [show heldN 3 = 3 by decide] at h2 h4
        simp at h2
        omega
      have hwh : whereL (List.replicate (heldN 3) []) x = -1 := by
        unfold whereL
        split
        · rfl
        · first
            | rfl
            | (rw [show heldN 3 = 3 by decide]; simp [List.replicate, List.findIdx?_cons])
      go_enter Try.func7, Try.ntmps7
      go_wp2_with fail
      refine (fpop_nil n _).mono ?_
      rintro e w' ⟨rfl, rfl⟩
      go_wp2_with fail
      refine (fpush_nil n x _).mono ?_
      rintro e w' ⟨rfl, rfl⟩
      go_wp2_with fail
      refine (fremove_nil x _).mono ?_
      rintro e w' ⟨rfl, rfl⟩
      go_wp2_with fail
      refine (fwhere_nil x _).mono ?_
      rintro e w' ⟨rfl, rfl⟩
      go_wp2_with fail
      refine (fall_nil n _).mono ?_
      rintro e w' ⟨rfl, rfl⟩
      go_wp2_with fail
      refine (flen_nil n _).mono ?_
      rintro e w' ⟨rfl, rfl⟩
      go_wp2_with fail
      refine (new_calls 3 3 _).mono ?_
      rintro e w1 ⟨g, bq, bn, rfl, h1, hg, hq, hn, hb1⟩
      have s1 := hb1.size
      have hlt := h1.lt
      go_wp2_with fail
      refine (awake7_calls _).mono ?_
      rintro e w2 ⟨rfl, hb2⟩
      have h2 : IsF w2 g bq bn (List.replicate (heldN 3) []) (heldN 3) := h1.frame (fun k hk => hb2.block k (by omega))
      have s2 := hb2.size
      have p1 := push_calls h2 n x
      rw [hpush] at p1
      go_wp2_with fail
      refine p1.mono ?_
      rintro e w3 ⟨rfl, h3, x3⟩
      have hb3 := ext_below (hb1.trans (hb2.mono s1)) x3 hq hn (by omega)
      have p2 := where_calls h3 x
      rw [hwh] at p2
      go_wp2_with fail
      refine p2.mono ?_
      rintro e w4 ⟨rfl, rfl⟩
      go_wp2_with fail
      go_ret
      exact ⟨by first | rfl | (simp; done) | (simp; omega), hb3⟩
    · by_cases c : x < 0
      · have hpush : pushL (List.replicate (heldN 3) []) (heldN 3) n x = (false, List.replicate (heldN 3) []) := by
          unfold pushL
          rw [if_neg]
          rintro ⟨h1, h2, h3, h4, _⟩
          rw [show heldN 3 = 3 by decide] at h2 h4
          simp at h2
          omega
        have hwh : whereL (List.replicate (heldN 3) []) x = -1 := by
          unfold whereL
          split
          · rfl
          · first
              | rfl
              | (rw [show heldN 3 = 3 by decide]; simp [List.replicate, List.findIdx?_cons])
        go_enter Try.func7, Try.ntmps7
        go_wp2_with fail
        refine (fpop_nil n _).mono ?_
        rintro e w' ⟨rfl, rfl⟩
        go_wp2_with fail
        refine (fpush_nil n x _).mono ?_
        rintro e w' ⟨rfl, rfl⟩
        go_wp2_with fail
        refine (fremove_nil x _).mono ?_
        rintro e w' ⟨rfl, rfl⟩
        go_wp2_with fail
        refine (fwhere_nil x _).mono ?_
        rintro e w' ⟨rfl, rfl⟩
        go_wp2_with fail
        refine (fall_nil n _).mono ?_
        rintro e w' ⟨rfl, rfl⟩
        go_wp2_with fail
        refine (flen_nil n _).mono ?_
        rintro e w' ⟨rfl, rfl⟩
        go_wp2_with fail
        refine (new_calls 3 3 _).mono ?_
        rintro e w1 ⟨g, bq, bn, rfl, h1, hg, hq, hn, hb1⟩
        have s1 := hb1.size
        have hlt := h1.lt
        go_wp2_with fail
        refine (awake7_calls _).mono ?_
        rintro e w2 ⟨rfl, hb2⟩
        have h2 : IsF w2 g bq bn (List.replicate (heldN 3) []) (heldN 3) := h1.frame (fun k hk => hb2.block k (by omega))
        have s2 := hb2.size
        have p1 := push_calls h2 n x
        rw [hpush] at p1
        go_wp2_with fail
        refine p1.mono ?_
        rintro e w3 ⟨rfl, h3, x3⟩
        have hb3 := ext_below (hb1.trans (hb2.mono s1)) x3 hq hn (by omega)
        have p2 := where_calls h3 x
        rw [hwh] at p2
        go_wp2_with fail
        refine p2.mono ?_
        rintro e w4 ⟨rfl, rfl⟩
        go_wp2_with fail
        go_ret
        exact ⟨by first | rfl | (simp; done) | (simp; omega), hb3⟩
      · by_cases d : 2 < x
        · have hpush : pushL (List.replicate (heldN 3) []) (heldN 3) n x = (false, List.replicate (heldN 3) []) := by
            unfold pushL
            rw [if_neg]
            rintro ⟨h1, h2, h3, h4, _⟩
            rw [show heldN 3 = 3 by decide] at h2 h4
            simp at h2
            omega
          have hwh : whereL (List.replicate (heldN 3) []) x = -1 := by
            unfold whereL
            split
            · rfl
            · first
                | rfl
                | (rw [show heldN 3 = 3 by decide]; simp [List.replicate, List.findIdx?_cons])
          go_enter Try.func7, Try.ntmps7
          go_wp2_with fail
          refine (fpop_nil n _).mono ?_
          rintro e w' ⟨rfl, rfl⟩
          go_wp2_with fail
          refine (fpush_nil n x _).mono ?_
          rintro e w' ⟨rfl, rfl⟩
          go_wp2_with fail
          refine (fremove_nil x _).mono ?_
          rintro e w' ⟨rfl, rfl⟩
          go_wp2_with fail
          refine (fwhere_nil x _).mono ?_
          rintro e w' ⟨rfl, rfl⟩
          go_wp2_with fail
          refine (fall_nil n _).mono ?_
          rintro e w' ⟨rfl, rfl⟩
          go_wp2_with fail
          refine (flen_nil n _).mono ?_
          rintro e w' ⟨rfl, rfl⟩
          go_wp2_with fail
          refine (new_calls 3 3 _).mono ?_
          rintro e w1 ⟨g, bq, bn, rfl, h1, hg, hq, hn, hb1⟩
          have s1 := hb1.size
          have hlt := h1.lt
          go_wp2_with fail
          refine (awake7_calls _).mono ?_
          rintro e w2 ⟨rfl, hb2⟩
          have h2 : IsF w2 g bq bn (List.replicate (heldN 3) []) (heldN 3) := h1.frame (fun k hk => hb2.block k (by omega))
          have s2 := hb2.size
          have p1 := push_calls h2 n x
          rw [hpush] at p1
          go_wp2_with fail
          refine p1.mono ?_
          rintro e w3 ⟨rfl, h3, x3⟩
          have hb3 := ext_below (hb1.trans (hb2.mono s1)) x3 hq hn (by omega)
          have p2 := where_calls h3 x
          rw [hwh] at p2
          go_wp2_with fail
          refine p2.mono ?_
          rintro e w4 ⟨rfl, rfl⟩
          go_wp2_with fail
          go_ret
          exact ⟨by first | rfl | (simp; done) | (simp; omega), hb3⟩
        · have he := none_each ⟨n.toNat, by omega⟩ ⟨x.toNat, by omega⟩
          simp only at he
          rw [show ((n.toNat : Nat) : Int) = n by omega, show ((x.toNat : Nat) : Int) = x by omega] at he
          obtain ⟨L2, hL2⟩ : ∃ L2, L2 = (pushL (List.replicate (heldN 3) []) (heldN 3) n x).2 := ⟨_, rfl⟩
          have hpush : pushL (List.replicate (heldN 3) []) (heldN 3) n x = (true, L2) := by rw [hL2, ← he.1]
          have hwh : whereL L2 x = n := by rw [hL2]; exact he.2
          have hne : (n == -1) = false := by simpa using (show ¬ n = -1 by omega)
          clear he hL2
          go_enter Try.func7, Try.ntmps7
          go_wp2_with fail
          refine (fpop_nil n _).mono ?_
          rintro e w' ⟨rfl, rfl⟩
          go_wp2_with fail
          refine (fpush_nil n x _).mono ?_
          rintro e w' ⟨rfl, rfl⟩
          go_wp2_with fail
          refine (fremove_nil x _).mono ?_
          rintro e w' ⟨rfl, rfl⟩
          go_wp2_with fail
          refine (fwhere_nil x _).mono ?_
          rintro e w' ⟨rfl, rfl⟩
          go_wp2_with fail
          refine (fall_nil n _).mono ?_
          rintro e w' ⟨rfl, rfl⟩
          go_wp2_with fail
          refine (flen_nil n _).mono ?_
          rintro e w' ⟨rfl, rfl⟩
          go_wp2_with fail
          refine (new_calls 3 3 _).mono ?_
          rintro e w1 ⟨g, bq, bn, rfl, h1, hg, hq, hn, hb1⟩
          have s1 := hb1.size
          have hlt := h1.lt
          go_wp2_with fail
          refine (awake7_calls _).mono ?_
          rintro e w2 ⟨rfl, hb2⟩
          have h2 : IsF w2 g bq bn (List.replicate (heldN 3) []) (heldN 3) := h1.frame (fun k hk => hb2.block k (by omega))
          have s2 := hb2.size
          have p1 := push_calls h2 n x
          rw [hpush] at p1
          go_wp2_with fail
          refine p1.mono ?_
          rintro e w3 ⟨rfl, h3, x3⟩
          have hb3 := ext_below (hb1.trans (hb2.mono s1)) x3 hq hn (by omega)
          have p2 := where_calls h3 x
          rw [hwh] at p2
          go_wp2_with fail
          refine p2.mono ?_
          rintro e w4 ⟨rfl, rfl⟩
          go_wp2_with fail
          go_ret
          exact ⟨by first | rfl | (simp; done) | (simp; omega), hb3⟩
end Go.Proofs.Ytkiogbenbicghaa
