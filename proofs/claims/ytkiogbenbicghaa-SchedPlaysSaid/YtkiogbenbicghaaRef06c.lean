/- What the document's arena does on Take and Free. Condition of each: it lies in memory (IsRf). -/
import Derived.Test.YtkiogbenbicghaaRef06b
namespace Go.Proofs.Ytkiogbenbicghaa
open Go.RowKit

def Rf.give (R : Rf) (x : Int) : Int × Bool × Rf :=
  (1 + x + 16 * R.gens.getD x.toNat 0, true, { R with now := R.now.set x.toNat (1 + x + 16 * R.gens.getD x.toNat 0) })
def Rf.take (R : Rf) : Int × Bool × Rf :=
  if R.back = [] then (if R.fresh < R.gens.length then Rf.give { R with fresh := R.fresh + 1 } R.fresh else (0, false, R))
  else Rf.give { R with back := R.back.dropLast } (R.back.getLast?.getD 0)
def Rf.free (R : Rf) (h : Int) : Bool × Rf :=
  let x := findFrom R.now h 0
  if x < 0 then (false, R) else
    (true, { R with now := R.now.set x.toNat 0, gens := R.gens.set x.toNat (R.gens.getD x.toNat 0 + 1), back := if R.gens.getD x.toNat 0 + 1 ≤ 255 then R.back ++ [x] else R.back })
/-- What a method leaves: the object anew, in its own blocks and new memory. -/
def After (w : World) (g : Nat) (R : Rf) (vs : List Value) (w' : World) (R' : Rf) : Prop :=
  ∃ vs', IsRf w' g R' vs' ∧ (∀ k, foot g (rfFields R') vs' k → foot g (rfFields R) vs k ∨ w.heap.size ≤ k) ∧ Ext w w' (foot g (rfFields R) vs)

set_option maxHeartbeats 8000000 in
set_option maxRecDepth 100000 in
theorem rtake_calls {w : World} {g : Nat} {R : Rf} {vs : List Value} (hR : IsRf w g R vs) :
    Calls Try.prog 61 #[.pointer (some ⟨g, 0, none⟩)] w fun e w' => e = .returned (.tuple #[.int .i64 R.take.1, .bool R.take.2.1]) ∧ After w g R vs w' R.take.2.2 := by
  have hR0 := hR
  obtain ⟨a, c, a', c', a'', c'', rfl, hc1, hc2, hc3, hc4⟩ := hR.open
  obtain ⟨ok, ho⟩ := hR
  have d0 := ho.cell 0 _ rfl
  have d1 := ho.cell 1 _ rfl
  have d2 := ho.cell 2 _ rfl
  have d3 := ho.cell 3 _ rfl
  have z2 := ho.free 2
  have z3 := ho.free 3
  have hr2 := ho.row 2 _ rfl rfl
  have hsz := ok.size
  have hbs := ok.backs
  have hf0 := ok.fresh0
  have hf1 := ok.fresh1
  obtain ⟨i0, hi, hz0, hz1, hz2⟩ := info_parts Try.info_int
  have HI := Lib.hid hi
  have HR0 := Lib.hid hR0
  have HO := Lib.hid ho
  have HOK := Lib.hid ok
  have HR2 := Lib.hid hr2
  clear hi hR0 ho ok hr2
  obtain ⟨nb, hnb⟩ : ∃ n, n = R.back.length := ⟨_, rfl⟩
  obtain ⟨ng, hng⟩ : ∃ n, n = R.gens.length := ⟨_, rfl⟩
  obtain ⟨nn, hnn⟩ : ∃ n, n = R.now.length := ⟨_, rfl⟩
  obtain ⟨fr, hfr⟩ : ∃ n, n = R.fresh := ⟨_, rfl⟩
  rw [← hng] at d0 hsz hf1 hc1
  rw [← hnn] at d1 hc2
  rw [← hnb] at d2 hbs hc3
  rw [← hfr] at d3 hf0 hf1
  have HNB := Lib.hid hnb
  have HNG := Lib.hid hng
  have HNN := Lib.hid hnn
  have HFR := Lib.hid hfr
  clear hnb hng hnn hfr
  go_enter Try.func61, Try.ntmps61
  go_upto_if 10 with (fail)
  go_cut [4] (fun s wc => ∃ (x : Int) (R1 : Rf), s = .int .i64 x ∧ After w g R [.slice a R.gens.length c, .slice a' R.now.length c', .slice a'' R.back.length c'', .int .i64 R.fresh] wc R1 ∧ ((x = -1 ∧ R.take = (0, false, R1)) ∨ (0 ≤ x ∧ x < R1.gens.length ∧ R.take = Rf.give R1 x)))
  case first => as_aux_lemma =>
    by_cases hb0 : 0 < nb
    · obtain ⟨m, rfl⟩ : ∃ m, nb = m + 1 := ⟨nb - 1, by omega⟩
      obtain ⟨b2, rfl⟩ : ∃ b, a'' = some ⟨b, 0, none⟩ := by
        obtain ⟨a1, c1, he, _, _, h3⟩ := owns_shape HR2.out
        injection he with he _ _
        rw [he]
        exact h3 (by rw [← HNB.out]; omega)
      have hlen : m < R.back.length := by rw [← HNB.out]; omega
      obtain ⟨x, hx⟩ : ∃ x, R.back[m]? = some x := ⟨_, List.getElem?_eq_getElem hlen⟩
      have hx0 := HOK.out.back0 x (List.mem_of_getElem? hx)
      have hx1 := HOK.out.back1 x (List.mem_of_getElem? hx)
      have e2 : w.cell? ⟨b2, m, none⟩ = some (.int .i64 x) := owns_int HR2.out hx
      have hne : R.back ≠ [] := fun h => by rw [h] at hlen; simp at hlen
      have HLAST := Lib.hid (show R.back.getLast?.getD 0 = x by rw [List.getLast?_eq_getElem?, ← HNB.out, Nat.add_sub_cancel, hx]; rfl)
      have hbl := (HR2.out.lt b2 rfl).2
      have HB := Lib.hid (show w.heap[g]? = some (.cells #[.slice a ng c, .slice a' nn c', .slice (some ⟨b2, 0, none⟩) (m + 1) c'', .int .i64 fr] 84 (0, 0)) by
        have := HO.out.blk; rw [← HNG.out, ← HNN.out, ← HNB.out, ← HFR.out] at this; exact this)
      have HNEWS := Lib.hid (show ∀ (j : Nat) (u : Value), (ints (R.back.take m))[j]? = some u → (w.alloc (.cells #[] 3)).cell? ((⟨b2, 0, none⟩ : Addr).add j) = some u by
        intro j u hj
        have e := add_head b2 j
        have hj' := hj
        simp only [ints, List.getElem?_map, List.getElem?_take, Option.map_eq_some_iff] at hj'
        obtain ⟨y, hy, rfl⟩ := hj'
        split at hy
        · rw [e, World.cell?_of_block (Below.heap_alloc _ _ _ hbl)]
          exact owns_int HR2.out hy
        · cases hy)
      clear hx hlen
      have hmc : m ≤ c'' := by omega
      have hwm : IntKind.i64.wrap (m : Int) = (m : Int) := IntWalk.i64_in _ (by omega)
      go_wp2_with fail
      go_quiet (fail)
      go_wp2_with fail
      refine wp_region_W 17 16 (fun w' : World => w'.heap[g]? = some (.cells #[.slice a ng c, .slice a' nn c', .slice (some ⟨b2, 0, none⟩) (m + 1) c'', .int .i64 fr] 84 (0, 0))) (by kernel_rfl) (by kernel_rfl) HB.out (fun hT => ?_)
      refine wpAnyW_take (i := 0) (some 23) rfl rfl (by kernel_rfl) (by kernel_rfl) (by kernel_rfl) (by kernel_rfl) (fun _ _ _ h => h) (v := ?_) (.inl ⟨by rfl, ?_⟩) (.inr hT) ?_
      rotate_left
      · (intro wT _; go_simp <;> with_reducible rfl)
      simp only [Act.put, List.setIfInBounds_toArray, List.set_cons_zero, List.set_cons_succ]
      refine wpAnyW_take (i := 2) (some 25) rfl rfl (by kernel_rfl) (by kernel_rfl) (by kernel_rfl) (by kernel_rfl) (fun _ _ _ h => h) (v := ?_) (.inl ⟨by rfl, ?_⟩) (.inr hT) ?_
      rotate_left
      · (intro wT _; go_simp <;> with_reducible rfl)
      simp only [Act.put, List.setIfInBounds_toArray, List.set_cons_zero, List.set_cons_succ]
      refine wpAnyW_take (i := 3) (some 26) rfl rfl (by kernel_rfl) (by kernel_rfl) (by kernel_rfl) (by kernel_rfl) (fun _ _ _ h => h) (v := ?_) (.inl ⟨by rfl, ?_⟩) (.inr hT) ?_
      rotate_left
      · (intro wT _; go_simp <;> with_reducible rfl)
      simp only [Act.put, List.setIfInBounds_toArray, List.set_cons_zero, List.set_cons_succ]
      refine wpAnyW_take (i := 4) (some 27) rfl rfl (by kernel_rfl) (by kernel_rfl) (by kernel_rfl) (by kernel_rfl) (fun _ _ _ h => h) (v := ?_) (.inl ⟨by rfl, ?_⟩) (.inr hT) ?_
      rotate_left
      · (intro wT _; go_simp <;> with_reducible rfl)
      simp only [Act.put, List.setIfInBounds_toArray, List.set_cons_zero, List.set_cons_succ]
      refine wpAnyW_load (i := 5) (some 28) rfl rfl (by kernel_rfl) (by kernel_rfl) (by kernel_rfl) (by kernel_rfl) (by kernel_rfl) (fun _ _ _ h => h) (v := ?_) (.inl ⟨by rfl, ?_⟩) hT ?_
      rotate_left
      · (intro wT hT; try dsimp only at hT); (have t2 : wT.cell? ⟨g, 2, none⟩ = some (.slice (some ⟨b2, 0, none⟩) (m + 1) c'') := blk_cell hT 2); clear hT; (go_simp <;> with_reducible rfl)
      simp only [Act.put, List.setIfInBounds_toArray, List.set_cons_zero, List.set_cons_succ]
      refine wpAnyW_take (i := 6) (some 29) rfl rfl (by kernel_rfl) (by kernel_rfl) (by kernel_rfl) (by kernel_rfl) (fun _ _ _ h => h) (v := ?_) (.inl ⟨by rfl, ?_⟩) (.inr hT) ?_
      rotate_left
      · (intro wT _; go_simp <;> with_reducible rfl)
      simp only [Act.put, List.setIfInBounds_toArray, List.set_cons_zero, List.set_cons_succ]
      refine wpAnyW_take (i := 7) (some 30) rfl rfl (by kernel_rfl) (by kernel_rfl) (by kernel_rfl) (by kernel_rfl) (fun _ _ _ h => h) (v := ?_) (.inl ⟨by rfl, ?_⟩) (.inr hT) ?_
      rotate_left
      · (intro wT _; go_simp <;> with_reducible rfl)
      simp only [Act.put, List.setIfInBounds_toArray, List.set_cons_zero, List.set_cons_succ]
      refine wpAnyW_take (i := 8) (some 31) rfl rfl (by kernel_rfl) (by kernel_rfl) (by kernel_rfl) (by kernel_rfl) (fun _ _ _ h => h) (v := ?_) (.inl ⟨by rfl, ?_⟩) (.inr hT) ?_
      rotate_left
      · (intro wT _; go_simp <;> with_reducible rfl)
      simp only [Act.put, List.setIfInBounds_toArray, List.set_cons_zero, List.set_cons_succ]
      refine wpAnyW_load (i := 9) (some 32) rfl rfl (by kernel_rfl) (by kernel_rfl) (by kernel_rfl) (by kernel_rfl) (by kernel_rfl) (fun _ _ _ h => h) (v := ?_) (.inl ⟨by rfl, ?_⟩) hT ?_
      rotate_left
      · (intro wT hT; try dsimp only at hT); (have t2 : wT.cell? ⟨g, 2, none⟩ = some (.slice (some ⟨b2, 0, none⟩) (m + 1) c'') := blk_cell hT 2); clear hT; (go_simp <;> with_reducible rfl)
      simp only [Act.put, List.setIfInBounds_toArray, List.set_cons_zero, List.set_cons_succ]
      refine wpAnyW_take (i := 10) (some 33) rfl rfl (by kernel_rfl) (by kernel_rfl) (by kernel_rfl) (by kernel_rfl) (fun _ _ _ h => h) (v := ?_) (.inl ⟨by rfl, ?_⟩) (.inr hT) ?_
      rotate_left
      · (intro wT _; go_simp <;> with_reducible rfl)
      simp only [Act.put, List.setIfInBounds_toArray, List.set_cons_zero, List.set_cons_succ]
      refine wpAnyW_take (i := 11) (some 34) rfl rfl (by kernel_rfl) (by kernel_rfl) (by kernel_rfl) (by kernel_rfl) (fun _ _ _ h => h) (v := ?_) (.inl ⟨by rfl, ?_⟩) (.inr hT) ?_
      rotate_left
      · (intro wT _; go_simp <;> with_reducible rfl)
      simp only [Act.put, List.setIfInBounds_toArray, List.set_cons_zero, List.set_cons_succ]
      refine wpAnyW_take (i := 12) (some 35) rfl rfl (by kernel_rfl) (by kernel_rfl) (by kernel_rfl) (by kernel_rfl) (fun _ _ _ h => h) (v := ?_) (.inl ⟨by rfl, ?_⟩) (.inr hT) ?_
      rotate_left
      · (intro wT _; go_simp <;> with_reducible rfl)
      simp only [Act.put, List.setIfInBounds_toArray, List.set_cons_zero, List.set_cons_succ]
      refine wpAnyW_one (i := 1) (by kernel_rfl) rfl (fun K hK => ?_)
      go_simp
      refine step_owe hK ?_ (fun hT => ?_)
      · first | exact hb1 | exact (Below.heap_alloc _ _ _ (lt_of_block hT)).trans hT
      clear hK K
      refine wpAnyW_one (i := 13) (by kernel_rfl) rfl (fun K hK => ?_)
      refine step_append_at (by rfl) (.tmp 24) (.tmp 35) 37 (by rfl) 0 3 i0 (.int .i64 0) 1 8 Try.underlying37 HI.out hz0 hz1 hz2 rfl (by omega) (.slice (some ⟨w.heap.size, 0, none⟩) 0 0) 0 [] (by rfl) (World.ownsRow_made w #[] 0 (Nat.zero_le _) (by unfold maxLen; omega) rfl) ⟨b2, 0, none⟩ m c'' (ints (R.back.take m)) (by rfl) (by rw [ints_len, List.length_take, ← HNB.out]; omega) HNEWS.out (ints_one _) (by unfold maxLen; omega) (by omega) (Nat.zero_le _) ?_
      intro v' w1 own1 grow1 at1
      simp only [Nat.zero_add, List.nil_append] at own1
      obtain ⟨x1, l1⟩ := grow_step_at (plus_one_N w _ _) grow1 at1
      have hb1 : w1.heap[g]? = some (.cells #[.slice a ng c, .slice a' nn c', .slice (some ⟨b2, 0, none⟩) (m + 1) c'', .int .i64 fr] 84 (0, 0)) := (x1.block g (lt_of_block HB.out) (fun e => by simp [Value.ownBlock] at e; have := lt_of_block HB.out; omega)).trans HB.out
      obtain ⟨av, cv, rfl, _, _, _⟩ := owns_shape own1
      have y2 := blk_free hb1 2
      have m2 : w1.cell? ⟨g, 2, none⟩ = some (.slice (some ⟨b2, 0, none⟩) (m + 1) c'') := blk_cell hb1 2
      refine step_owe hK ?_ (fun hT => ?_)
      · first | exact hb1 | exact (Below.heap_alloc _ _ _ (lt_of_block hT)).trans hT
      clear hK K
      refine wpAnyW_take (i := 14) (some 37) rfl rfl (by kernel_rfl) (by kernel_rfl) (by kernel_rfl) (by kernel_rfl) (fun _ _ _ h => h) (v := ?_) (.inl ⟨by rfl, ?_⟩) (.inr hT) ?_
      rotate_left
      · (intro wT _; go_simp <;> with_reducible rfl)
      simp only [Act.put, List.setIfInBounds_toArray, List.set_cons_zero, List.set_cons_succ]
      refine wpAnyW_take (i := 15) (some 38) rfl rfl (by kernel_rfl) (by kernel_rfl) (by kernel_rfl) (by kernel_rfl) (fun _ _ _ h => h) (v := ?_) (.inl ⟨by rfl, ?_⟩) (.inr hT) ?_
      rotate_left
      · (intro wT _; go_simp <;> with_reducible rfl)
      simp only [Act.put, List.setIfInBounds_toArray, List.set_cons_zero, List.set_cons_succ]
      refine wpAnyW_one (i := 16) (by kernel_rfl) rfl (fun K hK => ?_)
      go_simp
      refine step_paid hK (by kernel_rfl) ?_
      clear hK K
      refine wpAnyW_done (by kernel_rfl) ?_
      go_wp2_with fail
      go_meet
      refine ⟨x, { R with back := R.back.dropLast }, rfl, ?_, ?_⟩
      · refine ⟨[.slice a R.gens.length c, .slice a' R.now.length c', .slice av m cv, .int .i64 R.fresh], ⟨⟨HOK.out.size, HOK.out.same, HOK.out.gen0, HOK.out.gen1, by simp; have := HOK.out.backs; omega, fun y hy => HOK.out.back0 y (List.dropLast_subset _ hy), fun y hy => HOK.out.back1 y (List.dropLast_subset _ hy), HOK.out.fresh0, HOK.out.fresh1⟩, ?_⟩, ?_, ?_⟩
        · have hX := HO.out.setRow (w1 := w1) 2 rfl rfl (fun k hk _ => x1.block k (HO.out.lt k hk) (fun e => by simp [Value.ownBlock] at e; have := HO.out.lt k hk; omega)) (HO.out.fld 2 _ _ rfl rfl).2 (fun u k hu => by cases hu) own1 (fun k hk => .inr (by rcases l1 k hk with h9 | h9 <;> first | exact h9 | exact Nat.le_of_eq (by simpa [Value.ownBlock] using h9)))
          have hf : (rfFields R).set 2 (.row 3 1 m (ints (R.back.take m))) = rfFields { R with back := R.back.dropLast } := by
            simp [rfFields, List.dropLast_eq_take, ← HNB.out]
          rw [hf] at hX
          exact hX
        · have hft := foot_setRow (g := g) (fs := rfFields R) (vs := [.slice a R.gens.length c, .slice a' R.now.length c', .slice (some ⟨b2, 0, none⟩) R.back.length c'', .int .i64 R.fresh]) (i := 2) (v1 := .slice av m cv) (f := .row 3 1 m (ints (R.back.take m))) (B := w.heap.size) rfl rfl (fun k hk => .inr (by rcases l1 k hk with h9 | h9 <;> first | exact h9 | exact Nat.le_of_eq (by simpa [Value.ownBlock] using h9))) (fun u k hu => by cases hu)
          have hf : (rfFields R).set 2 (.row 3 1 m (ints (R.back.take m))) = rfFields { R with back := R.back.dropLast } := by
            simp [rfFields, List.dropLast_eq_take, ← HNB.out]
          rw [hf] at hft
          exact hft
        · exact (x1.mono (fun i hi h9 => absurd (show w.heap.size = i by simpa [Value.ownBlock] using h9) (by omega))).setCell (fun _ => .inl rfl) _
      · exact .inr ⟨hx0, hx1, by rw [Rf.take, if_neg hne, HLAST.out]⟩
    · have hbe : R.back = [] := List.eq_nil_of_length_eq_zero (by rw [← HNB.out]; omega)
      have HBE := Lib.hid hbe
      have hnb0 : nb = 0 := by omega
      subst hnb0
      clear hbe
      by_cases hfl : fr < (ng : Int)
      · have hfl' := Lib.hid (show R.fresh < (R.gens.length : Int) by rw [← HFR.out, ← HNG.out]; exact hfl)
        go_wp2_with fail
        go_quiet (fail)
        go_wp2_with fail
        go_meet
        refine ⟨fr, { R with fresh := R.fresh + 1 }, rfl, ?_, .inr ⟨by rw [HFR.out] at hf0; rw [HFR.out]; exact hf0, by rw [HFR.out, HNG.out] at hfl; rw [HFR.out]; exact hfl, by rw [Rf.take, if_pos HBE.out, if_pos (by rw [HFR.out, HNG.out] at hfl; exact hfl), HFR.out]⟩⟩
        have hok := HOK.out
        have e1 := HFR.out
        have e2 := HNG.out
        have e3 := hfl'.out
        refine ⟨[.slice a R.gens.length c, .slice a' R.now.length c', .slice a'' R.back.length c'', .int .i64 (fr + 1)], ⟨⟨hok.size, hok.same, hok.gen0, hok.gen1, hok.backs, hok.back0, hok.back1, (by show 0 ≤ R.fresh + 1; omega), (by show R.fresh + 1 ≤ (R.gens.length : Int); omega)⟩, ?_⟩, ?_, ?_⟩
        · have hX := (HO.out.drewN nq).setVal 3 (.int .i64 (fr + 1)) (.int .i64 R.fresh) rfl
          have hf : (rfFields R).set 3 (.val (.int .i64 (fr + 1))) = rfFields { R with fresh := R.fresh + 1 } := by rw [HFR.out]; rfl
          rw [hf] at hX
          exact hX
        · intro k hk
          have hX := foot_setVal (g := g) (fs := rfFields R) (vs := [.slice a R.gens.length c, .slice a' R.now.length c', .slice a'' R.back.length c'', .int .i64 R.fresh]) (i := 3) (u := .int .i64 (fr + 1)) k
          have hf : (rfFields R).set 3 (.val (.int .i64 (fr + 1))) = rfFields { R with fresh := R.fresh + 1 } := by rw [HFR.out]; rfl
          rw [hf] at hX
          exact .inl (hX hk)
        · exact ((Ext.refl w _).drewN _).setCell (fun _ => .inl rfl) _
      · have hfl' := Lib.hid (show ¬ R.fresh < (R.gens.length : Int) by rw [← HFR.out, ← HNG.out]; exact hfl)
        go_wp2_with fail
        go_quiet (fail)
        go_wp2_with fail
        go_meet
        refine ⟨-1, R, rfl, ⟨_, ⟨HOK.out, (HO.out.drewN _)⟩, fun k hk => .inl hk, (Ext.refl w _).drewN _⟩, .inl ⟨rfl, ?_⟩⟩
        rw [Rf.take, if_pos HBE.out, if_neg (by have := hfl'.out; omega)]
  case rest => as_aux_lemma =>
    obtain ⟨x, R1, rfl, ⟨vs1, hR1, hft1, hx1⟩, hc⟩ := hcut
    clear d0 d1 d2 d3 z2 z3 hc1 hc2 hc3 hc4 hf0 hf1 hsz hbs
    rcases hc with ⟨rfl, hc⟩ | ⟨h0, h1, hc⟩
    · have HC := Lib.hid hc
      clear hc
      go_wp2
      go_ret2
      rw [HC.out]
      exact ⟨rfl, _, hR1, hft1, hx1⟩
    · have HC := Lib.hid hc
      clear hc
      obtain ⟨x, rfl⟩ := Int.eq_ofNat_of_zero_le h0
      obtain ⟨a0, q0, a1, q1, a2, q2, rfl, p0, p1, p2, p3⟩ := hR1.open
      obtain ⟨ok1, ho1⟩ := hR1
      have hxl : x < R1.gens.length := by omega
      have hxl2 : x < R1.now.length := by rw [ok1.same]; exact hxl
      have hr0 := ho1.row 0 _ rfl rfl
      have hr1 := ho1.row 1 _ rfl rfl
      obtain ⟨b0, rfl⟩ : ∃ b, a0 = some ⟨b, 0, none⟩ := by
        obtain ⟨a1, c1, he, _, _, h3⟩ := owns_shape hr0
        injection he with he _ _
        rw [he]
        exact h3 (by omega)
      obtain ⟨b1, rfl⟩ : ∃ b, a1 = some ⟨b, 0, none⟩ := by
        obtain ⟨a1, c1, he, _, _, h3⟩ := owns_shape hr1
        injection he with he _ _
        rw [he]
        exact h3 (by omega)
      obtain ⟨gx, hgx⟩ : ∃ y, R1.gens[x]? = some y := ⟨_, List.getElem?_eq_getElem hxl⟩
      obtain ⟨nx, hnx⟩ : ∃ y, R1.now[x]? = some y := ⟨_, List.getElem?_eq_getElem hxl2⟩
      have HG := Lib.hid (show R1.gens.getD x 0 = gx by rw [List.getD_eq_getElem?_getD, hgx]; rfl)
      have g0 := ok1.gen0 gx (List.mem_of_getElem? hgx)
      have g1 := ok1.gen1 gx (List.mem_of_getElem? hgx)
      have d0 := ho1.cell 0 _ rfl
      have d1 := ho1.cell 1 _ rfl
      have c0 := owns_int hr0 hgx
      have c1 := owns_int hr1 hnx
      have z1 := hr1.frozenAt x
      have hx16 : x < 16 := by have := ok1.size; omega
      have hbg : b1 ≠ g := ho1.ne 1 b1 rfl rfl
      have HO1 := Lib.hid ho1
      have HOK1 := Lib.hid ok1
      have HFT := Lib.hid hft1
      obtain ⟨n1, hn1⟩ : ∃ n, n = R1.gens.length := ⟨_, rfl⟩
      obtain ⟨n2, hn2⟩ : ∃ n, n = R1.now.length := ⟨_, rfl⟩
      rw [← hn1] at d0 hxl
      rw [← hn2] at d1 hxl2
      have HN1 := Lib.hid hn1
      have HN2 := Lib.hid hn2
      have i0 : (0 : Int) ≤ (x : Int) := Int.natCast_nonneg _
      have i1 : (x : Int) < (n1 : Int) := by omega
      have i2 : (x : Int) < (n2 : Int) := by omega
      have k1 : IntKind.i64.wrap (1 + (x : Int)) = 1 + (x : Int) := IntWalk.i64_in _ (by omega)
      have k2 : IntKind.i64.wrap (16 * gx) = 16 * gx := IntWalk.i64_in _ (by omega)
      have k3 : IntKind.i64.wrap (1 + (x : Int) + 16 * gx) = 1 + (x : Int) + 16 * gx := IntWalk.i64_in _ (by omega)
      clear hgx hnx hr0 hr1 ok1 ho1 hft1 hn1 hn2 h1 p0 p1 p2 p3 h0
      go_wp2_with fail
      refine wp_region_W 18 17 (fun w' : World => w'.cell? ⟨g, 0, none⟩ = some (.slice (some ⟨b0, 0, none⟩) n1 q0) ∧ w'.cell? ⟨g, 1, none⟩ = some (.slice (some ⟨b1, 0, none⟩) n2 q1) ∧ w'.cell? ⟨b0, x, none⟩ = some (.int .i64 gx)) (by kernel_rfl) (by kernel_rfl) ⟨d0, d1, c0⟩ (fun hT => ?_)
      refine wpAnyW_take (i := 0) (some 62) rfl rfl (by kernel_rfl) (by kernel_rfl) (by kernel_rfl) (by kernel_rfl) (fun _ _ _ h => h) (v := ?_) (.inl ⟨by rfl, ?_⟩) (.inr hT) ?_
      rotate_left
      · (intro wT _; go_simp <;> with_reducible rfl)
      simp only [Act.put, List.setIfInBounds_toArray, List.set_cons_zero, List.set_cons_succ]
      refine wpAnyW_take (i := 1) (some 63) rfl rfl (by kernel_rfl) (by kernel_rfl) (by kernel_rfl) (by kernel_rfl) (fun _ _ _ h => h) (v := ?_) (.inl ⟨by rfl, ?_⟩) (.inr hT) ?_
      rotate_left
      · (intro wT _; go_simp <;> with_reducible rfl)
      simp only [Act.put, List.setIfInBounds_toArray, List.set_cons_zero, List.set_cons_succ]
      refine wpAnyW_take (i := 2) (some 64) rfl rfl (by kernel_rfl) (by kernel_rfl) (by kernel_rfl) (by kernel_rfl) (fun _ _ _ h => h) (v := ?_) (.inl ⟨by rfl, ?_⟩) (.inr hT) ?_
      rotate_left
      · (intro wT _; go_simp <;> with_reducible rfl)
      simp only [Act.put, List.setIfInBounds_toArray, List.set_cons_zero, List.set_cons_succ]
      refine wpAnyW_load (i := 3) (some 65) rfl rfl (by kernel_rfl) (by kernel_rfl) (by kernel_rfl) (by kernel_rfl) (by kernel_rfl) (fun _ _ _ h => h) (v := ?_) (.inl ⟨by rfl, ?_⟩) hT ?_
      rotate_left
      · (intro wT hT; try dsimp only at hT); obtain ⟨t0, t1, t3⟩ := hT; (go_simp <;> with_reducible rfl)
      simp only [Act.put, List.setIfInBounds_toArray, List.set_cons_zero, List.set_cons_succ]
      refine wpAnyW_take (i := 4) (some 66) rfl rfl (by kernel_rfl) (by kernel_rfl) (by kernel_rfl) (by kernel_rfl) (fun _ _ _ h => h) (v := ?_) (.inl ⟨by rfl, ?_⟩) (.inr hT) ?_
      rotate_left
      · (intro wT _; go_simp <;> with_reducible rfl)
      simp only [Act.put, List.setIfInBounds_toArray, List.set_cons_zero, List.set_cons_succ]
      refine wpAnyW_take (i := 5) (some 67) rfl rfl (by kernel_rfl) (by kernel_rfl) (by kernel_rfl) (by kernel_rfl) (fun _ _ _ h => h) (v := ?_) (.inl ⟨by rfl, ?_⟩) (.inr hT) ?_
      rotate_left
      · (intro wT _; go_simp <;> with_reducible rfl)
      simp only [Act.put, List.setIfInBounds_toArray, List.set_cons_zero, List.set_cons_succ]
      refine wpAnyW_take (i := 6) (some 68) rfl rfl (by kernel_rfl) (by kernel_rfl) (by kernel_rfl) (by kernel_rfl) (fun _ _ _ h => h) (v := ?_) (.inl ⟨by rfl, ?_⟩) (.inr hT) ?_
      rotate_left
      · (intro wT _; go_simp <;> with_reducible rfl)
      simp only [Act.put, List.setIfInBounds_toArray, List.set_cons_zero, List.set_cons_succ]
      refine wpAnyW_take (i := 7) (some 69) rfl rfl (by kernel_rfl) (by kernel_rfl) (by kernel_rfl) (by kernel_rfl) (fun _ _ _ h => h) (v := ?_) (.inl ⟨by rfl, ?_⟩) (.inr hT) ?_
      rotate_left
      · (intro wT _; go_simp <;> with_reducible rfl)
      simp only [Act.put, List.setIfInBounds_toArray, List.set_cons_zero, List.set_cons_succ]
      refine wpAnyW_take (i := 8) (some 70) rfl rfl (by kernel_rfl) (by kernel_rfl) (by kernel_rfl) (by kernel_rfl) (fun _ _ _ h => h) (v := ?_) (.inl ⟨by rfl, ?_⟩) (.inr hT) ?_
      rotate_left
      · (intro wT _; go_simp <;> with_reducible rfl)
      simp only [Act.put, List.setIfInBounds_toArray, List.set_cons_zero, List.set_cons_succ]
      refine wpAnyW_take (i := 9) (some 71) rfl rfl (by kernel_rfl) (by kernel_rfl) (by kernel_rfl) (by kernel_rfl) (fun _ _ _ h => h) (v := ?_) (.inl ⟨by rfl, ?_⟩) (.inr hT) ?_
      rotate_left
      · (intro wT _; go_simp <;> with_reducible rfl)
      simp only [Act.put, List.setIfInBounds_toArray, List.set_cons_zero, List.set_cons_succ]
      refine wpAnyW_load (i := 10) (some 72) rfl rfl (by kernel_rfl) (by kernel_rfl) (by kernel_rfl) (by kernel_rfl) (by kernel_rfl) (fun _ _ _ h => h) (v := ?_) (.inl ⟨by rfl, ?_⟩) hT ?_
      rotate_left
      · (intro wT hT; try dsimp only at hT); obtain ⟨t0, t1, t3⟩ := hT; (go_simp <;> with_reducible rfl)
      simp only [Act.put, List.setIfInBounds_toArray, List.set_cons_zero, List.set_cons_succ]
      refine wpAnyW_take (i := 11) (some 73) rfl rfl (by kernel_rfl) (by kernel_rfl) (by kernel_rfl) (by kernel_rfl) (fun _ _ _ h => h) (v := ?_) (.inl ⟨by rfl, ?_⟩) (.inr hT) ?_
      rotate_left
      · (intro wT _; go_simp <;> with_reducible rfl)
      simp only [Act.put, List.setIfInBounds_toArray, List.set_cons_zero, List.set_cons_succ]
      refine wpAnyW_take (i := 12) (some 74) rfl rfl (by kernel_rfl) (by kernel_rfl) (by kernel_rfl) (by kernel_rfl) (fun _ _ _ h => h) (v := ?_) (.inl ⟨by rfl, ?_⟩) (.inr hT) ?_
      rotate_left
      · (intro wT _; go_simp <;> with_reducible rfl)
      simp only [Act.put, List.setIfInBounds_toArray, List.set_cons_zero, List.set_cons_succ]
      refine wpAnyW_load (i := 13) (some 75) rfl rfl (by kernel_rfl) (by kernel_rfl) (by kernel_rfl) (by kernel_rfl) (by kernel_rfl) (fun _ _ _ h => h) (v := ?_) (.inl ⟨by rfl, ?_⟩) hT ?_
      rotate_left
      · (intro wT hT; try dsimp only at hT); obtain ⟨t0, t1, t3⟩ := hT; (go_simp <;> with_reducible rfl)
      simp only [Act.put, List.setIfInBounds_toArray, List.set_cons_zero, List.set_cons_succ]
      refine wpAnyW_take (i := 14) (some 76) rfl rfl (by kernel_rfl) (by kernel_rfl) (by kernel_rfl) (by kernel_rfl) (fun _ _ _ h => h) (v := ?_) (.inl ⟨by rfl, ?_⟩) (.inr hT) ?_
      rotate_left
      · (intro wT _; go_simp <;> with_reducible rfl)
      simp only [Act.put, List.setIfInBounds_toArray, List.set_cons_zero, List.set_cons_succ]
      refine wpAnyW_take (i := 15) (some 77) rfl rfl (by kernel_rfl) (by kernel_rfl) (by kernel_rfl) (by kernel_rfl) (fun _ _ _ h => h) (v := ?_) (.inl ⟨by rfl, ?_⟩) (.inr hT) ?_
      rotate_left
      · (intro wT _; go_simp <;> with_reducible rfl)
      simp only [Act.put, List.setIfInBounds_toArray, List.set_cons_zero, List.set_cons_succ]
      refine wpAnyW_take (i := 16) (some 78) rfl rfl (by kernel_rfl) (by kernel_rfl) (by kernel_rfl) (by kernel_rfl) (fun _ _ _ h => h) (v := ?_) (.inl ⟨by rfl, ?_⟩) (.inr hT) ?_
      rotate_left
      · (intro wT _; go_simp <;> with_reducible rfl)
      simp only [Act.put, List.setIfInBounds_toArray, List.set_cons_zero, List.set_cons_succ]
      refine wpAnyW_one (i := 17) (by kernel_rfl) rfl (fun K hK => ?_)
      go_simp
      refine step_paid hK (by kernel_rfl) ?_
      clear hK K
      refine wpAnyW_done (by kernel_rfl) ?_
      go_wp2
      go_ret2
      rw [HC.out]
      have hf : (rfFields R1).set 1 (.row 3 1 R1.now.length ((ints R1.now).set x (.int .i64 (1 + (x : Int) + 16 * gx)))) = rfFields (Rf.give R1 x).2.2 := by
        simp only [Rf.give, Int.toNat_natCast, HG.out]
        simp [rfFields, ints_set]
      have hX := HO1.out.drew.setElem 1 x (.int .i64 (1 + (x : Int) + 16 * gx)) rfl rfl
      rw [hf] at hX
      refine ⟨by simp only [Rf.give, Int.toNat_natCast, HG.out]; rfl, _, ⟨?_, hX⟩, fun k hk => ?_, ?_⟩
      · have hok := HOK1.out
        exact ⟨hok.size, by simp only [Rf.give, List.length_set]; exact hok.same, hok.gen0, hok.gen1, hok.backs, hok.back0, hok.back1, hok.fresh0, hok.fresh1⟩
      · rw [← hf] at hk
        exact HFT.out k ((foot_setElem rfl k).1 hk)
      · refine (hx1.drew).setCell (fun hl => ?_) _
        rcases HFT.out b1 (.inr ⟨1, _, _, _, _, _, rfl, rfl, rfl⟩) with h9 | h9
        · exact h9
        · exact absurd hl (by simp; omega)

end Go.Proofs.Ytkiogbenbicghaa
