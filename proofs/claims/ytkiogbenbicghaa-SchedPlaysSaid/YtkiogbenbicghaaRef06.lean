/- What the document's arena (parcloseref06) is in memory, and what each of its methods does. Condition of each: it lies in memory (IsRf), which carries its own bounds. -/
import Derived.Test.YtkiogbenbicghaaObj
import Derived.Test.YtkiogbenbicghaaOrd
import Derived.Deep.RegionHeld3
import Derived.Deep.DeepCutAuto
import Derived.Deep.CutBlock
import Derived.Deep.LoopGhost
namespace Go.Proofs.Ytkiogbenbicghaa
open Go.RowKit

structure Rf where
  gens : List Int
  now : List Int
  back : List Int
  fresh : Int
structure Rf.Ok (R : Rf) : Prop where
  size : R.gens.length ≤ 16
  same : R.now.length = R.gens.length
  gen0 : ∀ x ∈ R.gens, 0 ≤ x
  gen1 : ∀ x ∈ R.gens, x ≤ 256
  backs : R.back.length ≤ 16
  back0 : ∀ x ∈ R.back, 0 ≤ x
  back1 : ∀ x ∈ R.back, x < R.gens.length
  fresh0 : 0 ≤ R.fresh
  fresh1 : R.fresh ≤ R.gens.length
def rfFields (R : Rf) : List Fld := [.row 3 1 R.gens.length (ints R.gens), .row 3 1 R.now.length (ints R.now), .row 3 1 R.back.length (ints R.back), .val (.int .i64 R.fresh)]
/-- It lies at block g; vs: its fields' values. -/
def IsRf (w : World) (g : Nat) (R : Rf) (vs : List Value) : Prop := R.Ok ∧ IsObj w g 84 (rfFields R) vs
theorem IsRf.open {w : World} {g : Nat} {R : Rf} {vs : List Value} (h : IsRf w g R vs) : ∃ a c a' c' a'' c'', vs = [.slice a R.gens.length c, .slice a' R.now.length c', .slice a'' R.back.length c'', .int .i64 R.fresh] ∧
    R.gens.length ≤ c ∧ R.now.length ≤ c' ∧ R.back.length ≤ c'' ∧ c'' ≤ maxLen := by
  obtain ⟨ok, ho⟩ := h
  have hl := ho.len
  match vs, hl with
  | [v0, v1, v2, v3], _ =>
    obtain ⟨a, c, rfl, h1, _, _⟩ := owns_shape (ho.row 0 v0 rfl rfl)
    obtain ⟨a', c', rfl, h2, _, _⟩ := owns_shape (ho.row 1 v1 rfl rfl)
    obtain ⟨a'', c'', rfl, h3, h4, _⟩ := owns_shape (ho.row 2 v2 rfl rfl)
    have h3' := ho.fld 3 v3 _ rfl rfl
    simp only [FldOk] at h3'
    subst h3'
    exact ⟨a, c, a', c', a'', c'', rfl, h1, h2, h3, h4⟩
def Rf.new (n : Int) : Rf := ⟨List.replicate (min n 16).toNat 0, List.replicate (min n 16).toNat 0, [], 0⟩
def Rf.placeFrom (l : List Int) (h : Int) : Nat → Int
  | i => match l with
    | [] => -1
    | x :: r => if 0 < h ∧ x = h then (i : Int) else Rf.placeFrom r h (i + 1)
def Rf.place (R : Rf) (h : Int) : Int := Rf.placeFrom R.now h 0

set_option maxRecDepth 100000 in
set_option maxHeartbeats 4000000 in
theorem rnew_calls (n : Int) (w : World) (h0 : -9223372036854775808 ≤ n) (h1 : n ≤ 9223372036854775807) :
    Calls Try.prog 60 #[.int .i64 n] w fun e w' => ∃ g vs, e = .returned (.pointer (some ⟨g, 0, none⟩)) ∧ IsRf w' g (Rf.new n) vs ∧ (∀ k, foot g (rfFields (Rf.new n)) vs k → w.heap.size ≤ k) ∧ Below w.heap.size w w' := by
  obtain ⟨m, hm⟩ : ∃ m : Nat, m = (min n 16).toNat := ⟨_, rfl⟩
  have hm16 : m ≤ 16 := by omega
  have HR := Lib.hid (show Rf.new n = ⟨List.replicate m 0, List.replicate m 0, [], 0⟩ by rw [Rf.new, ← hm])
  obtain ⟨i0, hi, hz0, hz1, hz2⟩ := info_parts Try.info_int
  have HI := Lib.hid hi
  clear hi
  have hn : (n ≤ 16 ∧ (n = m ∨ n < 0 ∧ m ≤ 0)) ∨ (17 ≤ n ∧ 16 ≤ m) := by omega
  have HM := Lib.hid hm
  clear hm
  obtain ⟨q, hq⟩ : ∃ q : Int, q = if 16 < n then 16 else n := ⟨_, rfl⟩
  have hqm : q ≤ 16 ∧ (q = m ∨ q < 0 ∧ m ≤ 0) := by rcases hn with h | h <;> (subst hq; split <;> omega)
  have hq1 := Lib.hid hq
  go_enter Try.func60, Try.ntmps60
  go_upto_if 6 with (fail)
  go_cut [0] (fun s wc => s = .int .i64 q ∧ w = wc)
  case first =>
    by_cases h : 16 < n
    all_goals
      have hq2 := hq1.out
      first | rw [if_pos h] at hq2 | rw [if_neg h] at hq2
      clear hq
      subst hq2
      go_wp2_with fail
      go_meet
      exact ⟨rfl, rfl⟩
  case rest =>
    obtain ⟨rfl, rfl⟩ := hcut
    clear hq hn
    obtain ⟨hq16, hqc⟩ := hqm
    have hqc := Lib.hid hqc
    go_wp2_with fail
    go_loopg [4] m (fun r i wr => ∃ (k : Nat) (vs : List Value), k + r = m ∧ i = .int .i64 k ∧ IsObj wr w.heap.size 84 (rfFields ⟨List.replicate k 0, List.replicate k 0, [], 0⟩) vs ∧ (∀ j, foot w.heap.size (rfFields ⟨List.replicate k 0, List.replicate k 0, [], 0⟩) vs j → w.heap.size ≤ j) ∧ Below w.heap.size w wr)
    case atStart => exact ⟨0, [.slice none 0 0, .slice none 0 0, .slice none 0 0, .int .i64 0], by omega, by go_num, IsObj.fresh w _ _ _ rfl (by simp [rfFields, FreshOk, ints]), foot_fresh (by simp [rfFields, FreshOk, ints]), (Below.refl _ _).alloc (Nat.le_refl _) _⟩
    case round =>
      obtain ⟨k, vs, hk, rfl, ho, hft, hbel⟩ := hrel
      obtain ⟨a, c, a', c', a'', c'', rfl, hc1, hc2, hc3⟩ : ∃ a c a' c' a'' c'', vs = [.slice a k c, .slice a' k c', .slice a'' 0 c'', .int .i64 0] ∧ k ≤ c ∧ k ≤ c' ∧ c'' ≤ maxLen := by
        obtain ⟨a, c, a', c', a'', c'', h1, h2, h3, _, h4⟩ := IsRf.open (R := ⟨List.replicate k 0, List.replicate k 0, [], 0⟩) ⟨⟨by simp; omega, by simp, by simp, by simp, by simp, by simp, by simp, by simp, by simp⟩, ho⟩
        exact ⟨a, c, a', c', a'', c'', by simpa using h1, by simpa using h2, by simpa using h3, h4⟩
      have hr0 := ho.row 0 _ rfl rfl
      have hr1 := ho.row 1 _ rfl rfl
      simp only [List.length_replicate] at hr0 hr1
      have hzl : (ints (List.replicate k 0)).length = k := by simp [ints]
      have d0 := ho.cell 0 _ rfl
      have d1 := ho.cell 1 _ rfl
      have z0 := ho.free 0
      have z1 := ho.free 1
      have hws := hbel.size
      have hgl := lt_of_block ho.blk
      have hnb : (Value.slice a k c).ownBlock ≠ some (wr.heap.size + 1) := fun e => by have := (hr0.lt _ e).2; omega
      have hna : (Value.slice a k c).ownBlock ≠ some wr.heap.size := fun e => by have := (hr0.lt _ e).2; omega
      by_cases hkm : k < m
      · have hqk : (k : Int) < q := by have := hqc.out; omega
        go_upto_block 1 with (fail)
        go_cut [3] (fun s wc => s = .pointer (some ⟨w.heap.size, 0, none⟩) ∧ ∃ vs', IsObj wc w.heap.size 84 (rfFields ⟨List.replicate (k + 1) 0, List.replicate (k + 1) 0, [], 0⟩) vs' ∧ (∀ j, foot w.heap.size (rfFields ⟨List.replicate (k + 1) 0, List.replicate (k + 1) 0, [], 0⟩) vs' j → w.heap.size ≤ j) ∧ Below w.heap.size w wc)
        case first => as_aux_lemma =>
          go_wp2_with fail
          refine wp_region_W 20 16 (fun w' : World => w'.heap[w.heap.size]? = some (.cells #[.slice a k c, .slice a' k c', .slice a'' 0 c'', .int .i64 0] 84 (0, 0))) (by kernel_rfl) (by kernel_rfl) ho.blk (fun hT => ?_)
          refine wpAnyW_take (i := 0) (some 14) rfl rfl (by kernel_rfl) (by kernel_rfl) (by kernel_rfl) (by kernel_rfl) (fun _ _ _ h => h) (v := ?_) (.inl ⟨by rfl, ?_⟩) (.inr hT) ?_
          rotate_left
          · (intro wT _; go_simp <;> with_reducible rfl)
          simp only [Act.put, List.setIfInBounds_toArray, List.set_cons_zero, List.set_cons_succ]
          refine wpAnyW_take (i := 1) (some 15) rfl rfl (by kernel_rfl) (by kernel_rfl) (by kernel_rfl) (by kernel_rfl) (fun _ _ _ h => h) (v := ?_) (.inl ⟨by rfl, ?_⟩) (.inr hT) ?_
          rotate_left
          · (intro wT _; go_simp <;> with_reducible rfl)
          simp only [Act.put, List.setIfInBounds_toArray, List.set_cons_zero, List.set_cons_succ]
          refine wpAnyW_take (i := 2) (some 16) rfl rfl (by kernel_rfl) (by kernel_rfl) (by kernel_rfl) (by kernel_rfl) (fun _ _ _ h => h) (v := ?_) (.inl ⟨by rfl, ?_⟩) (.inr hT) ?_
          rotate_left
          · (intro wT _; go_simp <;> with_reducible rfl)
          simp only [Act.put, List.setIfInBounds_toArray, List.set_cons_zero, List.set_cons_succ]
          refine wpAnyW_take (i := 3) (some 17) rfl rfl (by kernel_rfl) (by kernel_rfl) (by kernel_rfl) (by kernel_rfl) (fun _ _ _ h => h) (v := ?_) (.inl ⟨by rfl, ?_⟩) (.inr hT) ?_
          rotate_left
          · (intro wT _; go_simp <;> with_reducible rfl)
          simp only [Act.put, List.setIfInBounds_toArray, List.set_cons_zero, List.set_cons_succ]
          refine wpAnyW_take (i := 4) (some 18) rfl rfl (by kernel_rfl) (by kernel_rfl) (by kernel_rfl) (by kernel_rfl) (fun _ _ _ h => h) (v := ?_) (.inl ⟨by rfl, ?_⟩) (.inr hT) ?_
          rotate_left
          · (intro wT _; go_simp <;> with_reducible rfl)
          simp only [Act.put, List.setIfInBounds_toArray, List.set_cons_zero, List.set_cons_succ]
          refine wpAnyW_load (i := 5) (some 19) rfl rfl (by kernel_rfl) (by kernel_rfl) (by kernel_rfl) (by kernel_rfl) (by kernel_rfl) (fun _ _ _ h => h) (v := ?_) (.inl ⟨by rfl, ?_⟩) hT ?_
          rotate_left
          · (intro wT hT; try dsimp only at hT); (have t0 : wT.cell? ⟨w.heap.size, 0, none⟩ = some (.slice a k c) := blk_cell hT 0); (have t1 : wT.cell? ⟨w.heap.size, 1, none⟩ = some (.slice a' k c') := blk_cell hT 1); clear hT; (go_simp <;> with_reducible rfl)
          simp only [Act.put, List.setIfInBounds_toArray, List.set_cons_zero, List.set_cons_succ]
          refine wpAnyW_take (i := 8) (some 22) rfl rfl (by kernel_rfl) (by kernel_rfl) (by kernel_rfl) (by kernel_rfl) (fun _ _ _ h => h) (v := ?_) (.inl ⟨by rfl, ?_⟩) (.inr hT) ?_
          rotate_left
          · (intro wT _; go_simp <;> with_reducible rfl)
          simp only [Act.put, List.setIfInBounds_toArray, List.set_cons_zero, List.set_cons_succ]
          refine wpAnyW_take (i := 9) (some 23) rfl rfl (by kernel_rfl) (by kernel_rfl) (by kernel_rfl) (by kernel_rfl) (fun _ _ _ h => h) (v := ?_) (.inl ⟨by rfl, ?_⟩) (.inr hT) ?_
          rotate_left
          · (intro wT _; go_simp <;> with_reducible rfl)
          simp only [Act.put, List.setIfInBounds_toArray, List.set_cons_zero, List.set_cons_succ]
          refine wpAnyW_take (i := 10) (some 24) rfl rfl (by kernel_rfl) (by kernel_rfl) (by kernel_rfl) (by kernel_rfl) (fun _ _ _ h => h) (v := ?_) (.inl ⟨by rfl, ?_⟩) (.inr hT) ?_
          rotate_left
          · (intro wT _; go_simp <;> with_reducible rfl)
          simp only [Act.put, List.setIfInBounds_toArray, List.set_cons_zero, List.set_cons_succ]
          refine wpAnyW_load (i := 11) (some 25) rfl rfl (by kernel_rfl) (by kernel_rfl) (by kernel_rfl) (by kernel_rfl) (by kernel_rfl) (fun _ _ _ h => h) (v := ?_) (.inl ⟨by rfl, ?_⟩) hT ?_
          rotate_left
          · (intro wT hT; try dsimp only at hT); (have t0 : wT.cell? ⟨w.heap.size, 0, none⟩ = some (.slice a k c) := blk_cell hT 0); (have t1 : wT.cell? ⟨w.heap.size, 1, none⟩ = some (.slice a' k c') := blk_cell hT 1); clear hT; (go_simp <;> with_reducible rfl)
          simp only [Act.put, List.setIfInBounds_toArray, List.set_cons_zero, List.set_cons_succ]
          refine wpAnyW_two (i := 6) (j := 12) (by kernel_rfl) rfl rfl (fun K hK => ?_) (fun K hK => ?_)
          · go_simp
            refine step_owe hK ?_ (fun hT => ?_)
            · first | exact hb2 | exact hb1 | exact (Below.heap_alloc _ _ _ (lt_of_block hT)).trans hT
            clear hK K
            refine wpAnyW_two (i := 7) (j := 12) (by kernel_rfl) rfl rfl (fun K hK => ?_) (fun K hK => ?_)
            · refine step_append_lies _ (by rfl) (.tmp 19) (.tmp 20) 37 (by rfl) 0 3 i0 (.int .i64 0) 1 8 Try.underlying37 HI.out hz0 hz1 hz2 rfl (by omega) (.slice a k c) k (ints (List.replicate k 0)) (by rfl) (by first | exact (hr0.alloc _).drew | exact ((hr0.alloc _).alloc _).drew) _ 1 _ [.int .i64 0] (by rfl) (by rfl) (by first | (refine news_at _ _ _ _ ?_; simp; done) | (refine news_old _ _ _ _ _ ?_; simp; done)) (news_int 0) (by omega) (by unfold maxLen; omega) (by omega) (Nat.zero_le _) _ rfl ?_
              intro g1 c1 w1 own1 grow1 lies1 lt1
              obtain ⟨x1, l1⟩ := grow_step (wr := wr) (by first | exact (plus_one _ _).drew | exact (plus_two _ _ _).drew) grow1 lies1
              have h1 := x1.block
              have s1 := x1.size
              obtain ⟨hb1, hr1'⟩ := ho.keep 0 rfl rfl h1
              have hr1w : w1.ownsRow 0 3 1 (.slice a' k c') k (ints (List.replicate k 0)) := by have h := hr1' 1 _ _ _ _ _ (by decide) rfl rfl; simp only [List.length_replicate] at h; exact h
              refine step_owe hK ?_ (fun hT => ?_)
              · first | exact hb2 | exact hb1 | exact (Below.heap_alloc _ _ _ (lt_of_block hT)).trans hT
              clear hK K
              refine wpAnyW_one (i := 12) (by kernel_rfl) rfl (fun K hK => ?_)
              go_simp
              refine step_owe hK ?_ (fun hT => ?_)
              · first | exact hb2 | exact hb1 | exact (Below.heap_alloc _ _ _ (lt_of_block hT)).trans hT
              clear hK K
              refine wpAnyW_one (i := 13) (by kernel_rfl) rfl (fun K hK => ?_)
              refine step_append_lies _ (by rfl) (.tmp 25) (.tmp 26) 37 (by rfl) 0 3 i0 (.int .i64 0) 1 8 Try.underlying37 HI.out hz0 hz1 hz2 rfl (by omega) (.slice a' k c') k (ints (List.replicate k 0)) (by rfl) (by first | exact hr1w | exact hr1w.alloc _) _ 1 _ [.int .i64 0] (by rfl) (by rfl) (by first | (refine news_at _ _ _ _ ?_; simp; done) | exact news_grown grow1 (by show _ < ((wr.alloc _).alloc _).heap.size; simp; try omega) (by first | exact hna | exact hnb) (by first | (refine news_at _ _ _ _ ?_; simp; done) | (refine news_old _ _ _ _ _ ?_; simp; done))) (news_int 0) (by omega) (by unfold maxLen; omega) (by omega) (Nat.zero_le _) _ rfl ?_
              intro g2 c2 w2 own2 grow2 lies2 lt2
              obtain ⟨x2, l2⟩ := grow_step (wr := w1) (by first | exact Below.refl _ _ | exact plus_one _ _) grow2 lies2
              have h2 := x2.block
              have s2 := x2.size
              have hb2 := (h2 w.heap.size (lt_of_block hb1) (ho.fld 1 _ _ rfl rfl).2).trans hb1
              have y0 := blk_free hb2 0
              have y1 := blk_free hb2 1
              have m0 : w2.cell? ⟨w.heap.size, 0, none⟩ = some (.slice a k c) := blk_cell hb2 0
              have m1 : w2.cell? ⟨w.heap.size, 1, none⟩ = some (.slice a' k c') := blk_cell hb2 1
              refine step_owe hK ?_ (fun hT => ?_)
              · first | exact hb2 | exact hb1 | exact (Below.heap_alloc _ _ _ (lt_of_block hT)).trans hT
              clear hK K
              refine wpAnyW_take (i := 14) (some 28) rfl rfl (by kernel_rfl) (by kernel_rfl) (by kernel_rfl) (by kernel_rfl) (fun _ _ _ h => h) (v := ?_) (.inl ⟨by rfl, ?_⟩) (.inr hT) ?_
              rotate_left
              · (intro wT _; go_simp <;> with_reducible rfl)
              simp only [Act.put, List.setIfInBounds_toArray, List.set_cons_zero, List.set_cons_succ]
              refine wpAnyW_take (i := 15) (some 29) rfl rfl (by kernel_rfl) (by kernel_rfl) (by kernel_rfl) (by kernel_rfl) (fun _ _ _ h => h) (v := ?_) (.inl ⟨by rfl, ?_⟩) (.inr hT) ?_
              rotate_left
              · (intro wT _; go_simp <;> with_reducible rfl)
              simp only [Act.put, List.setIfInBounds_toArray, List.set_cons_zero, List.set_cons_succ]
              refine wpAnyW_one (i := 16) (by kernel_rfl) rfl (fun K hK => ?_)
              go_simp
              refine step_paid hK (by kernel_rfl) ?_
              clear hK K
              refine wpAnyW_take (i := 17) (some 30) rfl rfl (by kernel_rfl) (by kernel_rfl) (by kernel_rfl) (by kernel_rfl) (fun _ _ _ h => h) (v := ?_) (.inl ⟨by rfl, ?_⟩) (.inl (by kernel_rfl)) ?_
              rotate_left
              · (intro wT _; go_simp <;> with_reducible rfl)
              simp only [Act.put, List.setIfInBounds_toArray, List.set_cons_zero, List.set_cons_succ]
              refine wpAnyW_take (i := 18) (some 31) rfl rfl (by kernel_rfl) (by kernel_rfl) (by kernel_rfl) (by kernel_rfl) (fun _ _ _ h => h) (v := ?_) (.inl ⟨by rfl, ?_⟩) (.inl (by kernel_rfl)) ?_
              rotate_left
              · (intro wT _; go_simp <;> with_reducible rfl)
              simp only [Act.put, List.setIfInBounds_toArray, List.set_cons_zero, List.set_cons_succ]
              refine wpAnyW_one (i := 19) (by kernel_rfl) rfl (fun K hK => ?_)
              go_simp
              refine step_paid hK (by kernel_rfl) ?_
              clear hK K
              refine wpAnyW_done (by kernel_rfl) ?_
              go_wp2_with fail
              go_meet
              have hX := ho.two 0 1 (by decide) rfl rfl rfl rfl h1 s1 own1 (fun j hj => by simp only [Value.ownBlock, Option.some.injEq] at hj; subst hj; exact l1) h2 s2 own2 (fun j hj => by simp only [Value.ownBlock, Option.some.injEq] at hj; subst hj; exact l2)
              rw [← ints_snoc, ← List.replicate_succ'] at hX
              have hf : ((rfFields ⟨List.replicate k 0, List.replicate k 0, [], 0⟩).set 0 (.row 3 1 (k + 1) (ints (List.replicate (k + 1) 0)))).set 1 (.row 3 1 (k + 1) (ints (List.replicate (k + 1) 0))) = rfFields ⟨List.replicate (k + 1) 0, List.replicate (k + 1) 0, [], 0⟩ := by simp [rfFields]
              rw [hf] at hX
              refine ⟨rfl, _, hX.1, fun j hj => ?_, ?_⟩
              · rcases hX.2 j hj with h9 | h9
                · exact hft j h9
                · omega
              · have b1 := below_ext hbel x1 (fun j hj => hft j (.inr ⟨0, _, _, _, _, _, rfl, rfl, hj⟩))
                have b2 := below_ext b1 x2 (fun j hj => hft j (.inr ⟨1, _, _, _, _, _, rfl, rfl, hj⟩))
                exact (b2.setCell (p := ⟨w.heap.size, 0, none⟩) (Nat.le_refl _) _).setCell (p := ⟨w.heap.size, 1, none⟩) (Nat.le_refl _) _
            · go_simp
              refine step_owe hK ?_ (fun hT => ?_)
              · first | exact hb2 | exact hb1 | exact (Below.heap_alloc _ _ _ (lt_of_block hT)).trans hT
              clear hK K
              refine wpAnyW_one (i := 7) (by kernel_rfl) rfl (fun K hK => ?_)
              refine step_append_lies _ (by rfl) (.tmp 19) (.tmp 20) 37 (by rfl) 0 3 i0 (.int .i64 0) 1 8 Try.underlying37 HI.out hz0 hz1 hz2 rfl (by omega) (.slice a k c) k (ints (List.replicate k 0)) (by rfl) (by first | exact (hr0.alloc _).drew | exact ((hr0.alloc _).alloc _).drew) _ 1 _ [.int .i64 0] (by rfl) (by rfl) (by first | (refine news_at _ _ _ _ ?_; simp; done) | (refine news_old _ _ _ _ _ ?_; simp; done)) (news_int 0) (by omega) (by unfold maxLen; omega) (by omega) (Nat.zero_le _) _ rfl ?_
              intro g1 c1 w1 own1 grow1 lies1 lt1
              obtain ⟨x1, l1⟩ := grow_step (wr := wr) (by first | exact (plus_one _ _).drew | exact (plus_two _ _ _).drew) grow1 lies1
              have h1 := x1.block
              have s1 := x1.size
              obtain ⟨hb1, hr1'⟩ := ho.keep 0 rfl rfl h1
              have hr1w : w1.ownsRow 0 3 1 (.slice a' k c') k (ints (List.replicate k 0)) := by have h := hr1' 1 _ _ _ _ _ (by decide) rfl rfl; simp only [List.length_replicate] at h; exact h
              refine step_owe hK ?_ (fun hT => ?_)
              · first | exact hb2 | exact hb1 | exact (Below.heap_alloc _ _ _ (lt_of_block hT)).trans hT
              clear hK K
              refine wpAnyW_one (i := 13) (by kernel_rfl) rfl (fun K hK => ?_)
              refine step_append_lies _ (by rfl) (.tmp 25) (.tmp 26) 37 (by rfl) 0 3 i0 (.int .i64 0) 1 8 Try.underlying37 HI.out hz0 hz1 hz2 rfl (by omega) (.slice a' k c') k (ints (List.replicate k 0)) (by rfl) (by first | exact hr1w | exact hr1w.alloc _) _ 1 _ [.int .i64 0] (by rfl) (by rfl) (by first | (refine news_at _ _ _ _ ?_; simp; done) | exact news_grown grow1 (by show _ < ((wr.alloc _).alloc _).heap.size; simp; try omega) (by first | exact hna | exact hnb) (by first | (refine news_at _ _ _ _ ?_; simp; done) | (refine news_old _ _ _ _ _ ?_; simp; done))) (news_int 0) (by omega) (by unfold maxLen; omega) (by omega) (Nat.zero_le _) _ rfl ?_
              intro g2 c2 w2 own2 grow2 lies2 lt2
              obtain ⟨x2, l2⟩ := grow_step (wr := w1) (by first | exact Below.refl _ _ | exact plus_one _ _) grow2 lies2
              have h2 := x2.block
              have s2 := x2.size
              have hb2 := (h2 w.heap.size (lt_of_block hb1) (ho.fld 1 _ _ rfl rfl).2).trans hb1
              have y0 := blk_free hb2 0
              have y1 := blk_free hb2 1
              have m0 : w2.cell? ⟨w.heap.size, 0, none⟩ = some (.slice a k c) := blk_cell hb2 0
              have m1 : w2.cell? ⟨w.heap.size, 1, none⟩ = some (.slice a' k c') := blk_cell hb2 1
              refine step_owe hK ?_ (fun hT => ?_)
              · first | exact hb2 | exact hb1 | exact (Below.heap_alloc _ _ _ (lt_of_block hT)).trans hT
              clear hK K
              refine wpAnyW_take (i := 14) (some 28) rfl rfl (by kernel_rfl) (by kernel_rfl) (by kernel_rfl) (by kernel_rfl) (fun _ _ _ h => h) (v := ?_) (.inl ⟨by rfl, ?_⟩) (.inr hT) ?_
              rotate_left
              · (intro wT _; go_simp <;> with_reducible rfl)
              simp only [Act.put, List.setIfInBounds_toArray, List.set_cons_zero, List.set_cons_succ]
              refine wpAnyW_take (i := 15) (some 29) rfl rfl (by kernel_rfl) (by kernel_rfl) (by kernel_rfl) (by kernel_rfl) (fun _ _ _ h => h) (v := ?_) (.inl ⟨by rfl, ?_⟩) (.inr hT) ?_
              rotate_left
              · (intro wT _; go_simp <;> with_reducible rfl)
              simp only [Act.put, List.setIfInBounds_toArray, List.set_cons_zero, List.set_cons_succ]
              refine wpAnyW_one (i := 16) (by kernel_rfl) rfl (fun K hK => ?_)
              go_simp
              refine step_paid hK (by kernel_rfl) ?_
              clear hK K
              refine wpAnyW_take (i := 17) (some 30) rfl rfl (by kernel_rfl) (by kernel_rfl) (by kernel_rfl) (by kernel_rfl) (fun _ _ _ h => h) (v := ?_) (.inl ⟨by rfl, ?_⟩) (.inl (by kernel_rfl)) ?_
              rotate_left
              · (intro wT _; go_simp <;> with_reducible rfl)
              simp only [Act.put, List.setIfInBounds_toArray, List.set_cons_zero, List.set_cons_succ]
              refine wpAnyW_take (i := 18) (some 31) rfl rfl (by kernel_rfl) (by kernel_rfl) (by kernel_rfl) (by kernel_rfl) (fun _ _ _ h => h) (v := ?_) (.inl ⟨by rfl, ?_⟩) (.inl (by kernel_rfl)) ?_
              rotate_left
              · (intro wT _; go_simp <;> with_reducible rfl)
              simp only [Act.put, List.setIfInBounds_toArray, List.set_cons_zero, List.set_cons_succ]
              refine wpAnyW_one (i := 19) (by kernel_rfl) rfl (fun K hK => ?_)
              go_simp
              refine step_paid hK (by kernel_rfl) ?_
              clear hK K
              refine wpAnyW_done (by kernel_rfl) ?_
              go_wp2_with fail
              go_meet
              have hX := ho.two 0 1 (by decide) rfl rfl rfl rfl h1 s1 own1 (fun j hj => by simp only [Value.ownBlock, Option.some.injEq] at hj; subst hj; exact l1) h2 s2 own2 (fun j hj => by simp only [Value.ownBlock, Option.some.injEq] at hj; subst hj; exact l2)
              rw [← ints_snoc, ← List.replicate_succ'] at hX
              have hf : ((rfFields ⟨List.replicate k 0, List.replicate k 0, [], 0⟩).set 0 (.row 3 1 (k + 1) (ints (List.replicate (k + 1) 0)))).set 1 (.row 3 1 (k + 1) (ints (List.replicate (k + 1) 0))) = rfFields ⟨List.replicate (k + 1) 0, List.replicate (k + 1) 0, [], 0⟩ := by simp [rfFields]
              rw [hf] at hX
              refine ⟨rfl, _, hX.1, fun j hj => ?_, ?_⟩
              · rcases hX.2 j hj with h9 | h9
                · exact hft j h9
                · omega
              · have b1 := below_ext hbel x1 (fun j hj => hft j (.inr ⟨0, _, _, _, _, _, rfl, rfl, hj⟩))
                have b2 := below_ext b1 x2 (fun j hj => hft j (.inr ⟨1, _, _, _, _, _, rfl, rfl, hj⟩))
                exact (b2.setCell (p := ⟨w.heap.size, 0, none⟩) (Nat.le_refl _) _).setCell (p := ⟨w.heap.size, 1, none⟩) (Nat.le_refl _) _
          · go_simp
            refine step_owe hK ?_ (fun hT => ?_)
            · first | exact hb2 | exact hb1 | exact (Below.heap_alloc _ _ _ (lt_of_block hT)).trans hT
            clear hK K
            refine wpAnyW_one (i := 6) (by kernel_rfl) rfl (fun K hK => ?_)
            go_simp
            refine step_owe hK ?_ (fun hT => ?_)
            · first | exact hb2 | exact hb1 | exact (Below.heap_alloc _ _ _ (lt_of_block hT)).trans hT
            clear hK K
            refine wpAnyW_one (i := 7) (by kernel_rfl) rfl (fun K hK => ?_)
            refine step_append_lies _ (by rfl) (.tmp 19) (.tmp 20) 37 (by rfl) 0 3 i0 (.int .i64 0) 1 8 Try.underlying37 HI.out hz0 hz1 hz2 rfl (by omega) (.slice a k c) k (ints (List.replicate k 0)) (by rfl) (by first | exact (hr0.alloc _).drew | exact ((hr0.alloc _).alloc _).drew) _ 1 _ [.int .i64 0] (by rfl) (by rfl) (by first | (refine news_at _ _ _ _ ?_; simp; done) | (refine news_old _ _ _ _ _ ?_; simp; done)) (news_int 0) (by omega) (by unfold maxLen; omega) (by omega) (Nat.zero_le _) _ rfl ?_
            intro g1 c1 w1 own1 grow1 lies1 lt1
            obtain ⟨x1, l1⟩ := grow_step (wr := wr) (by first | exact (plus_one _ _).drew | exact (plus_two _ _ _).drew) grow1 lies1
            have h1 := x1.block
            have s1 := x1.size
            obtain ⟨hb1, hr1'⟩ := ho.keep 0 rfl rfl h1
            have hr1w : w1.ownsRow 0 3 1 (.slice a' k c') k (ints (List.replicate k 0)) := by have h := hr1' 1 _ _ _ _ _ (by decide) rfl rfl; simp only [List.length_replicate] at h; exact h
            refine step_owe hK ?_ (fun hT => ?_)
            · first | exact hb2 | exact hb1 | exact (Below.heap_alloc _ _ _ (lt_of_block hT)).trans hT
            clear hK K
            refine wpAnyW_one (i := 13) (by kernel_rfl) rfl (fun K hK => ?_)
            refine step_append_lies _ (by rfl) (.tmp 25) (.tmp 26) 37 (by rfl) 0 3 i0 (.int .i64 0) 1 8 Try.underlying37 HI.out hz0 hz1 hz2 rfl (by omega) (.slice a' k c') k (ints (List.replicate k 0)) (by rfl) (by first | exact hr1w | exact hr1w.alloc _) _ 1 _ [.int .i64 0] (by rfl) (by rfl) (by first | (refine news_at _ _ _ _ ?_; simp; done) | exact news_grown grow1 (by show _ < ((wr.alloc _).alloc _).heap.size; simp; try omega) (by first | exact hna | exact hnb) (by first | (refine news_at _ _ _ _ ?_; simp; done) | (refine news_old _ _ _ _ _ ?_; simp; done))) (news_int 0) (by omega) (by unfold maxLen; omega) (by omega) (Nat.zero_le _) _ rfl ?_
            intro g2 c2 w2 own2 grow2 lies2 lt2
            obtain ⟨x2, l2⟩ := grow_step (wr := w1) (by first | exact Below.refl _ _ | exact plus_one _ _) grow2 lies2
            have h2 := x2.block
            have s2 := x2.size
            have hb2 := (h2 w.heap.size (lt_of_block hb1) (ho.fld 1 _ _ rfl rfl).2).trans hb1
            have y0 := blk_free hb2 0
            have y1 := blk_free hb2 1
            have m0 : w2.cell? ⟨w.heap.size, 0, none⟩ = some (.slice a k c) := blk_cell hb2 0
            have m1 : w2.cell? ⟨w.heap.size, 1, none⟩ = some (.slice a' k c') := blk_cell hb2 1
            refine step_owe hK ?_ (fun hT => ?_)
            · first | exact hb2 | exact hb1 | exact (Below.heap_alloc _ _ _ (lt_of_block hT)).trans hT
            clear hK K
            refine wpAnyW_take (i := 14) (some 28) rfl rfl (by kernel_rfl) (by kernel_rfl) (by kernel_rfl) (by kernel_rfl) (fun _ _ _ h => h) (v := ?_) (.inl ⟨by rfl, ?_⟩) (.inr hT) ?_
            rotate_left
            · (intro wT _; go_simp <;> with_reducible rfl)
            simp only [Act.put, List.setIfInBounds_toArray, List.set_cons_zero, List.set_cons_succ]
            refine wpAnyW_take (i := 15) (some 29) rfl rfl (by kernel_rfl) (by kernel_rfl) (by kernel_rfl) (by kernel_rfl) (fun _ _ _ h => h) (v := ?_) (.inl ⟨by rfl, ?_⟩) (.inr hT) ?_
            rotate_left
            · (intro wT _; go_simp <;> with_reducible rfl)
            simp only [Act.put, List.setIfInBounds_toArray, List.set_cons_zero, List.set_cons_succ]
            refine wpAnyW_one (i := 16) (by kernel_rfl) rfl (fun K hK => ?_)
            go_simp
            refine step_paid hK (by kernel_rfl) ?_
            clear hK K
            refine wpAnyW_take (i := 17) (some 30) rfl rfl (by kernel_rfl) (by kernel_rfl) (by kernel_rfl) (by kernel_rfl) (fun _ _ _ h => h) (v := ?_) (.inl ⟨by rfl, ?_⟩) (.inl (by kernel_rfl)) ?_
            rotate_left
            · (intro wT _; go_simp <;> with_reducible rfl)
            simp only [Act.put, List.setIfInBounds_toArray, List.set_cons_zero, List.set_cons_succ]
            refine wpAnyW_take (i := 18) (some 31) rfl rfl (by kernel_rfl) (by kernel_rfl) (by kernel_rfl) (by kernel_rfl) (fun _ _ _ h => h) (v := ?_) (.inl ⟨by rfl, ?_⟩) (.inl (by kernel_rfl)) ?_
            rotate_left
            · (intro wT _; go_simp <;> with_reducible rfl)
            simp only [Act.put, List.setIfInBounds_toArray, List.set_cons_zero, List.set_cons_succ]
            refine wpAnyW_one (i := 19) (by kernel_rfl) rfl (fun K hK => ?_)
            go_simp
            refine step_paid hK (by kernel_rfl) ?_
            clear hK K
            refine wpAnyW_done (by kernel_rfl) ?_
            go_wp2_with fail
            go_meet
            have hX := ho.two 0 1 (by decide) rfl rfl rfl rfl h1 s1 own1 (fun j hj => by simp only [Value.ownBlock, Option.some.injEq] at hj; subst hj; exact l1) h2 s2 own2 (fun j hj => by simp only [Value.ownBlock, Option.some.injEq] at hj; subst hj; exact l2)
            rw [← ints_snoc, ← List.replicate_succ'] at hX
            have hf : ((rfFields ⟨List.replicate k 0, List.replicate k 0, [], 0⟩).set 0 (.row 3 1 (k + 1) (ints (List.replicate (k + 1) 0)))).set 1 (.row 3 1 (k + 1) (ints (List.replicate (k + 1) 0))) = rfFields ⟨List.replicate (k + 1) 0, List.replicate (k + 1) 0, [], 0⟩ := by simp [rfFields]
            rw [hf] at hX
            refine ⟨rfl, _, hX.1, fun j hj => ?_, ?_⟩
            · rcases hX.2 j hj with h9 | h9
              · exact hft j h9
              · omega
            · have b1 := below_ext hbel x1 (fun j hj => hft j (.inr ⟨0, _, _, _, _, _, rfl, rfl, hj⟩))
              have b2 := below_ext b1 x2 (fun j hj => hft j (.inr ⟨1, _, _, _, _, _, rfl, rfl, hj⟩))
              exact (b2.setCell (p := ⟨w.heap.size, 0, none⟩) (Nat.le_refl _) _).setCell (p := ⟨w.heap.size, 1, none⟩) (Nat.le_refl _) _
        case rest =>
          obtain ⟨rfl, vs', ho', hft', hbel'⟩ := hcut
          clear ho hft hbel hr0 hr1 d0 d1 z0 z1 hna hnb
          go_wp2_with fail
          go_roundg (m - (k + 1))
          case measure => omega
          case rel => exact ⟨k + 1, vs', by omega, by go_num, ho', hft', hbel'⟩
      · obtain rfl : k = m := by omega
        have hqk : q ≤ (k : Int) := by have := hqc.out; omega
        go_wp2
        go_ret
        refine ⟨_, [.slice a k c, .slice a' k c', .slice a'' 0 c'', .int .i64 0], rfl, ?_, ?_, hbel⟩
        · rw [HR.out]
          exact ⟨⟨by simp; omega, by simp, by simp, by simp, by simp, by simp, by simp, by simp, by simp⟩, ho⟩
        · rw [HR.out]; exact hft
end Go.Proofs.Ytkiogbenbicghaa
