/- What slices.AppendSeq and slices.Collect make of a queue's iterator, and what fifo's All hands back. Condition: the queues lie in memory. -/
import Derived.RangeFuncBox
import Derived.Test.YtajhfjgndkdbnaaFifoAll
namespace Go.Proofs.Ytajhfjgndkdbnaa
open Go.RowKit Go.Shelf

attribute [local go_sem] Oper.semAt_some

theorem fseq_stops (F : Fence) (n : Nat) (hF : F.fn 44) (hro : F.round = none) (hn : 1 ≤ n) (B1 B2 g bq bn i : Nat) (qs ns : List T3) (xs : List Nat) (la s : Int) (w : World) (n₀ : Nat) (hn₀ : n₀ ≤ w.heap.size)
    (h1 : w.cell? ⟨B1, 0, none⟩ = some (.pointer (some ⟨g, 0, none⟩))) (h2 : w.cell? ⟨B2, 0, none⟩ = some (.int .i64 i)) (hf : IsFq w g bq bn qs ns)
    (lg : g < n₀) (lq : bq < n₀) (ln : bn < n₀) (l1 : B1 < n₀) (l2 : B2 < n₀) (hqi : qs[i]? = some (headD xs (-1), la, s)) (hch : Chain ns i (-1) xs (-1)) (hnd : xs.Nodup) :
    SeqStopsK F n Try.prog 44 #[.pointer (some ⟨B1, 0, none⟩), .pointer (some ⟨B2, 0, none⟩)] (fun x : Int => #[Value.int .i64 x]) (Below n₀) (fun ys => ys = asInts xs) (fun pre => pre <+: asInts xs) xs.length w := fun l J Jx W hW hJ _ hY h0 =>
  fwalk1_in F n hF hro hn l B1 B2 n₀ g bq bn i qs ns xs la s J Jx hY W ((hW.cell (p := ⟨B1, 0, none⟩) (Nat.lt_of_lt_of_le l1 hn₀)).trans h1) ((hW.cell (p := ⟨B2, 0, none⟩) (Nat.lt_of_lt_of_le l2 hn₀)).trans h2)
    (hf.below (Nat.lt_of_lt_of_le lg hn₀) (Nat.lt_of_lt_of_le lq hn₀) (Nat.lt_of_lt_of_le ln hn₀) hW) lg lq ln l1 l2 hqi hch h0 hnd (fun a W' h => hJ a W' W'.drew none h ⟨rfl, rfl, rfl, Nat.le_refl _, fun _ _ _ => rfl⟩ (fun r e => by cases e))

set_option maxRecDepth 100000 in
set_option maxHeartbeats 4000000 in
theorem fappendSeq_in (F : Fence) (n : Nat) (hA : F.fn 43) (hF : F.fn 44) (hro : F.round = none) (hn : 3 ≤ n) (B1 B2 g bq bn i : Nat) (qs ns : List T3) (xs : List Nat) (la s : Int) (w : World)
    (h1 : w.cell? ⟨B1, 0, none⟩ = some (.pointer (some ⟨g, 0, none⟩))) (h2 : w.cell? ⟨B2, 0, none⟩ = some (.int .i64 i)) (hf : IsFq w g bq bn qs ns)
    (lg : g < w.heap.size) (lq : bq < w.heap.size) (ln : bn < w.heap.size) (l1 : B1 < w.heap.size) (l2 : B2 < w.heap.size) (hqi : qs[i]? = some (headD xs (-1), la, s)) (hch : Chain ns i (-1) xs (-1)) (hnd : xs.Nodup) (hlen : xs.length ≤ 32) :
    CallsIn F n Try.prog 43 #[.slice none 0 0, .func (.func 44) #[] #[.pointer (some ⟨B1, 0, none⟩), .pointer (some ⟨B2, 0, none⟩)]] w fun e W' => ∃ v, e = .returned v ∧ W'.ownsRow w.heap.size 3 1 v xs.length (ints (asInts xs)) ∧ Below w.heap.size w W' := by
  have hn1 : 1 ≤ n := by omega
  obtain ⟨i0, hi, hz0, hz1, hz2⟩ := info_parts Try.info_int
  refine callsIn_of_wp_marks Try.func43 rfl hA ?_ hro
  simp only [Try.ntmps43, List.size_toArray, List.length_cons, List.length_nil, Nat.reduceAdd, Nat.reduceSub, Array.replicate_succ, Array.replicate_zero, List.push_toArray, List.append_toArray, List.nil_append, List.cons_append]
  gi_wp2
  have bO := Boxed.new w 26 (.slice none 0 0)
  have hB0 : Below w.heap.size w (w.alloc (.cells #[.slice none 0 0] 26)) := (Below.refl _ w).alloc (Nat.le_refl _) _
  refine wpIn_rangeFunc_ownG hro hn1 (gf := 44) (lb := #[.pointer (some ⟨B1, 0, none⟩), .pointer (some ⟨B2, 0, none⟩)]) rfl hF (enters_of Try.func44 (by kernel_rfl) rfl)
    (fseq_stops F (n - 1) hF hro (by omega) B1 B2 g bq bn i qs ns xs la s _ w.heap.size (by simp) ((hB0.cell (p := ⟨B1, 0, none⟩) l1).trans h1) ((hB0.cell (p := ⟨B2, 0, none⟩) l2).trans h2) (hf.below lg lq ln hB0) lg lq ln l1 l2 hqi hch hnd) belowK_t (belowK_b (by simp)) (Below.refl _ _) (fun _ => rfl)
    (fun pre W => (∃ v, Boxed W w.heap.size 26 v ∧ W.ownsRow w.heap.size 3 1 v pre.length (pre.map (Value.int .i64)) ∧ True) ∧ Below w.heap.size w W)
    (fun _ _ _ => False)
    (OwnFrom.and (Own.from (holdsRow_own w.heap.size w.heap.size 26 3 1 (fun pre : List Int => pre.length) (fun pre => pre.map (Value.int .i64)) (fun _ _ => True)) _) (ownFrom_below (Nat.le_refl _) (by simp)))
    (fun _ _ _ _ _ hs _ _ => hs)
    ⟨⟨_, bO, World.ownsRow_nil _ _ _ _, trivial⟩, hB0⟩
    (fun x => { tmps := #[.slice none 0 0, .func (.func 44) #[] #[.pointer (some ⟨B1, 0, none⟩), .pointer (some ⟨B2, 0, none⟩)], .pointer (some ⟨w.heap.size, 0, none⟩), undef, .slice none 0 0, .int .i64 x, .func (.func 44) #[] #[.pointer (some ⟨B1, 0, none⟩), .pointer (some ⟨B2, 0, none⟩)], .int .i64 x, undef, undef, undef, undef, undef], defers := [] }) ?assign ?body ?done ?stop
  case assign =>
    intro l x W K hK
    gi_wp2
    exact hK
  case body =>
    rintro l pre x W ⟨⟨v, hv, hrow, _⟩, hB⟩ hlt
    have hc := hv.cell
    gi_wp2_with (gi_at_builtin; refine wpListIn_append_own _ rfl _ _ 26 rfl w.heap.size 3 i0 (.int .i64 0) 1 8 Try.underlying26 hi hz0 hz1 hz2 rfl (by decide) _ _ _ rfl (hrow.alloc _) ⟨W.heap.size, 0, none⟩ 1 1 [.int .i64 x] rfl rfl (cell_one_new _ _ _) (by simp [Value.oneCell']) (by unfold maxLen; omega) (by omega) (by have := hB.size; simp; omega) ?_; intro v' w1 hown' hgrow _; obtain ⟨g', cap', rfl⟩ := ownsRow_succ hown'; obtain ⟨hv1, hv2, hr2, hk2, hb2⟩ := hv.appended (by decide) hrow hB.size (Nat.le_refl _) hown' hgrow; have hc1 := hv1.cell; have hf1 := hv1.frozen)
    exact ⟨hk2.from _, hb2, ⟨_, hv2, by simpa using hr2, trivial⟩, hB.trans hb2⟩
  case done =>
    rintro D ys W hD rfl ⟨⟨v, hv, hrow, _⟩, hB⟩ hK
    have hc := hv.cell
    gi_wp2
    refine ⟨by simp, .inl ⟨_, _, rfl, run_takeDeferred hK, ?_⟩⟩
    refine ⟨_, results_tmp rfl _ _ _, v, rfl, ?_, hB.trans (belowK_b (w := w) (Nat.le_refl _) W D _ _ (by simp at hD; omega) hK rfl rfl)⟩
    rw [show ints (asInts xs) = (asInts xs).map (Value.int .i64) from rfl, show xs.length = (asInts xs).length by simp [asInts]]
    exact ownsRow_putObj hrow _ hK rfl
  case stop =>
    rintro D c pre W _ _ h _
    exact h.elim

set_option maxHeartbeats 2000000 in
theorem fcollect_in (F : Fence) (n : Nat) (hC : F.fn 36) (hA : F.fn 43) (hF : F.fn 44) (hro : F.round = none) (hn : 4 ≤ n) (B1 B2 g bq bn i : Nat) (qs ns : List T3) (xs : List Nat) (la s : Int) (w : World)
    (h1 : w.cell? ⟨B1, 0, none⟩ = some (.pointer (some ⟨g, 0, none⟩))) (h2 : w.cell? ⟨B2, 0, none⟩ = some (.int .i64 i)) (hf : IsFq w g bq bn qs ns)
    (lg : g < w.heap.size) (lq : bq < w.heap.size) (ln : bn < w.heap.size) (l1 : B1 < w.heap.size) (l2 : B2 < w.heap.size) (hqi : qs[i]? = some (headD xs (-1), la, s)) (hch : Chain ns i (-1) xs (-1)) (hnd : xs.Nodup) (hlen : xs.length ≤ 32) :
    CallsIn F n Try.prog 36 #[.func (.func 44) #[] #[.pointer (some ⟨B1, 0, none⟩), .pointer (some ⟨B2, 0, none⟩)]] w fun e W' => ∃ v, e = .returned v ∧ W'.ownsRow w.heap.size 3 1 v xs.length (ints (asInts xs)) ∧ Below w.heap.size w W' := by
  refine callsIn_of_wp Try.func36 rfl hC ?_ hro
  simp only [Try.ntmps36, List.size_toArray, List.length_cons, List.length_nil, Nat.reduceAdd, Nat.reduceSub, Array.replicate_succ, Array.replicate_zero, List.push_toArray, List.append_toArray, List.nil_append, List.cons_append]
  have hA2 := fappendSeq_in F (n - 1) hA hF hro (by omega) B1 B2 g bq bn i qs ns xs la s w h1 h2 hf lg lq ln l1 l2 hqi hch hnd hlen
  clear h1 h2 hf hqi hch hnd
  have h1n : 1 ≤ n := by omega
  gi_wp2_with (gi_at_call 43; refine hA2.mono ?_; rintro e w' ⟨v, rfl, hrow, hb⟩)
  go_ret
  exact ⟨v, rfl, hrow, hb⟩
/-- slices.Collect, at the widest fence. -/
theorem fcollect_calls (B1 B2 g bq bn i : Nat) (qs ns : List T3) (xs : List Nat) (la s : Int) (w : World)
    (h1 : w.cell? ⟨B1, 0, none⟩ = some (.pointer (some ⟨g, 0, none⟩))) (h2 : w.cell? ⟨B2, 0, none⟩ = some (.int .i64 i)) (hf : IsFq w g bq bn qs ns)
    (l1 : B1 < w.heap.size) (l2 : B2 < w.heap.size) (hqi : qs[i]? = some (headD xs (-1), la, s)) (hch : Chain ns i (-1) xs (-1)) (hnd : xs.Nodup) (hlen : xs.length ≤ 32) :
    Calls Try.prog 36 #[.func (.func 44) #[] #[.pointer (some ⟨B1, 0, none⟩), .pointer (some ⟨B2, 0, none⟩)]] w fun e W' => ∃ v, e = .returned v ∧ W'.ownsRow w.heap.size 3 1 v xs.length (ints (asInts xs)) ∧ Below w.heap.size w W' :=
  (callsIn_wide (n := 4)).1 (fcollect_in _ 4 trivial trivial trivial rfl (by omega) B1 B2 g bq bn i qs ns xs la s w h1 h2 hf hf.lt.1 hf.lt.2.1 hf.lt.2.2 l1 l2 hqi hch hnd hlen)

def allL (L : List (List Nat)) (n : Int) : List Nat := if n < 0 then [] else match L[n.toNat]? with | some l => l | none => []
theorem fwalk_calls (g : Nat) (n : Int) (w : World) : Calls Try.prog 37 #[.pointer (some ⟨g, 0, none⟩), .int .i64 n] w fun e w' => e = .returned (.func (.func 44) #[] #[.pointer (some ⟨w.heap.size, 0, none⟩), .pointer (some ⟨w.heap.size + 1, 0, none⟩)]) ∧ w' = (w.alloc (.cells #[.pointer (some ⟨g, 0, none⟩)] 51)).alloc (.cells #[.int .i64 n] 3) := by
  go_enter Try.func37, Try.ntmps37
  go_wp2
  go_ret
  exact ⟨rfl, rfl⟩
set_option maxHeartbeats 4000000 in
/-- All hands back a slice of its own that holds the queue's items, in order. -/
theorem all_calls {w : World} {g bq bn N : Nat} {L : List (List Nat)} (h : IsF w g bq bn L N) (n : Int) :
    Calls Try.prog 26 #[.pointer (some ⟨g, 0, none⟩), .int .i64 n] w fun e w' => ∃ v, e = .returned v ∧ Reads w' 1 v (allL L n).length (ints (asInts (allL L n))) ∧ (∀ k, v.ownBlock = some k → w.heap.size ≤ k) ∧ Below w.heap.size w w' := by
  obtain ⟨qs, ns, h1, h2⟩ := h
  have hIs := fis_calls h1 n
  by_cases hr : 0 ≤ n ∧ n < L.length
  · rw [show inR n qs = true by rw [h2.inR]; simpa using hr] at hIs
    obtain ⟨i, rfl⟩ : ∃ i : Nat, n = i := ⟨n.toNat, by omega⟩
    obtain ⟨l, hl⟩ : ∃ l, L[i]? = some l := ⟨_, List.getElem?_eq_getElem (by omega)⟩
    have hv : allL L i = l := by unfold allL; rw [if_neg (by omega)]; simp [hl]
    rw [hv]
    obtain ⟨hq, hch⟩ := h2.q i l hl
    have hnd := h2.nd i l hl
    have hlen : l.length ≤ 32 := Nat.le_trans (h2.len_le hl) (by rw [← h2.nl]; exact h1.nl)
    have hlt := h1.lt
    have hcol := fcollect_calls w.heap.size (w.heap.size + 1) g bq bn i qs ns l _ _ ((w.alloc (.cells #[.pointer (some ⟨g, 0, none⟩)] 51)).alloc (.cells #[.int .i64 i] 3))
      (by rw [blk_cell ((Below.heap_alloc _ _ _ (by simp)).trans (heap_alloc_new w _))]; rfl) (by rw [blk_cell (heap_alloc2_new w _ _)]; rfl) ((h1.alloc _).alloc _) (by simp; omega) (by simp) hq hch hnd hlen
    have hwk := fun u : World => fwalk_calls g i u
    clear h1 h2 hl hv hq hch hnd hr
    go_enter Try.func26, Try.ntmps26
    go_wp2_with fail
    refine hIs.mono ?_
    rintro e w' ⟨rfl, rfl⟩
    go_wp2_with fail
    refine (hwk _).mono ?_
    rintro e w1 ⟨rfl, rfl⟩
    go_wp2_with fail
    refine hcol.mono ?_
    rintro e w2 ⟨v, rfl, hrow, hb⟩
    have hz : ((w.alloc (.cells #[.pointer (some ⟨g, 0, none⟩)] 51)).alloc (.cells #[.int .i64 i] 3)).heap.size = w.heap.size + 2 := by simp
    rw [hz] at hrow hb
    obtain ⟨a', cap', rfl, k1, k2, k3⟩ := owns_shape hrow
    have hr := Reads.of_owns hrow
    have HB := Lib.hid hrow
    have HBL := Lib.hid (show Below w.heap.size w w2 from (((Below.refl _ w).alloc (Nat.le_refl _) _).alloc (by simp) _).trans (hb.mono (by omega)))
    clear hrow hb k3 hcol hwk hIs
    go_wp2_with fail
    refine (clip_ints k1 k2).mono ?_
    rintro e w' ⟨rfl, rfl⟩
    go_wp2_with fail
    go_ret
    refine ⟨_, rfl, ⟨hr.1, _, _, rfl, Nat.le_refl _, by omega, ?_⟩, fun j hj => ?_, HBL.out⟩
    · obtain ⟨_, a2, cap2, he, _, _, h4⟩ := hr
      injection he with ha hb hc
      subst ha
      exact h4
    · have h5 := (HB.out.lt j ?_).1
      · omega
      · cases a' with
        | none => simp [Value.ownBlock] at hj
        | some x => simpa [Value.ownBlock] using hj
  · rw [show inR n qs = false by rw [h2.inR]; simpa using hr] at hIs
    have hv : allL L n = [] := by
      unfold allL
      split
      · rfl
      · rw [List.getElem?_eq_none (by omega)]
    rw [hv]
    clear h1 h2 hr hv
    go_enter Try.func26, Try.ntmps26
    go_wp2_with fail
    refine hIs.mono ?_
    rintro e w' ⟨rfl, rfl⟩
    go_wp2_with fail
    go_ret
    exact ⟨_, rfl, Reads.nil _ _, fun k hk => by simp [Value.ownBlock] at hk, Below.refl _ _⟩
end Go.Proofs.Ytajhfjgndkdbnaa
