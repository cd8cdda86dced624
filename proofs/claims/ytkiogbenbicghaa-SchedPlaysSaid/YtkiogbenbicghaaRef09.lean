/- The document's tasks (parcloseref09) in memory, and what Block, Ready, Yield, Exit, Spawn, Pick do. Condition of each: they lie in memory (IsR9). -/
import Derived.Test.YtkiogbenbicghaaSim06
import Derived.Test.YtkiogbenbicghaaFrom
import Derived.Test.YtkiogbenbicghaaLaw09c
namespace Go.Proofs.Ytkiogbenbicghaa
open Go.RowKit BigFrame

/-- A list that is read and never written: nil, or in blocks from n0 on, beside p and F. -/
def RV (w : World) (n0 p : Nat) (F : Nat → Prop) (v : Value) (l : List Int) : Prop :=
  Reads w 1 v l.length (ints l) ∧ (∀ k, v.ownBlock = some k → n0 ≤ k ∧ k ≠ p ∧ ¬ F k ∧ k < w.heap.size) ∧ (v = .slice none 0 0 ∨ ∃ bl o n c, v = .slice (some ⟨bl, o, none⟩) n c)
theorem IsRf.frameF {w w' : World} {g : Nat} {R : Rf} {vs : List Value} (h : IsRf w g R vs) (hs : ∀ k, foot g (rfFields R) vs k → w'.heap[k]? = w.heap[k]?) : IsRf w' g R vs := ⟨h.1, h.2.frame hs⟩
/-- The document's tasks at p: the arena A, and those that can run: rl. All of it in blocks from n0 on. -/
structure IsR9 (w : World) (n0 p g : Nat) (A : Ar) (fs : List Nat) (rl : List Int) : Prop where
  p0 : n0 ≤ p
  nsz : n0 ≤ w.heap.size
  ex : ∃ R vs v, Sim A fs R ∧ IsRf w g R vs ∧ (∀ k, foot g (rfFields R) vs k → n0 ≤ k ∧ k ≠ p) ∧ w.heap[p]? = some (.cells #[.pointer (some ⟨g, 0, none⟩), v] 59 (0, 0)) ∧ RV w n0 p (foot g (rfFields R) vs) v rl
section
variable {w w' : World} {n0 p g : Nat} {A : Ar} {fs : List Nat} {rl : List Int}
theorem IsR9.keep (h : IsR9 w n0 p g A fs rl) (hs : w.heap.size ≤ w'.heap.size) (hb : ∀ k, n0 ≤ k → k < w.heap.size → w'.heap[k]? = w.heap[k]?) : IsR9 w' n0 p g A fs rl := by
  obtain ⟨R, vs, v, h1, h2, h3, h4, h5, h6, h7⟩ := h.ex
  exact ⟨h.p0, Nat.le_trans h.nsz hs, R, vs, v, h1, h2.frameF (fun k hk => hb k (h3 k hk).1 (h2.2.lt k hk)), h3, (hb p h.p0 (lt_of_block h4)).trans h4, h5.frame (fun k hk => hb k (h6 k hk).1 (h6 k hk).2.2.2),
    fun k hk => ⟨(h6 k hk).1, (h6 k hk).2.1, (h6 k hk).2.2.1, Nat.lt_of_lt_of_le (h6 k hk).2.2.2 hs⟩, h7⟩
theorem IsR9.below (h : IsR9 w n0 p g A fs rl) (hb : Below w.heap.size w w') : IsR9 w' n0 p g A fs rl := h.keep hb.size (fun k _ hk => hb.block k hk)
theorem IsR9.ext (h : IsR9 w n0 p g A fs rl) {F : Nat → Prop} (hx : Ext w w' F) (hF : ∀ k, F k → k < n0) : IsR9 w' n0 p g A fs rl := h.keep hx.size (fun k h1 h2 => hx.block k h2 (fun hf => by have := hF k hf; omega))
/-- Those that can run are said anew. -/
theorem IsR9.setR (h : IsR9 w n0 p g A fs rl) {w1 : World} (hb : Below w.heap.size w w1) {v : Value} {l : List Int} (ho : w1.ownsRow w.heap.size 3 1 v l.length (ints l)) :
    IsR9 (w1.setCell ⟨p, 1, none⟩ v) n0 p g A fs l ∧ Below n0 w (w1.setCell ⟨p, 1, none⟩ v) := by
  obtain ⟨R, vs, v0, h1, h2, h3, h4, _⟩ := h.ex
  have hp := lt_of_block h4
  have hns := h.nsz
  have hsz := hb.size
  have hp0 := h.p0
  have hkeep : ∀ k, k ≠ p → (w1.setCell ⟨p, 1, none⟩ v).heap[k]? = w1.heap[k]? := fun k hk => heap_setCell_other _ _ _ _ hk
  have hszs : (w1.setCell ⟨p, 1, none⟩ v).heap.size = w1.heap.size := by simp [World.setCell]
  have hfl := h2.2.lt
  refine ⟨⟨hp0, by omega, R, vs, v, h1, h2.frameF (fun k hk => (hkeep k (h3 k hk).2).trans (hb.block k (hfl k hk))), h3, ?_, ?_, fun k hk => ?_, ?_⟩, ⟨hb.os, hb.tape, hb.output, by omega, fun k hk => (hkeep k (by omega)).trans (hb.block k (by omega))⟩⟩
  · have := blk_set ((hb.block p hp).trans h4) 1 v
    simpa using this
  · exact (Reads.of_owns ho).frame (fun k hk => hkeep k (by have := (ho.lt k hk).1; omega))
  · obtain ⟨q1, q2⟩ := ho.lt k hk
    exact ⟨by omega, by omega, fun hf => by have := hfl k hf; omega, by omega⟩
  · rcases ho.2 with ⟨rfl, _⟩ | ⟨g', cap, cur, rfl, _⟩
    · exact .inl rfl
    · exact .inr ⟨_, _, _, _, rfl⟩
/-- The arena alone was turned. -/
theorem r9_setA {A' : Ar} {fs' : List Nat} {R R' : Rf} {vs : List Value} {v : Value} (hp0 : n0 ≤ p) (hns : n0 ≤ w.heap.size) (h3 : ∀ k, foot g (rfFields R) vs k → n0 ≤ k ∧ k ≠ p)
    (h4 : w.heap[p]? = some (.cells #[.pointer (some ⟨g, 0, none⟩), v] 59 (0, 0))) (h5 : RV w n0 p (foot g (rfFields R) vs) v rl) (hs : Sim A' fs' R') (ha : After w g R vs w' R') : IsR9 w' n0 p g A' fs' rl ∧ Below n0 w w' := by
  obtain ⟨h5, h6, h7⟩ := h5
  obtain ⟨vs', hR, hf, hx⟩ := ha
  have hp := lt_of_block h4
  have hsz := hx.size
  refine ⟨⟨hp0, by omega, R', vs', v, hs, hR, fun k hk => ?_, (hx.block p hp (fun e => (h3 p e).2 rfl)).trans h4, h5.frame (fun k hk => hx.block k (h6 k hk).2.2.2 (h6 k hk).2.2.1), fun k hk => ⟨(h6 k hk).1, (h6 k hk).2.1, fun e => ?_, by have := (h6 k hk).2.2.2; omega⟩, h7⟩,
    ⟨hx.os, hx.tape, hx.output, hx.size, fun k hk => hx.block k (by omega) (fun e => by have := (h3 k e).1; omega)⟩⟩
  · rcases hf k hk with hk | hk
    · exact h3 k hk
    · exact ⟨by omega, by omega⟩
  · rcases hf k e with e | e
    · exact (h6 k hk).2.2.1 e
    · have := (h6 k hk).2.2.2; omega
/-- What a walk needs: the object's cells, and the list's. -/
theorem IsR9.open (h : IsR9 w n0 p g A fs rl) : ∃ al cl, w.heap[p]? = some (.cells #[.pointer (some ⟨g, 0, none⟩), .slice al rl.length cl] 59 (0, 0)) ∧ rl.length ≤ cl ∧ cl ≤ maxLen ∧ Reads w 1 (.slice al rl.length cl) rl.length (ints rl) ∧
    (.slice al rl.length cl = Value.slice none 0 0 ∨ ∃ bl o n c, Value.slice al rl.length cl = .slice (some ⟨bl, o, none⟩) n c) ∧ (∀ bl o, al = some ⟨bl, o, none⟩ → bl < w.heap.size ∧ bl ≠ p ∧ ∀ (i : Nat) (x : Int), rl[i]? = some x → w.cell? ⟨bl, o + i, none⟩ = some (.int .i64 x)) ∧ (0 < rl.length → ∃ bl o, al = some ⟨bl, o, none⟩) := by
  obtain ⟨R, vs, v, h1, h2, h3, h4, h5, h6, h7⟩ := h.ex
  have h5' := h5
  obtain ⟨_, a, c, rfl, q1, q2, q3⟩ := h5
  refine ⟨a, c, h4, q1, q2, h5', h7, fun bl o e => ?_, fun hn => ?_⟩
  · subst e
    refine ⟨(h6 bl rfl).2.2.2, (h6 bl rfl).2.1, fun i x hx => ?_⟩
    have hi := (List.getElem?_eq_some_iff.1 hx).1
    obtain ⟨b', o', e, hc⟩ := q3 (by omega)
    injection e with e
    injection e with e1 e2
    subst e1 e2
    exact hc i _ (by simp [ints, hx])
  · obtain ⟨b', o', e, _⟩ := q3 hn
    exact ⟨b', o', e⟩
theorem owns_nil (w : World) (e : TypeId) : (w.alloc (.cells #[] e)).ownsRow w.heap.size e 1 (.slice (some ⟨w.heap.size, 0, none⟩) 0 0) 0 [] := ⟨rfl, .inr ⟨w.heap.size, 0, _, rfl, Nat.le_refl _, heap_alloc_new _ _, Nat.le_refl _, Nat.zero_le _, rfl, rfl⟩⟩
theorem r9place_calls (h : IsR9 w n0 p g A fs rl) (t : Int) :
    Calls Try.prog 47 #[.pointer (some ⟨g, 0, none⟩), .int .i64 t] w fun e w' => e = .returned (.int .i64 (A.place t)) ∧ w = w' := by
  obtain ⟨R, vs, v, h1, h2, _⟩ := h.ex
  have := rplace_calls h2 t
  rw [h1.place] at this
  exact this
theorem r9live_calls (h : IsR9 w n0 p g A fs rl) :
    Calls Try.prog 39 #[.pointer (some ⟨g, 0, none⟩)] w fun e w' => ∃ v, e = .returned v ∧ Reads w' 1 v A.live.length (ints A.live) ∧ (∀ k, v.ownBlock = some k → w.heap.size ≤ k) ∧ IsR9 w' n0 p g A fs rl ∧ Below w.heap.size w w' := by
  obtain ⟨R, vs, v, h1, h2, _⟩ := h.ex
  have := rlive_calls h2
  rw [h1.live] at this
  exact this.mono fun _ _ ⟨v, a, b, c, d⟩ => ⟨v, a, b, c, h.below d, d⟩
theorem r9take_calls (h : IsR9 w n0 p g A fs rl) :
    Calls Try.prog 61 #[.pointer (some ⟨g, 0, none⟩)] w fun e w' => e = .returned (.tuple #[.int .i64 A.take.1, .bool A.take.2.1]) ∧ (∃ fs', IsR9 w' n0 p g A.take.2.2 fs' rl) ∧ Below n0 w w' := by
  obtain ⟨R, vs, v, h1, h2, h3, h4, h5⟩ := h.ex
  obtain ⟨x, b, A', R', fs', e1, e2, hs, _⟩ := h1.take
  have ht := rtake_calls h2
  rw [e2] at ht
  rw [e1]
  refine ht.mono fun _ w' ⟨q1, q2⟩ => ?_
  obtain ⟨a1, a2⟩ := r9_setA h.p0 h.nsz h3 h4 h5 hs q2
  exact ⟨q1, ⟨fs', a1⟩, a2⟩
theorem r9free_calls (h : IsR9 w n0 p g A fs rl) (t : Int) :
    Calls Try.prog 62 #[.pointer (some ⟨g, 0, none⟩), .int .i64 t] w fun e w' => e = .returned (.bool (A.giveBack t).1) ∧ (∃ fs', IsR9 w' n0 p g (A.giveBack t).2 fs' rl) ∧ Below n0 w w' := by
  obtain ⟨R, vs, v, h1, h2, h3, h4, h5⟩ := h.ex
  obtain ⟨b, A', R', fs', e1, e2, hs, z1, z2⟩ := h1.freed t
  have ht := rfree_calls h2 t z1 z2
  rw [e2] at ht
  rw [e1]
  refine ht.mono fun _ w' ⟨q1, q2⟩ => ?_
  obtain ⟨a1, a2⟩ := r9_setA h.p0 h.nsz h3 h4 h5 hs q2
  exact ⟨q1, ⟨fs', a1⟩, a2⟩
end
theorem blk_want {rl : List Int} (hnd : rl.Nodup) (t : Int) : wantL rl t rl.length = (blkT rl t).2 ∧ decide ((wantL rl t rl.length).length < rl.length) = (blkT rl t).1 := by
  have e : wantL rl t rl.length = rl.erase t := by
    rw [want_all, hnd.erase_eq_filter]
    congr 1
    funext x
    by_cases h : x = t <;> simp [h]
  rw [e]
  unfold blkT
  by_cases ht : t ∈ rl
  · rw [if_pos ht]
    refine ⟨rfl, ?_⟩
    rw [List.length_erase_of_mem ht]
    have := List.length_pos_of_mem ht
    simp; omega
  · rw [if_neg ht, List.erase_of_not_mem ht]
    simp
section
variable {w : World} {n0 p g : Nat} {A : Ar} {fs : List Nat} {rl : List Int}
set_option maxRecDepth 100000 in
set_option maxHeartbeats 8000000 in
theorem r9block_calls (h : IsR9 w n0 p g A fs rl) (hnd : rl.Nodup) (hn16 : rl.length ≤ 16) (t : Int) :
    Calls Try.prog 43 #[.pointer (some ⟨p, 0, none⟩), .int .i64 t] w fun e w' => e = .returned (.bool (blkT rl t).1) ∧ IsR9 w' n0 p g A fs (blkT rl t).2 ∧ Below n0 w w' := by
  obtain ⟨e1, e2⟩ := blk_want hnd t
  rw [← e1, ← e2]
  obtain ⟨al, cl, hblk, q1, q2, hrd, hsh, hcell, hpos⟩ := h.open
  have c1 : w.cell? ⟨p, 1, none⟩ = some (.slice al rl.length cl) := blk_cell hblk 1
  have hpl := lt_of_block hblk
  obtain ⟨i0, hi, hz0, hz1, hz2⟩ := info_parts Try.info_int
  have HI0 := Lib.hid hi
  have H := Lib.hid h
  have HBK := Lib.hid hblk
  have HC := Lib.hid hcell
  have HP := Lib.hid hpos
  obtain ⟨n, hn⟩ : ∃ n, n = rl.length := ⟨_, rfl⟩
  rw [← hn] at c1 q1 hn16 ⊢
  rw [← hn] at HP
  have HN := Lib.hid hn
  unfold maxLen at q2
  clear hi h hnd e1 e2 hblk hrd hsh hcell hpos hn
  go_enter Try.func43, Try.ntmps43
  go_wp2_with fail
  go_loopw [5, 6] (fun u1 u2 wr => ∃ j : Nat, u2 = .int .i64 j ∧ j ≤ n ∧ wr.ownsRow w.heap.size 3 1 u1 (wantL rl t j).length (ints (wantL rl t j)) ∧ Below w.heap.size w wr) (fun _ u _ => n - (intOf u).toNat)
  case atStart => exact ⟨0, rfl, Nat.zero_le _, ⟨rfl, .inr ⟨w.heap.size, 0, _, rfl, Nat.le_refl _, heap_alloc_new _ _, Nat.le_refl _, Nat.zero_le _, rfl, rfl⟩⟩, plus_one _ _⟩
  case round =>
    obtain ⟨j, rfl, hj, hown, hb⟩ := hrel
    have hwl := want_len rl t j
    rw [← HN.out] at hwl
    have hjz : (0 : Int) ≤ (j : Int) := Int.natCast_nonneg _
    have d1 : wr.cell? ⟨p, 1, none⟩ = some (.slice al n cl) := (hb.cell (p := ⟨p, 1, none⟩) hpl).trans c1
    have HB := Lib.hid hb
    have HOW := Lib.hid hown
    have hsz := hb.size
    clear hb
    by_cases hc : j < n
    · have hc' : (j : Int) < (n : Int) := by omega
      obtain ⟨x, hx⟩ : ∃ x, rl[j]? = some x := ⟨_, List.getElem?_eq_getElem (by rw [← HN.out]; omega)⟩
      obtain ⟨bl, o, rfl⟩ := HP.out (by omega)
      obtain ⟨hbl, _, hcx⟩ := HC.out bl o rfl
      have hxc : wr.cell? ⟨bl, o + j, none⟩ = some (.int .i64 x) := (HB.out.cell (p := ⟨bl, o + j, none⟩) hbl).trans (hcx j x hx)
      clear hcx
      by_cases hxt : x = t
      · have hb : (x != t) = false := by simp [hxt]
        have HX := Lib.hid (show rl[j]? = some t by rw [hx, hxt])
        clear hx hxt hown
        go_wp2_with fail
        go_roundw
        case rel => exact ⟨j + 1, by go_num, by omega, by rw [want_miss HX.out]; exact HOW.out, HB.out⟩
        case measure => simp [intOf]; omega
      · have hb : (x != t) = true := by simp [hxt]
        have HX := Lib.hid (want_hit hx hxt)
        clear hx hxt
        go_wp2_with (at_builtin; refine wpList_append_own _ rfl _ _ 37 rfl w.heap.size 3 i0 (.int .i64 0) 1 8 Try.underlying37 HI0.out hz0 hz1 hz2 rfl (by decide) _ _ _ rfl (hown.alloc _) ⟨wr.heap.size, 0, none⟩ 1 1 [.int .i64 x] rfl rfl ?c1 ?c2 ?c3 ?c4 ?c5 ?_)
        case c1 => exact news_one wr _ _
        case c2 => exact news_int _
        case c3 => unfold maxLen; omega
        case c4 => omega
        case c5 => simp; omega
        intro v' w4 hown' hgr _
        have hb4 : Below w.heap.size w w4 := (HB.out.alloc hsz _).grown hgr (by simp; omega) (fun k hk => (HOW.out.lt k hk).1)
        have HB4 := Lib.hid hb4
        have HO4 := Lib.hid hown'
        clear hb4 hown' hgr hown
        go_wp2_with fail
        go_roundw
        case rel => exact ⟨j + 1, by go_num, by omega, by rw [HX.out, List.length_append, ints_snoc]; exact HO4.out, HB4.out⟩
        case measure => simp [intOf]; omega
    · obtain rfl : j = n := by omega
      have hc' : ¬ (j : Int) < (j : Int) := by omega
      obtain ⟨a, c, rfl, h1, h2, _⟩ := owns_shape hown
      unfold maxLen at h2
      have hfr : wr.frozen? ⟨p, 1, none⟩ = false := blk_free ((HB.out.block p hpl).trans HBK.out) 1
      have HS := Lib.hid (H.out.setR HB.out HOW.out)
      clear hown
      go_wp2_with fail
      go_ret
      exact ⟨by first | rfl | simp, HS.out⟩
set_option maxRecDepth 100000 in
set_option maxHeartbeats 8000000 in
theorem r9ready_calls (h : IsR9 w n0 p g A fs rl) (hlv : ∀ x ∈ rl, 0 ≤ A.place x) (hn16 : rl.length ≤ 16) (t : Int) :
    Calls Try.prog 44 #[.pointer (some ⟨p, 0, none⟩), .int .i64 t] w fun e w' => e = .returned (.bool (rdyT A rl t).1) ∧ IsR9 w' n0 p g A fs (rdyT A rl t).2 ∧ Below n0 w w' := by
  obtain ⟨al, cl, hblk, q1, q2, hrd, hsh, hcell, hpos⟩ := h.open
  have c0 : w.cell? ⟨p, 0, none⟩ = some (.pointer (some ⟨g, 0, none⟩)) := blk_cell hblk 0
  have c1 : w.cell? ⟨p, 1, none⟩ = some (.slice al rl.length cl) := blk_cell hblk 1
  have f1 : w.frozen? ⟨p, 1, none⟩ = false := blk_free hblk 1
  have hpl := lt_of_block hblk
  obtain ⟨i0, hi, hz0, hz1, hz2⟩ := info_parts Try.info_int
  have HI0 := Lib.hid hi
  have H := Lib.hid h
  have HBK := Lib.hid hblk
  have HC := Lib.hid hcell
  have HP := Lib.hid hpos
  have HSH := Lib.hid hsh
  have HRD := Lib.hid hrd
  have HRL := Lib.hid (show ∀ k, (Value.slice al rl.length cl).ownBlock = some k → k < w.heap.size from fun k hk => by
    rcases hsh with e | ⟨bl, o, n', c', e⟩
    · rw [e] at hk; cases hk
    · injection e with e1
      subst e1
      simp only [Value.ownBlock, Option.some.injEq] at hk
      subst hk
      exact (hcell bl o rfl).1)
  have HLV := Lib.hid hlv
  obtain ⟨n, hn⟩ : ∃ n, n = rl.length := ⟨_, rfl⟩
  rw [← hn] at c1 q1 hn16 HP HSH HRD HRL
  have HN := Lib.hid hn
  unfold maxLen at q2
  have HPL := Lib.hid (r9place_calls h t)
  clear hi h hblk hrd hsh hcell hpos hn hlv
  go_enter Try.func44, Try.ntmps44
  go_wp2_with fail
  go_loop [5] (fun u => ∃ j : Nat, u = .int .i64 j ∧ j ≤ n ∧ t ∉ rl.take j) (fun u => n - (intOf u).toNat)
  case atStart => exact ⟨0, rfl, Nat.zero_le _, by simp⟩
  case round =>
    obtain ⟨j, rfl, hj, hno⟩ := hrel
    have HNO := Lib.hid hno
    have hjz : (0 : Int) ≤ (j : Int) := Int.natCast_nonneg _
    clear hno
    by_cases hc : j < n
    · have hc' : (j : Int) < (n : Int) := by omega
      obtain ⟨x, hx⟩ : ∃ x, rl[j]? = some x := ⟨_, List.getElem?_eq_getElem (by rw [← HN.out]; omega)⟩
      obtain ⟨bl, o, rfl⟩ := HP.out (by omega)
      obtain ⟨hbl, _, hcx⟩ := HC.out bl o rfl
      have hxc : w.cell? ⟨bl, o + j, none⟩ = some (.int .i64 x) := hcx j x hx
      clear hcx
      by_cases hxt : x = t
      · have hb : (x == t) = true := by simp [hxt]
        have hv : rdyT A rl t = (false, rl) := by
          unfold rdyT
          rw [if_neg (fun hh => hh.2 (by rw [← hxt]; exact List.mem_of_getElem? hx))]
        have HV := Lib.hid hv
        clear hx hxt hv
        go_wp2_with fail
        go_ret
        rw [HV.out]
        exact ⟨rfl, H.out, Below.refl _ _⟩
      · have hb : (x == t) = false := by simp [hxt]
        have HX := Lib.hid (show t ∉ rl.take (j + 1) by
          rw [List.take_add_one, hx, Option.toList_some, List.mem_append, List.mem_singleton]
          rintro (h | h)
          · exact HNO.out h
          · exact hxt h.symm)
        clear hx hxt
        go_wp2_with fail
        go_round
        case rel => exact ⟨j + 1, by go_num, by omega, HX.out⟩
        case measure => simp [intOf]; omega
    · obtain rfl : j = n := by omega
      have hc' : ¬ (j : Int) < (j : Int) := by omega
      have hno : t ∉ rl := by
        have := HNO.out
        rwa [List.take_of_length_le (by rw [← HN.out]; exact Nat.le_refl _)] at this
      by_cases hp0 : A.place t < 0
      · have HV := Lib.hid (show rdyT A rl t = (false, rl) by unfold rdyT; rw [if_neg (by omega)])
        have HP2 := Lib.hid HPL.out
        clear hno HPL
        generalize A.place t = pl at *
        go_wp2_with fail
        refine HP2.out.mono ?_
        rintro e w' ⟨rfl, rfl⟩
        go_wp2_with fail
        go_ret
        rw [HV.out]
        exact ⟨rfl, H.out, Below.refl _ _⟩
      · have HV := Lib.hid (show rdyT A rl t = (true, rl ++ [t]) by unfold rdyT; rw [if_pos ⟨by omega, hno⟩])
        clear hno
        generalize A.place t = pl at HPL hp0
        go_wp2_with fail
        refine HPL.out.mono ?_
        rintro e w' ⟨rfl, rfl⟩
        go_wp2_with (at_builtin; go_loud (refine wpList_append_from (by rfl) (.tmp 32) (.tmp 36) 37 (by rfl) w.heap.size 3 i0 (.int .i64 0) 1 8 Try.underlying37 HI0.out hz0 hz1 hz2 rfl (by decide) (.slice (some ⟨w.heap.size, 0, none⟩) 0 0) 0 [] (by rfl) (owns_nil w _) (.slice al j cl) j (ints rl) (by rfl) (HRD.out.frame (fun k hk => Below.heap_alloc _ _ _ (HRL.out k hk))) HSH.out (ints_one _) (by unfold maxLen; omega) (by omega) (by simp) ?_))
        intro v13 w13 own13 gr13 at13
        have hb13 : Below w.heap.size w w13 := ((Below.refl _ _).alloc (Nat.le_refl _) _).grown gr13 (by simp) (fun k hk => by simp only [Value.ownBlock, Option.some.injEq] at hk; omega)
        have s13 := hb13.size
        have o13 := own13.alloc (.cells #[.int .i64 t] 3)
        have HO13 := Lib.hid own13
        have HB13 := Lib.hid hb13
        clear own13 gr13 at13 hb13
        go_wp2_with (at_builtin; refine wpList_append_own _ rfl (.tmp 37) (.tmp 39) 37 rfl w.heap.size 3 i0 (.int .i64 0) 1 8 Try.underlying37 HI0.out hz0 hz1 hz2 rfl (by decide) v13 _ _ rfl o13 ⟨w13.heap.size, 0, none⟩ 1 1 [.int .i64 t] rfl rfl ?c1 ?c2 ?c3 ?c4 ?c5 ?_)
        case c1 => exact news_one w13 _ _
        case c2 => exact news_int _
        case c3 => unfold maxLen; omega
        case c4 => omega
        case c5 => simp; omega
        intro v14 w14 own14 gr14 _
        obtain ⟨a14, k14, rfl, -, -, -⟩ := owns_shape own14
        have hb14 : Below w.heap.size w w14 := (HB13.out.alloc s13 _).grown gr14 (by simp; omega) (fun k hk => (HO13.out.lt k hk).1)
        have hf14 : w14.frozen? ⟨p, 1, none⟩ = false := blk_free ((hb14.block p hpl).trans HBK.out) 1
        have hc14 := (hb14.cell (p := ⟨p, 1, none⟩) hpl).trans c1
        have o14 : w14.ownsRow w.heap.size 3 1 (.slice a14 (j + 1) k14) (rl ++ [t]).length (ints (rl ++ [t])) := by
          rw [ints_snoc, List.length_append, ← HN.out]
          simpa using own14
        have HS := Lib.hid (H.out.setR hb14 o14)
        clear own14 gr14 hb14 o14 o13
        go_wp2_with fail
        go_ret
        rw [HV.out]
        exact ⟨rfl, HS.out⟩
theorem rdy_of_blk {A : Ar} {rl : List Int} {t : Int} (hlv : ∀ x ∈ rl, 0 ≤ A.place x) (hnd : rl.Nodup) (ht : t ∈ rl) : rdyT A (rl.erase t) t = (true, rl.erase t ++ [t]) := by
  unfold rdyT
  rw [if_pos ⟨hlv t ht, fun h => ((List.Nodup.mem_erase_iff hnd).1 h).1 rfl⟩]
set_option maxRecDepth 100000 in
set_option maxHeartbeats 8000000 in
theorem r9yield_calls (h : IsR9 w n0 p g A fs rl) (hnd : rl.Nodup) (hlv : ∀ x ∈ rl, 0 ≤ A.place x) (hn16 : rl.length ≤ 16) (t : Int) :
    Calls Try.prog 42 #[.pointer (some ⟨p, 0, none⟩), .int .i64 t] w fun e w' => e = .returned (.bool (yldT rl t).1) ∧ IsR9 w' n0 p g A fs (yldT rl t).2 ∧ Below n0 w w' := by
  have hns := h.nsz
  by_cases ht : t ∈ rl
  · have hb := r9block_calls h hnd hn16 t
    have hv : blkT rl t = (true, rl.erase t) := by unfold blkT; rw [if_pos ht]
    rw [hv] at hb
    have hr := fun (w1 : World) (h1 : IsR9 w1 n0 p g A fs (rl.erase t)) => r9ready_calls h1 (fun x hx => hlv x (List.mem_of_mem_erase hx)) (Nat.le_trans (List.erase_sublist (a := t) (l := rl)).length_le hn16) t
    rw [rdy_of_blk hlv hnd ht] at hr
    rw [show yldT rl t = (true, rl.erase t ++ [t]) by unfold yldT; rw [if_pos ht]]
    have HB := Lib.hid hb
    have HR := Lib.hid hr
    clear h hnd hlv ht hb hv hr
    go_enter Try.func42, Try.ntmps42
    go_wp2_with fail
    refine HB.out.mono ?_
    rintro e w1 ⟨rfl, h1, hb1⟩
    have HR1 := Lib.hid (HR.out w1 h1)
    have HB1 := Lib.hid hb1
    clear h1 hb1
    go_wp2_with fail
    refine HR1.out.mono ?_
    rintro e w2 ⟨rfl, h2, hb2⟩
    have H2 := Lib.hid h2
    have HB2 := Lib.hid (HB1.out.trans hb2)
    clear h2 hb2
    go_wp2_with fail
    go_ret
    exact ⟨rfl, H2.out, HB2.out⟩
  · have hb := r9block_calls h hnd hn16 t
    rw [show blkT rl t = (false, rl) by unfold blkT; rw [if_neg ht]] at hb
    rw [show yldT rl t = (false, rl) by unfold yldT; rw [if_neg ht]]
    have HB := Lib.hid hb
    clear h hnd hlv ht hb
    go_enter Try.func42, Try.ntmps42
    go_wp2_with fail
    refine HB.out.mono ?_
    rintro e w1 ⟨rfl, h1, hb1⟩
    have H1 := Lib.hid h1
    have HB1 := Lib.hid hb1
    clear h1 hb1
    go_wp2_with fail
    go_ret
    exact ⟨rfl, H1.out, HB1.out⟩
set_option maxRecDepth 100000 in
set_option maxHeartbeats 8000000 in
theorem r9exit_calls (h : IsR9 w n0 p g A fs rl) (hnd : rl.Nodup) (hlv : ∀ x ∈ rl, 0 ≤ A.place x) (hn16 : rl.length ≤ 16) (t : Int) :
    Calls Try.prog 41 #[.pointer (some ⟨p, 0, none⟩), .int .i64 t] w fun e w' => e = .returned (.bool (decide (0 ≤ A.place t))) ∧ (∃ fs', IsR9 w' n0 p g (extA A t) fs' (extR A rl t)) ∧ Below n0 w w' := by
  have hb := r9block_calls h hnd hn16 t
  have hv : (blkT rl t).2 = extR A rl t := by
    unfold blkT extR
    by_cases ht : t ∈ rl
    · rw [if_pos ht, if_pos (hlv t ht)]
    · rw [if_neg ht]
      split
      · rw [List.erase_of_not_mem ht]
      · rfl
  rw [hv] at hb
  have hf := fun (w1 : World) (h1 : IsR9 w1 n0 p g A fs (extR A rl t)) => r9free_calls h1 t
  have hg : A.giveBack t = (decide (0 ≤ A.place t), extA A t) := by
    unfold extA
    by_cases h0 : A.place t < 0
    · rw [if_pos h0]
      unfold Ar.giveBack
      rw [if_pos h0, decide_eq_false (by omega)]
    · rw [if_neg h0]
      unfold Ar.giveBack
      rw [if_neg h0, decide_eq_true (by omega)]
  rw [hg] at hf
  have HB := Lib.hid hb
  have HF := Lib.hid hf
  generalize decide (0 ≤ A.place t) = ok at *
  generalize extR A rl t = rl2 at *
  generalize extA A t = A2 at *
  generalize (blkT rl t).1 = ok1 at *
  clear h hnd hlv hb hf hg hv
  go_enter Try.func41, Try.ntmps41
  go_wp2_with fail
  refine HB.out.mono ?_
  rintro e w1 ⟨rfl, h1, hb1⟩
  obtain ⟨al, cl, hblk, _⟩ := h1.open
  have c0 : w1.cell? ⟨p, 0, none⟩ = some (.pointer (some ⟨g, 0, none⟩)) := blk_cell hblk 0
  have HF1 := Lib.hid (HF.out w1 h1)
  have HB1 := Lib.hid hb1
  clear h1 hb1 hblk
  go_wp2_with fail
  refine HF1.out.mono ?_
  rintro e w2 ⟨rfl, h2, hb2⟩
  have H2 := Lib.hid h2
  have HB2 := Lib.hid (HB1.out.trans hb2)
  clear h2 hb2
  go_wp2_with fail
  go_ret
  exact ⟨rfl, H2.out, HB2.out⟩
set_option maxRecDepth 100000 in
set_option maxHeartbeats 8000000 in
theorem r9pick_calls (h : IsR9 w n0 p g A fs rl) (m : Int) :
    Calls Try.prog 45 #[.pointer (some ⟨p, 0, none⟩), .int .i64 m] w fun e w' => e = .returned (.tuple #[.int .i64 (pickS rl m).1, .bool (pickS rl m).2]) ∧ w = w' := by
  obtain ⟨al, cl, hblk, q1, q2, hrd, hsh, hcell, hpos⟩ := h.open
  have c1 : w.cell? ⟨p, 1, none⟩ = some (.slice al rl.length cl) := blk_cell hblk 1
  obtain ⟨n, hn⟩ : ∃ n, n = rl.length := ⟨_, rfl⟩
  have HC := Lib.hid hcell
  have HP := Lib.hid hpos
  rw [← hn] at c1 q1 HP
  have HN := Lib.hid hn
  unfold maxLen at q2
  clear h hblk hrd hsh hcell hpos hn
  by_cases h0 : m < 0
  · have hv : pickS rl m = (0, false) := by unfold pickS; rw [if_neg (by omega)]
    have HV := Lib.hid hv
    clear hv
    go_enter Try.func45, Try.ntmps45
    go_wp2_with fail
    go_ret2
    rw [HV.out]
    exact ⟨rfl, rfl⟩
  · obtain ⟨i, rfl⟩ : ∃ i : Nat, m = i := ⟨m.toNat, by omega⟩
    have iz : (0 : Int) ≤ (i : Int) := Int.natCast_nonneg _
    by_cases h1 : i < n
    · have h1' : (i : Int) < (n : Int) := by omega
      have h1'' : ¬ (n : Int) ≤ (i : Int) := by omega
      obtain ⟨x, hx⟩ : ∃ x, rl[i]? = some x := ⟨_, List.getElem?_eq_getElem (by rw [← HN.out]; exact h1)⟩
      obtain ⟨bl, o, rfl⟩ := HP.out (by omega)
      have kx := (HC.out bl o rfl).2.2 i x hx
      have hv : pickS rl i = (x, true) := by
        unfold pickS
        rw [if_pos ⟨by omega, by rw [← HN.out]; omega⟩, Int.toNat_natCast, List.getD_eq_getElem?_getD, hx]
        rfl
      have HV := Lib.hid hv
      clear hv hx
      go_enter Try.func45, Try.ntmps45
      go_wp2_with fail
      go_ret2
      rw [HV.out]
      exact ⟨rfl, rfl⟩
    · have h1' : (n : Int) ≤ (i : Int) := by omega
      have hv : pickS rl i = (0, false) := by unfold pickS; rw [if_neg (by rw [← HN.out]; omega)]
      have HV := Lib.hid hv
      clear hv
      go_enter Try.func45, Try.ntmps45
      go_wp2_with fail
      go_ret2
      rw [HV.out]
      exact ⟨rfl, rfl⟩
theorem IsR9.good (h : IsR9 w n0 p g A fs rl) : Good A fs := by
  obtain ⟨R, vs, v, h1, _⟩ := h.ex
  exact h1.good
set_option maxRecDepth 100000 in
set_option maxHeartbeats 8000000 in
theorem r9spawn_calls (h : IsR9 w n0 p g A fs rl) (hn16 : rl.length ≤ 16) :
    Calls Try.prog 40 #[.pointer (some ⟨p, 0, none⟩)] w fun e w' => e = .returned (.tuple #[.int .i64 A.take.1, .bool A.take.2.1]) ∧ (∃ fs', IsR9 w' n0 p g (spnA A) fs' (spnR A rl)) ∧ Below n0 w w' := by
  have hgood := h.good
  have htk := r9take_calls h
  obtain ⟨al0, cl0, hblk0, _⟩ := h.open
  have c0 : w.cell? ⟨p, 0, none⟩ = some (.pointer (some ⟨g, 0, none⟩)) := blk_cell hblk0 0
  obtain ⟨i0, hi, hz0, hz1, hz2⟩ := info_parts Try.info_int
  have HI0 := Lib.hid hi
  clear hblk0 hi
  cases fs with
  | nil =>
    have hk : A.take = (0, false, A) := hgood.take_none
    have hA : spnA A = A := by unfold spnA; rw [hk]; rfl
    have hR : spnR A rl = rl := by unfold spnR; rw [hk]; rfl
    rw [hA, hR]
    rw [hk] at htk ⊢
    have HTK := Lib.hid htk
    clear htk hk hA hR h hgood
    go_enter Try.func40, Try.ntmps40
    go_wp2_with fail
    refine HTK.out.mono ?_
    rintro e w2 ⟨rfl, h2, hb2⟩
    have H2 := Lib.hid h2
    have HB2 := Lib.hid hb2
    clear h2 hb2
    go_wp2_with fail
    go_ret2
    exact ⟨rfl, H2.out, HB2.out⟩
  | cons i fs =>
    obtain ⟨t, A', hk, hg, hp, hn, hbut, hno, ht1, ht2, hl⟩ := take_facts hgood
    have hA : spnA A = A' := by unfold spnA; rw [hk]; rfl
    have hR : spnR A rl = rl ++ [t] := by unfold spnR; rw [hk]; rfl
    rw [hA, hR]
    rw [hk] at htk ⊢
    have HTK := Lib.hid htk
    clear htk hk hA hR h hgood hg hp hn hbut hno hl
    go_enter Try.func40, Try.ntmps40
    go_wp2_with fail
    refine HTK.out.mono ?_
    rintro e w2 ⟨rfl, ⟨fs2, h⟩, hb2⟩
    obtain ⟨al, cl, hblk, q1, q2, hrd, hsh, hcell, hpos⟩ := h.open
    have c1 : w2.cell? ⟨p, 1, none⟩ = some (.slice al rl.length cl) := blk_cell hblk 1
    have f1 : w2.frozen? ⟨p, 1, none⟩ = false := blk_free hblk 1
    have hpl2 := lt_of_block hblk
    have H := Lib.hid h
    have HBK := Lib.hid hblk
    have HSH := Lib.hid hsh
    have HRD := Lib.hid hrd
    have HB2 := Lib.hid hb2
    have HRL := Lib.hid (show ∀ k, (Value.slice al rl.length cl).ownBlock = some k → k < w2.heap.size from fun k hk => by
      rcases hsh with e | ⟨bl, o, n', c', e⟩
      · rw [e] at hk; cases hk
      · injection e with e1
        subst e1
        simp only [Value.ownBlock, Option.some.injEq] at hk
        subst hk
        exact (hcell bl o rfl).1)
    obtain ⟨n, hn⟩ : ∃ n, n = rl.length := ⟨_, rfl⟩
    rw [← hn] at c1 q1 hn16 HSH HRD HRL
    have HN := Lib.hid hn
    unfold maxLen at q2
    clear h hblk hrd hsh hcell hpos hn hb2 HTK
    go_wp2_with (at_builtin; go_loud (refine wpList_append_from (by rfl) (.tmp 16) (.tmp 20) 37 (by rfl) w2.heap.size 3 i0 (.int .i64 0) 1 8 Try.underlying37 HI0.out hz0 hz1 hz2 rfl (by decide) (.slice (some ⟨w2.heap.size, 0, none⟩) 0 0) 0 [] (by rfl) (owns_nil w2 _) (.slice al n cl) n (ints rl) (by rfl) (HRD.out.frame (fun k hk => Below.heap_alloc _ _ _ (HRL.out k hk))) HSH.out (ints_one _) (by unfold maxLen; omega) (by omega) (by simp) ?_))
    intro v13 w13 own13 gr13 at13
    have hb13 : Below w2.heap.size w2 w13 := ((Below.refl _ _).alloc (Nat.le_refl _) _).grown gr13 (by simp) (fun k hk => by simp only [Value.ownBlock, Option.some.injEq] at hk; omega)
    have s13 := hb13.size
    have o13 := own13.alloc (.cells #[.int .i64 t] 3)
    have HO13 := Lib.hid own13
    have HB13 := Lib.hid hb13
    clear own13 gr13 at13 hb13
    go_wp2_with (at_builtin; refine wpList_append_own _ rfl (.tmp 21) (.tmp 23) 37 rfl w2.heap.size 3 i0 (.int .i64 0) 1 8 Try.underlying37 HI0.out hz0 hz1 hz2 rfl (by decide) v13 _ _ rfl o13 ⟨w13.heap.size, 0, none⟩ 1 1 [.int .i64 t] rfl rfl ?c1 ?c2 ?c3 ?c4 ?c5 ?_)
    case c1 => exact news_one w13 _ _
    case c2 => exact news_int _
    case c3 => unfold maxLen; omega
    case c4 => omega
    case c5 => simp; omega
    intro v14 w14 own14 gr14 _
    obtain ⟨a14, k14, rfl, -, -, -⟩ := owns_shape own14
    have hb14 : Below w2.heap.size w2 w14 := (HB13.out.alloc s13 _).grown gr14 (by simp; omega) (fun k hk => (HO13.out.lt k hk).1)
    have hf14 : w14.frozen? ⟨p, 1, none⟩ = false := blk_free ((hb14.block p hpl2).trans HBK.out) 1
    have hc14 := (hb14.cell (p := ⟨p, 1, none⟩) hpl2).trans c1
    have o14 : w14.ownsRow w2.heap.size 3 1 (.slice a14 (n + 1) k14) (rl ++ [t]).length (ints (rl ++ [t])) := by
      rw [ints_snoc, List.length_append, ← HN.out]
      simpa using own14
    have HS := Lib.hid (H.out.setR hb14 o14)
    clear own14 gr14 hb14 o14 o13
    go_wp2_with fail
    go_ret2
    exact ⟨rfl, ⟨fs2, HS.out.1⟩, HB2.out.trans HS.out.2⟩
end
theorem isR9_made {w w1 : World} {g n : Nat} {vs : List Value} (hn : n ≤ 16) (hR : IsRf w1 g (Rf.new n) vs) (hf : ∀ k, foot g (rfFields (Rf.new n)) vs k → w.heap.size ≤ k) (hb : Below w.heap.size w w1) :
    IsR9 (w1.alloc (.cells #[.pointer (some ⟨g, 0, none⟩), .slice none 0 0] 59)) w.heap.size w1.heap.size g (Ar.new n) (List.range' 0 n) [] := by
  have hsz := hb.size
  have hlt := hR.2.lt
  have hs := Sim.new n
  rw [show (max 0 (min (n : Int) 16)).toNat = n by omega] at hs
  refine ⟨hsz, by simp; omega, _, vs, .slice none 0 0, hs, hR.frameF (fun k hk => Below.heap_alloc _ _ _ (hlt k hk)), fun k hk => ⟨hf k hk, by have := hlt k hk; omega⟩, by simpa using heap_alloc_new w1 _, Reads.nil _ _, (fun k hk => by cases hk), .inl rfl⟩
set_option maxRecDepth 100000 in
set_option maxHeartbeats 8000000 in
theorem r9new_calls (q : Int) (w : World) :
    Calls Try.prog 37 #[.int .i64 q] w fun e w' => ∃ p g fs', e = .returned (.pointer (some ⟨p, 0, none⟩)) ∧ IsR9 w' w.heap.size p g (spnA (Ar.new (quotaN q))) fs' [1] ∧ Below w.heap.size w w' := by
  obtain ⟨n, hn⟩ : ∃ n : Nat, n = quotaN q := ⟨_, rfl⟩
  rw [← hn]
  have hcase : (q < 1 ∧ n = 1) ∨ (1 ≤ q ∧ q ≤ 8 ∧ q = n) ∨ (8 < q ∧ n = 8) := by unfold quotaN at hn; omega
  have hn1 : 1 ≤ n ∧ n ≤ 8 := by omega
  have HN1 := Lib.hid hn1
  have HRN := Lib.hid (fun u : World => rnew_calls n u (by omega) (by omega))
  have HCA := Lib.hid hcase
  clear hn hn1 hcase
  go_enter Try.func37, Try.ntmps37
  obtain ⟨q2, hq2⟩ : ∃ q2 : Int, q2 = if q < 1 then 1 else q := ⟨_, rfl⟩
  have HQ2 := Lib.hid hq2
  clear hq2
  go_upto_if 5 with (fail)
  go_cut [0] (fun s wc => s = .int .i64 q2 ∧ w = wc)
  case first =>
    have hq2 := HQ2.out
    by_cases h : q < 1
    all_goals
      first | rw [if_pos h] at hq2 | rw [if_neg h] at hq2
      subst hq2
      go_wp2_with fail
      go_meet
      exact ⟨rfl, rfl⟩
  case rest =>
  obtain ⟨rfl, rfl⟩ := hcut
  go_upto_if 7 with (fail)
  go_cut [0] (fun s wc => s = .int .i64 n ∧ w = wc)
  case first =>
    have hq2 := HQ2.out
    have hq3 : (8 < q2 ∧ n = 8) ∨ (q2 ≤ 8 ∧ q2 = n) := by
      rcases HCA.out with ⟨h1, h2⟩ | ⟨h1, h2, h3⟩ | ⟨h1, h2⟩ <;> (split at hq2 <;> omega)
    clear hq2
    rcases hq3 with ⟨h1, rfl⟩ | ⟨h1, rfl⟩
    · go_wp2_with fail
      go_meet
      exact ⟨rfl, rfl⟩
    · go_wp2_with fail
      go_meet
      exact ⟨rfl, rfl⟩
  case rest =>
    obtain ⟨rfl, rfl⟩ := hcut
    clear HCA HQ2
    go_wp2_with fail
    refine (HRN.out _).mono ?_
    rintro e w1 ⟨g, vs, rfl, hR, hf, hb⟩
    have h9 := isR9_made (by have := HN1.out; omega) hR hf hb
    have hsp := r9spawn_calls h9 (by simp)
    obtain ⟨k1, k2⟩ := new_take n HN1.out
    have hR : spnR (Ar.new n) [] = [1] := by unfold spnR; rw [k2, k1]; rfl
    rw [hR] at hsp
    have HSP := Lib.hid hsp
    have HB := Lib.hid (hb.alloc hb.size (.cells #[.pointer (some ⟨g, 0, none⟩), .slice none 0 0] 59))
    clear hsp k1 k2 hR hf hb h9
    generalize (Ar.new ↑n).take.1 = x1 at HSP
    generalize (Ar.new ↑n).take.2.1 = x2 at HSP
    go_wp2_with fail
    refine HSP.out.mono ?_
    rintro e w2 ⟨rfl, ⟨fs', h2⟩, hb2⟩
    have H2 := Lib.hid h2
    have HB2 := Lib.hid (HB.out.trans hb2)
    clear h2 hb2
    go_wp2_with fail
    go_ret
    exact ⟨_, _, fs', rfl, H2.out, HB2.out⟩
end Go.Proofs.Ytkiogbenbicghaa
