/- What arena.Live and arena.New do. Condition of Live: the arena lies in memory. -/
import Derived.Test.YtkiogbenbicghaaArena
namespace Go.Proofs.Ytkiogbenbicghaa
open Go.RowKit

theorem live_nil (w : World) : Calls Try.prog 63 #[.pointer none] w fun e w' => e = .returned (.slice none 0 0) ∧ w = w' := by
  go_enter Try.func63, Try.ntmps63
  go_wp2
  go_ret
  exact ⟨rfl, rfl⟩

/-- The handles of the first k places. -/
def liveTo (l : List APlace) (k : Nat) : List Int := (((l.zipIdx).take k).filter (fun p => p.1.taken)).map (fun p => 1 + (p.2 : Int) + 16 * p.1.gen)
theorem liveTo_all (A : Ar) : liveTo A.list A.list.length = A.live := by
  unfold liveTo Ar.live
  rw [List.take_of_length_le (by simp)]
theorem liveTo_succ (l : List APlace) (k : Nat) (p : APlace) (h : l[k]? = some p) : liveTo l (k + 1) = liveTo l k ++ if p.taken then [1 + (k : Int) + 16 * p.gen] else [] := by
  unfold liveTo
  rw [List.take_add_one]
  simp only [List.filter_append, List.map_append, List.getElem?_zipIdx, h]
  cases hp : p.taken <;> simp [hp]
theorem liveTo_len (l : List APlace) (k : Nat) : (liveTo l k).length ≤ l.length := by
  unfold liveTo
  rw [List.length_map]
  exact Nat.le_trans (List.length_filter_le _ _) (by simp; exact Nat.min_le_right _ _)

theorem live_skip {l : List APlace} {k : Nat} {p : APlace} (h : l[k]? = some p) (hp : p.taken = false) : liveTo l (k + 1) = liveTo l k := by rw [liveTo_succ l k p h, hp]; simp
theorem live_take {l : List APlace} {k : Nat} {p : APlace} (h : l[k]? = some p) (hp : p.taken = true) : liveTo l (k + 1) = liveTo l k ++ [1 + (k : Int) + 16 * p.gen] := by rw [liveTo_succ l k p h, hp]; simp

set_option maxHeartbeats 4000000 in
theorem live_calls {w : World} {g : Nat} {A : Ar} {F : Nat → Prop} (hA : IsArena w g A F) :
    Calls Try.prog 63 #[.pointer (some ⟨g, 0, none⟩)] w fun e w' => ∃ v, e = .returned v ∧ Reads w' 1 v A.live.length (ints A.live) ∧ (∀ k, v.ownBlock = some k → w.heap.size ≤ k) ∧ Below w.heap.size w w' := by
  have hlt := hA.lt
  obtain ⟨ok, v, hg, ho, hne, hF⟩ := hA
  have hgl := hlt g ((hF g).2 (.inl rfl))
  have hvl : ∀ k, v.ownBlock = some k → k < w.heap.size := fun k hk => hlt k ((hF k).2 (.inr hk))
  clear hlt hF
  obtain ⟨a, cap, rfl, hnc, hcm, hpos⟩ := owns_shape ho
  have c0 : w.cell? ⟨g, 0, none⟩ = some (.slice a A.list.length cap) := blk_cell hg 0
  have hsz := ok.size
  obtain ⟨i0, hi, hz0, hz1, hz2⟩ := info_parts Try.info_int
  have HA := Lib.hid (liveTo_all A)
  obtain ⟨len, hlen⟩ : ∃ len, len = A.list.length := ⟨_, rfl⟩
  rw [← hlen] at c0 hnc hsz ho hpos hvl
  have HL := Lib.hid hlen
  have HI := Lib.hid hi
  clear hi hlen
  go_enter Try.func63, Try.ntmps63
  go_wp2_with fail
  go_loopw [3, 13] (fun v i wr => ∃ k : Nat, k ≤ len ∧ i = .int .i64 k ∧ wr.ownsRow w.heap.size 3 1 v (liveTo A.list k).length (ints (liveTo A.list k)) ∧ Below w.heap.size w wr)
    (fun _ i _ => len - (intOf i).toNat)
  case atStart => exact ⟨0, Nat.zero_le _, rfl, World.ownsRow_nil _ _ _ _, Below.refl _ _⟩
  case round =>
    obtain ⟨k, hk, rfl, hown, hbel⟩ := hrel
    by_cases hlt : k < len
    · obtain ⟨b, rfl⟩ := hpos (by omega)
      have hbl := hvl b rfl
      obtain ⟨d0, d1, d2⟩ := arena_cells (by rw [HL.out] at ho; exact ho) k (by rw [← HL.out]; exact hlt)
      have hm := arena_mem (A := A) (i := k) (by rw [← HL.out]; exact hlt)
      have g0 := ok.gen0 _ hm
      have g1 := ok.gen1 _ hm
      have hpk := Lib.hid (show A.list[k]? = some (A.at k) by simp [Ar.at, List.getElem?_eq_getElem (show k < A.list.length by rw [← HL.out]; exact hlt)])
      obtain ⟨p, hp⟩ : ∃ p, p = A.at k := ⟨_, rfl⟩
      rw [← hp] at d0 d1 d2 g0 g1 hpk
      clear hp hm
      have hll := liveTo_len A.list k
      rw [← HL.out] at hll
      have e0 := (hbel.cell (p := ⟨b, k * 3, none⟩) hbl).trans d0
      have e1 := (hbel.cell (p := ⟨b, k * 3 + 1, none⟩) hbl).trans d1
      have e2 := (hbel.cell (p := ⟨b, k * 3 + 2, none⟩) hbl).trans d2
      have e3 := (hbel.cell (p := ⟨g, 0, none⟩) hgl).trans c0
      have hs := hbel.size
      clear d1 d2
      cases hT : p.taken
      · rw [hT] at e2
        have HS := Lib.hid (live_skip hpk.out hT)
        clear hT
        go_wp2
        go_roundw
        case rel => exact ⟨k + 1, by omega, by go_num, by rw [HS.out]; exact hown.alloc _, hbel.alloc (by omega) _⟩
        case measure => simp [intOf]; omega
      · rw [hT] at e2
        have HS := Lib.hid (live_take hpk.out hT)
        clear hT
        go_wp2_with fail
        refine (handle_calls (b := b) (n := len) (cap := cap) (gen := p.gen) hlt hsz g0 g1 (((hbel.alloc hs _).cell (p := ⟨g, 0, none⟩) hgl).trans c0) (((hbel.alloc hs _).cell (p := ⟨b, k * 3, none⟩) hbl).trans d0)).mono ?_
        rintro e w' ⟨rfl, rfl⟩
        go_wp2_with (at_builtin; refine wpList_append_own _ rfl _ _ 37 rfl w.heap.size 3 i0 (.int .i64 0) 1 8 Try.underlying37 HI.out hz0 hz1 hz2 rfl (by decide) _ _ _ rfl ((hown.alloc _).alloc _) _ 1 1 [.int .i64 (1 + (k : Int) + 16 * p.gen)] rfl rfl ?c1 ?c2 ?c3 ?c4 ?c5 ?_)
        case c1 => exact news_at _ _ _ _ (by simp)
        case c2 => exact news_int _
        case c3 => unfold maxLen; omega
        case c4 => omega
        case c5 => simp; omega
        intro v' w1 hown' hgrow _
        go_wp2
        go_roundw
        case rel =>
          refine ⟨k + 1, by omega, by go_num, by rw [HS.out, ints_snoc, List.length_append]; exact hown', ?_⟩
          refine ((hbel.alloc (by omega) _).alloc (by simp; omega) _).grown hgrow (by simp; omega) (fun j hj => ?_)
          exact ((hown.lt j hj).1)
        case measure => simp [intOf]; omega
    · obtain rfl : k = len := by omega
      rw [HL.out, HA.out] at hown
      have e3 := (hbel.cell (p := ⟨g, 0, none⟩) hgl).trans c0
      obtain ⟨a', cap', rfl, h1, h2, h3⟩ := owns_shape hown
      have hr := Reads.of_owns hown
      have HB := Lib.hid hown
      clear hown
      go_wp2_with fail
      refine (clip_ints h1 h2).mono ?_
      rintro e w' ⟨rfl, rfl⟩
      go_wp2
      go_ret
      refine ⟨_, rfl, ⟨hr.1, _, _, rfl, Nat.le_refl _, by omega, ?_⟩, fun j hj => ?_, hbel⟩
      · obtain ⟨_, a2, cap2, he, _, _, h4⟩ := hr
        injection he with ha hb hc
        subst ha
        exact h4
      · refine (HB.out.lt j ?_).1
        cases a' with
        | none => simp [Value.ownBlock] at hj
        | some x => simpa [Value.ownBlock] using hj

theorem Try.info_place : (Try.prog.info? 93).map (fun i => (i.zero, i.size, i.bytes)) = some (some (.agg #[.int .i64 0, .int .i64 0, .bool false]), 3, 24) := by kernel_rfl

/-- The places while they are linked: the last k of them are. -/
def linked (m k : Nat) : List APlace := (List.range m).map (fun j => ⟨0, if m - k ≤ j ∧ j + 1 < m then ((j + 1 : Nat) : Int) else -1, false⟩)
def firstFree (m k : Nat) : Int := if k = 0 then -1 else ((m - k : Nat) : Int)
theorem linked_len (m k : Nat) : (linked m k).length = m := by simp [linked]
theorem linked_zero (m : Nat) : linked m 0 = List.replicate m ⟨0, -1, false⟩ := by
  apply List.ext_getElem
  · simp [linked]
  · intro i h1 h2
    simp only [linked, List.getElem_map, List.getElem_range, List.getElem_replicate]
    rw [if_neg (by simp [linked] at h1; omega)]
theorem linked_succ (m k : Nat) (hk : k < m) : linked m (k + 1) = (linked m k).set (m - 1 - k) ⟨0, firstFree m k, false⟩ := by
  apply List.ext_getElem
  · simp [linked]
  · intro i h1 h2
    simp only [linked_len] at h1
    rw [List.getElem_set]
    split
    · rename_i h
      subst h
      simp only [linked, List.getElem_map, List.getElem_range, firstFree]
      by_cases h0 : k = 0
      · subst h0
        rw [if_neg (by omega), if_pos rfl]
      · rw [if_pos (by omega), if_neg h0]
        congr 2
        omega
    · simp only [linked, List.getElem_map, List.getElem_range]
      by_cases h3 : m - k ≤ i ∧ i + 1 < m
      · rw [if_pos h3, if_pos (by omega)]
      · rw [if_neg h3, if_neg (by omega)]
theorem linked_all (n : Int) : (⟨linked (max 0 (min n 16)).toNat (max 0 (min n 16)).toNat, firstFree (max 0 (min n 16)).toNat (max 0 (min n 16)).toNat⟩ : Ar) = Ar.new n := by
  unfold Ar.new linked firstFree
  simp only [Nat.sub_self, Nat.zero_le, true_and]
  rfl
theorem Ar.new_ok (n : Int) : (Ar.new n).Ok := by
  have hm : (max 0 (min n 16)).toNat ≤ 16 := by omega
  generalize hk : (max 0 (min n 16)).toNat = m at hm
  unfold Ar.new
  simp only [hk]
  refine ⟨by simpa using hm, by show -1 ≤ ite _ _ _; split <;> omega, by show ite _ _ _ < _; simp; split <;> omega, ?_, ?_, ?_, ?_⟩
  all_goals
    intro p hp
    simp only [List.mem_map, List.mem_range] at hp
    obtain ⟨i, hi, rfl⟩ := hp
    simp
  all_goals (split <;> omega)

set_option maxRecDepth 100000 in
set_option maxHeartbeats 4000000 in
theorem anew_calls (n : Int) (w : World) (h0 : -9223372036854775808 ≤ n) (h1 : n ≤ 9223372036854775807) :
    Calls Try.prog 56 #[.int .i64 n] w fun e w' => ∃ g F, e = .returned (.pointer (some ⟨g, 0, none⟩)) ∧ IsArena w' g (Ar.new n) F ∧ (∀ k, F k → w.heap.size ≤ k) ∧ Below w.heap.size w w' := by
  have HN := Lib.hid (linked_all n)
  have HO := Ar.new_ok n
  obtain ⟨m, hm⟩ : ∃ m : Nat, m = (max 0 (min n 16)).toNat := ⟨_, rfl⟩
  rw [← hm] at HN
  have hm16 : m ≤ 16 := by omega
  obtain ⟨i0, hi, hz0, hz1, hz2⟩ := info_parts Try.info_place
  have HI := Lib.hid hi
  clear hi
  have hcase : (n ≤ 0 ∧ m ≤ 0) ∨ (1 ≤ n ∧ n ≤ 16 ∧ n = m) ∨ (17 ≤ n ∧ 16 ≤ m) := by omega
  clear hm
  rcases hcase with ⟨hn, hm⟩ | ⟨hn, hm, rfl⟩ | ⟨hn, hm⟩
  all_goals
    go_enter Try.func56, Try.ntmps56
    go_wp2_with fail
    go_loopw [4] (fun i wr => ∃ k : Nat, k ≤ m ∧ i = .int .i64 ((m : Int) - 1 - k) ∧ ∃ v, wr.heap[w.heap.size]? = some (.cells #[v, .int .i64 (-1)] 91 (0, 0)) ∧
        wr.ownsRow (w.heap.size + 1) 93 3 v k ((List.replicate k (⟨0, -1, false⟩ : APlace)).flatMap APlace.cells) ∧ Below w.heap.size w wr) (fun i _ => (intOf i + 1).toNat)
    case atStart => exact ⟨0, Nat.zero_le _, by go_num, _, heap_alloc_new _ _, World.ownsRow_nil _ _ _ _, (Below.refl _ _).alloc (Nat.le_refl _) _⟩
    case round =>
      clear hn hm
      obtain ⟨k, hk, rfl, v, hb, hown, hbel⟩ := hrel
      obtain ⟨a, cap, rfl, hkc, hcm, hpos⟩ := owns_shape hown
      have c0 : wr.cell? ⟨w.heap.size, 0, none⟩ = some (.slice a k cap) := blk_cell hb 0
      have z0 := blk_free hb 0
      have hlt := lt_of_block hb
      by_cases hkm : k < m
      · go_wp2_with (at_builtin; refine wpList_append_own _ rfl _ _ 89 rfl (w.heap.size + 1) 93 i0 _ 3 24 Try.underlying89 HI.out hz0 hz1 hz2 rfl (by decide) _ _ _ rfl (hown.alloc _) _ 1 1 [.int .i64 0, .int .i64 (-1), .bool false] rfl rfl ?c1 ?c2 ?c3 ?c4 ?c5 ?_)
        case c1 => exact news_cells _ #[.int .i64 0, .int .i64 (-1), .bool false] _ _ rfl
        case c2 => intro u hu; simp at hu; rcases hu with rfl | rfl | rfl <;> rfl
        case c3 => unfold maxLen; omega
        case c4 => omega
        case c5 => simp; omega
        intro v' w1 hown' hgrow _
        obtain ⟨b', cap', rfl, h1', h2', h3'⟩ := owns_pos hown' (by omega)
        have hge := (hown'.lt b' rfl).1
        have hb1 : w1.heap[w.heap.size]? = some (.cells #[.slice a k cap, .int .i64 (-1)] 91 (0, 0)) := by
          rw [hgrow.block _ (by simp; omega) ?_, Below.heap_alloc _ _ _ hlt]
          · exact hb
          · intro e
            have := (hown.lt w.heap.size e.symm).1
            omega
        have c0' : w1.cell? ⟨w.heap.size, 0, none⟩ = some (.slice a k cap) := blk_cell hb1 0
        have z0' := blk_free hb1 0
        have hs1 := hgrow.size
        simp at hs1
        have hbel1 : Below w.heap.size w w1 := (hbel.alloc (by omega) _).grown hgrow (by simp; omega) (fun j hj => by have := (hown.lt j hj).1; omega)
        have HB := Lib.hid hb1
        have HO1 := Lib.hid hown'
        have HE := Lib.hid hbel1
        clear hb1 hown' hbel1 hgrow hown hbel c0 z0 hb
        go_wp2
        go_roundw
        case rel =>
          refine ⟨k + 1, by omega, by go_num, _, blk_set HB.out 0 _, ?_, HE.out.setCell (Nat.le_refl _) _⟩
          rw [List.replicate_succ', List.flatMap_append]
          exact ownsRow_setCell_other HO1.out (by simp [Value.ownBlock]; omega) _
        case measure => simp [intOf]; omega
      · obtain rfl : k = m := by omega
        rw [← linked_zero] at hown
        have HB := Lib.hid hb
        have HW := Lib.hid hown
        have HE := Lib.hid hbel
        clear hb hown hbel
        go_wp2_with fail
        go_loopw [5] (fun i wq => ∃ j : Nat, j ≤ k ∧ i = .int .i64 ((k : Int) - 1 - j) ∧ wq.heap[w.heap.size]? = some (.cells #[.slice a k cap, .int .i64 (firstFree k j)] 91 (0, 0)) ∧
          wq.ownsRow (w.heap.size + 1) 93 3 (.slice a k cap) k ((linked k j).flatMap APlace.cells) ∧ Below w.heap.size w wq) (fun i _ => (intOf i + 1).toNat)
        case atStart => exact ⟨0, Nat.zero_le _, by go_num, HB.out, HW.out, HE.out⟩
        case round =>
          clear HB HW HE
          obtain ⟨j, hj, rfl, hb, hown, hbel⟩ := hrel
          have hlt := lt_of_block hb
          have c0 : wr.cell? ⟨w.heap.size, 0, none⟩ = some (.slice a k cap) := blk_cell hb 0
          have c1 : wr.cell? ⟨w.heap.size, 1, none⟩ = some (.int .i64 (firstFree k j)) := blk_cell hb 1
          have z0 := blk_free hb 1
          by_cases hjk : j < k
          · obtain ⟨b, rfl⟩ := hpos (by omega)
            have hge := (hown.lt b rfl).1
            have hne : b ≠ w.heap.size := by omega
            obtain ⟨q, hq⟩ : ∃ q : Nat, q = k - 1 - j := ⟨_, rfl⟩
            have hq' : ((k : Int) - 1 - j) = q := by omega
            have hqk : q < k := by omega
            have z1 := hown.frozenAt (q * 3 + 1)
            have hlj := linked_len k j
            obtain ⟨_, d1, _⟩ := arena_cells (A := ⟨linked k j, 0⟩) (by simpa [hlj] using owns_zero hown) q (by simpa [hlj] using hqk)
            have hls := Lib.hid (linked_succ k j hjk)
            have hat := Lib.hid (show (linked k j)[q]? = some ((⟨linked k j, 0⟩ : Ar).at q) by simp [Ar.at, List.getElem?_eq_getElem (show q < (linked k j).length by omega)])
            obtain ⟨p, hp⟩ : ∃ p, p = (⟨linked k j, 0⟩ : Ar).at q := ⟨_, rfl⟩
            rw [← hp] at d1 hat
            have hg0 := Lib.hid (show p.gen = 0 ∧ p.taken = false by
              have := hat.out
              simp only [linked, List.getElem?_map, List.getElem?_range hqk, Option.map_some, Option.some.injEq] at this
              subst this
              exact ⟨rfl, rfl⟩)
            have hff := Lib.hid (show firstFree k (j + 1) = q by simp only [firstFree, Nat.add_one_ne_zero, if_false]; omega)
            have hq2 := Lib.hid hq
            obtain ⟨fr, hfr⟩ : ∃ fr, fr = firstFree k j := ⟨_, rfl⟩
            rw [← hfr] at c1 hb
            have hfr' := Lib.hid hfr
            have HB := Lib.hid hb
            have HW := Lib.hid hown
            have HE := Lib.hid hbel
            clear hp hq hlj hfr hb hown hbel
            go_wp2_with fail
            go_region
            go_wp2
            go_roundw
            case rel =>
              refine ⟨j + 1, by omega, by go_num, ?_, ?_, ?_⟩
              · rw [hff.out]
                refine (blk_set (i := 1) (cs := #[.slice (some ⟨b, 0, none⟩) k cap, .int .i64 fr]) ?_ _)
                show ((wr.setCell _ _).heap)[_]? = _
                rw [heap_setCell_other _ _ _ _ (by simpa using Ne.symm hne)]
                exact HB.out
              · rw [hls.out, ← hfr'.out, ← hq2.out]
                have h3 := (HW.out.stored (q * 3 + 1) (.int .i64 fr)).1
                rw [aflat_set APlace.cells 3 APlace.cells_len _ q 1 p ⟨0, fr, false⟩ _ (by omega) hat.out (by rw [← hg0.out.1, ← hg0.out.2]; rfl)] at h3
                exact ownsRow_setCell_other h3 (by simpa [Value.ownBlock] using hne) _
              · exact ((HE.out.setCell (p := ⟨b, q * 3 + 1, none⟩) (by simp; omega) _).setCell (p := ⟨w.heap.size, 1, none⟩) (Nat.le_refl _) _).drew
            case measure => simp [intOf]; omega
          · obtain rfl : j = k := by omega
            have HB := Lib.hid hb
            have HW := Lib.hid hown
            have HE := Lib.hid hbel
            clear hb hown hbel
            go_wp2
            go_ret
            refine ⟨_, (fun x => x = w.heap.size ∨ (Value.slice a j cap).ownBlock = some x), rfl, ⟨HO, .slice a j cap, ?_, ?_, ?_, fun _ => Iff.rfl⟩, ?_, HE.out⟩
            · rw [← HN.out]; exact HB.out
            · rw [← HN.out]
              show World.ownsRow _ _ _ _ _ (linked j j).length _
              rw [linked_len]
              exact owns_zero HW.out
            · intro e
              have := (HW.out.lt _ e).1
              omega
            · rintro i (rfl | h)
              · exact Nat.le_refl _
              · have := (HW.out.lt _ h).1
                omega

/-- The arena's blocks are of its own two types. -/
theorem IsArena.types {w : World} {g : Nat} {A : Ar} {F : Nat → Prop} (h : IsArena w g A F) : ∀ k, F k → ∃ cs t fr, w.heap[k]? = some (.cells cs t fr) ∧ (t = 91 ∨ t = 93) := by
  obtain ⟨ok, v, hg, ho, hne, hF⟩ := h
  intro k hk
  rcases (hF k).1 hk with rfl | hk
  · exact ⟨_, _, _, hg, .inl rfl⟩
  · obtain ⟨cs, fr, hc⟩ := owns_type ho hk
    exact ⟨_, _, _, hc, .inr rfl⟩
/-- A row of another type lies beside the arena. -/
theorem IsArena.beside {w : World} {g : Nat} {A : Ar} {F : Nat → Prop} (h : IsArena w g A F) {base : Nat} {e : TypeId} {size : Nat} {v : Value} {n : Nat} {xs : List Value} (ho : w.ownsRow base e size v n xs)
    (h1 : e ≠ 91) (h2 : e ≠ 93) : ∀ k, v.ownBlock = some k → ¬ F k := by
  intro k hk hF
  obtain ⟨cs, fr, hc⟩ := owns_type ho hk
  obtain ⟨cs', t, fr', hc', ht⟩ := h.types k hF
  rcases ht with rfl | rfl
  · exact types_apart hc hc' h1 rfl
  · exact types_apart hc hc' h2 rfl
/-- A row beside the arena is as it was behind what the arena does. -/
theorem IsArena.leaves {w w' : World} {g : Nat} {A : Ar} {F : Nat → Prop} (h : IsArena w g A F) (hx : Ext w w' F) {base : Nat} {e : TypeId} {size : Nat} {v : Value} {n : Nat} {xs : List Value} (ho : w.ownsRow base e size v n xs)
    (h1 : e ≠ 91) (h2 : e ≠ 93) : w'.ownsRow base e size v n xs :=
  owns_same ho (fun k hk => hx.block k (ho.lt k hk).2 (h.beside ho h1 h2 k hk))
end Go.Proofs.Ytkiogbenbicghaa
