/- What the document's queues (parcloseref07) do on Remove and Pop. Condition of each: they lie in memory (IsQ). -/
import Derived.Test.YtkiogbenbicghaaRef07b
namespace Go.Proofs.Ytkiogbenbicghaa
open Go.RowKit BigFrame

def keepL (x : Int) (l : List Nat) : List Nat := l.filter (fun z => (z : Int) != x)
def removeQ (L : List (List Nat)) (x : Int) : Bool × List (List Nat) :=
  if whereL L x < 0 then (false, L) else (true, L.set (whereL L x).toNat (keepL x ((L[(whereL L x).toNat]?).getD [])))
theorem whereL_at {L : List (List Nat)} {x : Int} {i : Nat} (h : whereL L x = i) : ∃ l, L[i]? = some l ∧ 0 ≤ x ∧ x.toNat ∈ l := by
  unfold whereL at h
  split at h
  · omega
  · rename_i h0
    cases hf : L.findIdx? (fun l => l.contains x.toNat) with
    | none => rw [hf] at h; simp at h
    | some j =>
      rw [hf] at h
      simp only at h
      have hji : j = i := by omega
      subst hji
      rw [List.findIdx?_eq_some_iff_getElem] at hf
      obtain ⟨hi, hc, _⟩ := hf
      exact ⟨L[j], List.getElem?_eq_getElem hi, by omega, by simpa using hc⟩
theorem whereL_low (L : List (List Nat)) (x : Int) : -1 ≤ whereL L x := by
  unfold whereL
  split
  · omega
  · split <;> omega
theorem removeQ_eq {w : World} {g bq bn N : Nat} {L : List (List Nat)} (h : IsF w g bq bn L N) (x : Int) : removeQ L x = removeL L x := by
  unfold removeQ removeL
  by_cases h0 : whereL L x < 0
  · rw [if_pos h0, if_neg]
    rintro ⟨hx, hh⟩
    obtain ⟨y, rfl⟩ : ∃ y : Nat, x = y := ⟨x.toNat, by omega⟩
    have := whereL_some hh
    rw [Int.toNat_natCast] at this
    omega
  · obtain ⟨i, hi⟩ : ∃ i : Nat, whereL L x = i := ⟨(whereL L x).toNat, by omega⟩
    obtain ⟨l, hl, hx0, hx⟩ := whereL_at hi
    rw [if_neg h0, if_pos ⟨hx0, hasL_iff.2 ⟨i, l, hl, hx⟩⟩, hi]
    simp only [Int.toNat_natCast, hl, Option.getD_some]
    obtain ⟨qs, ns, _, hr⟩ := h
    obtain ⟨A, B, hAB⟩ := List.append_of_mem hx
    rw [hAB] at hl
    rw [erase_map hr hl]
    have hnd := hr.nd i _ hl
    rw [List.nodup_append] at hnd
    have hb := (List.nodup_cons.1 hnd.2.1).1
    have ha : x.toNat ∉ A := fun hm => hnd.2.2 _ hm _ (by simp) rfl
    have key : ∀ C : List Nat, x.toNat ∉ C → keepL x C = C := fun C hC => List.filter_eq_self.2 (fun z hz => by
      rw [bne_iff_ne]
      intro e
      have : z = x.toNat := by omega
      subst this
      exact hC hz)
    have hself : ((x.toNat : Int) != x) = false := by rw [bne_eq_false_iff_eq]; omega
    have : keepL x l = A ++ B := by
      rw [hAB]
      unfold keepL
      rw [List.filter_append, List.filter_cons_of_neg (by rw [hself]; decide)]
      exact congr (congrArg _ (key A ha)) (key B hb)
    rw [this]

set_option maxRecDepth 100000 in
set_option maxHeartbeats 8000000 in
theorem rremove7_calls {w : World} {n0 g b N : Nat} {L : List (List Nat)} (h : IsQ w n0 g b L N) (hn0 : n0 ≤ w.heap.size) (hlen : ∀ (i : Nat) (l : List Nat), L[i]? = some l → l.length ≤ 32) (x : Int) :
    Calls Try.prog 18 #[.pointer (some ⟨g, 0, none⟩), .int .i64 x] w fun e w' => e = .returned (.bool (removeQ L x).1) ∧ IsQ w' n0 g b (removeQ L x).2 N ∧ Ext w w' (fun k => k = b) := by
  have H := Lib.hid h
  have HW := Lib.hid (rwhere_calls h x)
  have hlow := whereL_low L x
  by_cases h0 : whereL L x < 0
  · have hv : removeQ L x = (false, L) := by unfold removeQ; rw [if_pos h0]
    rw [hv]
    have hbr := Lib.hid (Ext.refl w (fun k => k = b))
    rw [show whereL L x = -1 by omega] at HW
    clear h hv hlow h0
    go_enter Try.func18, Try.ntmps18
    go_wp2_with fail
    refine HW.out.mono ?_
    rintro e w1 ⟨rfl, rfl⟩
    go_wp2_with fail
    go_ret
    exact ⟨rfl, H.out, hbr.out⟩
  obtain ⟨i, hi⟩ : ∃ i : Nat, whereL L x = i := ⟨(whereL L x).toNat, by omega⟩
  obtain ⟨l, hl, hx0, hx⟩ := whereL_at hi
  have hv : removeQ L x = (true, L.set i (keepL x l)) := by
    unfold removeQ
    rw [if_neg h0, hi]
    simp [hl]
  rw [hv]
  rw [hi] at HW
  have c0 := h.c0
  have hsm := h.small
  have hil := (List.getElem?_eq_some_iff.1 hl).1
  obtain ⟨nl, hnl⟩ : ∃ n, n = L.length := ⟨_, rfl⟩
  rw [← hnl] at c0 hsm hil
  obtain ⟨al, cl, d0, hlc, hcm, hrv, hcells⟩ := h.list hl
  unfold maxLen at hcm
  have hl32 := hlen i l hl
  have hglt := h.glt
  have hblt := h.blt
  obtain ⟨i0, hi', hz0, hz1, hz2⟩ := info_parts Try.info_int
  have HI := Lib.hid hi'
  have HRV := Lib.hid hrv
  obtain ⟨nn, hnn⟩ : ∃ n, n = l.length := ⟨_, rfl⟩
  rw [← hnn] at d0 hlc hl32 HRV hcells
  have HNN := Lib.hid hnn
  have HCE := Lib.hid hcells
  have hgb := h.g0
  have hbb := h.b0
  have C0 := Lib.hid c0
  have D0 := Lib.hid d0
  have iz : (0 : Int) ≤ (i : Int) := Int.natCast_nonneg _
  have il' : (i : Int) < (nl : Int) := by omega
  clear h hv hnl h0 hl hx hi hi' hrv hnn hlen hlow hcells c0 d0
  go_enter Try.func18, Try.ntmps18
  go_wp2_with fail
  refine HW.out.mono ?_
  rintro e w1 ⟨rfl, rfl⟩
  go_wp2_with fail
  have HO0 := Lib.hid (owns_empty w w.heap.size 3 (Nat.le_refl _))
  have HB0 := Lib.hid ((Below.refl w.heap.size w).alloc (Nat.le_refl _) (.cells #[] 3))
  go_loopw [6, 7] (fun v u wr => ∃ k : Nat, u = .int .i64 k ∧ k ≤ nn ∧ wr.ownsRow w.heap.size 3 1 v (keepL x (l.take k)).length (ints (asInts (keepL x (l.take k)))) ∧ Below w.heap.size w wr) (fun _ u _ => nn - (intOf u).toNat)
  case atStart => exact ⟨0, rfl, Nat.zero_le _, HO0.out, HB0.out⟩
  case round =>
    obtain ⟨k, rfl, hkn, hown, hb⟩ := hrel
    have kz : (0 : Int) ≤ (k : Int) := Int.natCast_nonneg _
    have t0 : wr.cell? ⟨g, 0, none⟩ = some (.slice (some ⟨b, 0, none⟩) nl nl) := (hb.cell (p := ⟨g, 0, none⟩) hglt).trans C0.out
    have t1 : wr.cell? ⟨b, i, none⟩ = some (.slice al nn cl) := (hb.cell (p := ⟨b, i, none⟩) hblt).trans D0.out
    by_cases hc : k < nn
    · have hc' : (k : Int) < (nn : Int) := by omega
      obtain ⟨bl, o, rfl, hcell⟩ := HCE.out (by omega)
      obtain ⟨y, hy⟩ : ∃ y, l[k]? = some y := ⟨_, List.getElem?_eq_getElem (by rw [← HNN.out]; exact hc)⟩
      have t2 : wr.cell? ⟨bl, o + k, none⟩ = some (.int .i64 y) := (hb.cell (p := ⟨bl, o + k, none⟩) (HRV.out.2.1 bl rfl).2.2.2).trans (hcell k y hy)
      have hkeep : (keepL x (l.take k)).length ≤ 32 := by
        unfold keepL
        refine Nat.le_trans (List.length_filter_le _ _) ?_
        rw [List.length_take]
        omega
      have HY := Lib.hid hy
      have HO := Lib.hid hown
      have HB := Lib.hid hb
      have htk : l.take (k + 1) = l.take k ++ [y] := by rw [List.take_add_one, HY.out]; rfl
      clear hcell hy hb
      by_cases hxy : (y : Int) = x
      · have hxy' : ((y : Int) != x) = false := by simp [hxy]
        have hstep : keepL x (l.take (k + 1)) = keepL x (l.take k) := by rw [htk]; unfold keepL; rw [List.filter_append]; simp [hxy]
        have HS := Lib.hid hstep
        clear hxy hown htk hstep
        go_wp2_with fail
        go_roundw
        case rel => exact ⟨k + 1, by go_num, by omega, by rw [HS.out]; exact HO.out, HB.out⟩
        case measure => simp [intOf]; omega
      · have hxy' : ((y : Int) != x) = true := by simpa using hxy
        have hstep : keepL x (l.take (k + 1)) = keepL x (l.take k) ++ [y] := by rw [htk]; unfold keepL; rw [List.filter_append]; simp [hxy]
        have HS := Lib.hid hstep
        have hbs := HB.out.size
        have HOA := Lib.hid (HO.out.alloc (.cells #[.int .i64 (y : Int)] 3))
        clear hxy htk hstep hown
        go_wp2_with (at_builtin; refine wpList_append_own _ rfl _ _ 37 rfl w.heap.size 3 i0 (.int .i64 0) 1 8 Try.underlying37 HI.out hz0 hz1 hz2 rfl (by decide) _ _ _ rfl HOA.out ⟨wr.heap.size, 0, none⟩ 1 1 [.int .i64 (y : Int)] rfl rfl ?c1 ?c2 ?c3 ?c4 ?c5 ?_)
        case c1 => exact news_one wr _ _
        case c2 => exact news_int _
        case c3 => unfold maxLen; omega
        case c4 => omega
        case c5 => simp; omega
        intro v' w4 hown' hgr _
        have HO4 := Lib.hid hown'
        have HB4 := Lib.hid ((HB.out.alloc HB.out.size (.cells #[.int .i64 (y : Int)] 3)).grown hgr (by simp; omega) (fun k hk => (HO.out.lt k hk).1))
        clear hown' hgr
        go_wp2_with fail
        go_roundw
        case rel =>
          refine ⟨k + 1, by go_num, by omega, ?_, HB4.out⟩
          rw [HS.out, show ints (asInts (keepL x (l.take k) ++ [y])) = ints (asInts (keepL x (l.take k))) ++ [.int .i64 (y : Int)] by simp [ints, asInts], List.length_append]
          exact HO4.out
        case measure => simp [intOf]; omega
    · obtain rfl : k = nn := by omega
      have hfull : l.take k = l := List.take_of_length_le (by rw [← HNN.out]; exact Nat.le_refl _)
      rw [hfull] at hown
      obtain ⟨a9, c9, rfl, _, _, _⟩ := owns_shape hown
      have HQ := Lib.hid (H.out.below hb)
      have z9 := HQ.out.free i
      have HRW := Lib.hid (RowV.of_owns (n0 := n0) (g := g) (b := b) hown hn0 hglt hblt)
      have HB := Lib.hid hb
      have hc' : ¬ (k : Int) < (k : Int) := by omega
      clear hown hb hfull
      go_wp2_with fail
      go_ret
      exact ⟨rfl, HQ.out.set i HRW.out, Ext.setCell (F := fun k => k = b) (Ext.of_below HB.out) (p := ⟨b, i, none⟩) (fun _ => rfl) _⟩

set_option maxRecDepth 100000 in
set_option maxHeartbeats 8000000 in
theorem rpop7_calls {w : World} {n0 g b N : Nat} {L : List (List Nat)} (h : IsQ w n0 g b L N) (hn0 : n0 ≤ w.heap.size) (hlen : ∀ (i : Nat) (l : List Nat), L[i]? = some l → l.length ≤ 32) (n : Int) :
    Calls Try.prog 16 #[.pointer (some ⟨g, 0, none⟩), .int .i64 n] w fun e w' => e = .returned (.tuple #[.int .i64 (popL L n).1, .bool (popL L n).2.1]) ∧ IsQ w' n0 g b (popL L n).2.2 N ∧ Ext w w' (fun k => k = b) := by
  have H := Lib.hid h
  have c0 := h.c0
  have hsm := h.small
  have hbr := Lib.hid (Ext.refl w (fun k => k = b))
  obtain ⟨nl, hnl⟩ : ∃ n, n = L.length := ⟨_, rfl⟩
  rw [← hnl] at c0 hsm
  have HN := Lib.hid hnl
  by_cases a1 : n < 0
  · have hv : popL L n = (0, false, L) := by unfold popL; rw [if_pos a1]
    rw [hv]
    clear h hv hnl
    go_enter Try.func16, Try.ntmps16
    go_wp2_with fail
    go_ret2
    exact ⟨rfl, H.out, hbr.out⟩
  obtain ⟨i, rfl⟩ : ∃ i : Nat, n = i := ⟨n.toNat, by omega⟩
  have iz : (0 : Int) ≤ (i : Int) := Int.natCast_nonneg _
  by_cases a2 : nl ≤ i
  · have hv : popL L i = (0, false, L) := by unfold popL; rw [if_neg (by omega)]; simp [List.getElem?_eq_none (show L.length ≤ i by omega)]
    rw [hv]
    have a2' : (nl : Int) ≤ (i : Int) := by omega
    clear h hv hnl
    go_enter Try.func16, Try.ntmps16
    go_wp2_with fail
    go_ret2
    exact ⟨rfl, H.out, hbr.out⟩
  have a2' : ¬ (nl : Int) ≤ (i : Int) := by omega
  have a2'' : (i : Int) < (nl : Int) := by omega
  obtain ⟨l, hl⟩ : ∃ l, L[i]? = some l := ⟨_, List.getElem?_eq_getElem (by omega)⟩
  obtain ⟨al, cl, d0, hlc, hcm, hrv, hcells⟩ := h.list hl
  unfold maxLen at hcm
  have hl32 := hlen i l hl
  cases l with
  | nil =>
    have hv : popL L i = (0, false, L) := by unfold popL; rw [if_neg (by omega)]; simp [hl]
    rw [hv]
    simp only [List.length_nil] at d0
    clear h hv hnl hl hrv hcells hlen
    go_enter Try.func16, Try.ntmps16
    go_wp2_with fail
    go_ret2
    exact ⟨rfl, H.out, hbr.out⟩
  | cons y r =>
    have hv : popL L i = ((y : Int), true, L.set i r) := by unfold popL; rw [if_neg (by omega)]; simp [hl]
    rw [hv]
    obtain ⟨bl, o, rfl, hcell⟩ := hcells (by simp)
    have e0 : w.cell? ⟨bl, o, none⟩ = some (.int .i64 y) := hcell 0 y rfl
    have hblt' := (hrv.2.1 bl rfl).2.2.2
    have hsrc : Reads w 1 (.slice (some ⟨bl, o + 1, none⟩) r.length (cl - 1)) r.length (ints (asInts r)) := by
      refine ⟨by simp [ints, asInts], _, _, rfl, by simp at hlc; omega, by unfold maxLen; omega, fun _ => ⟨_, _, rfl, fun j u hj => ?_⟩⟩
      simp only [ints, asInts, List.getElem?_map, Option.map_eq_some_iff] at hj
      obtain ⟨z, ⟨z', hz, rfl⟩, rfl⟩ := hj
      have := hcell (j + 1) z' (by simpa using hz)
      rw [show o + 1 + j = o + (j + 1) by omega]
      exact this
    have hsrc0 : r = [] → Reads w 1 (.slice (some ⟨bl, o, none⟩) 0 0) 0 (ints (asInts r)) := fun hr => by
      subst hr
      exact ⟨rfl, _, _, rfl, Nat.le_refl _, Nat.zero_le _, fun h => by omega⟩
    have HSRC := Lib.hid hsrc
    have HSRC0 := Lib.hid hsrc0
    have hglt := h.glt
    have hblt := h.blt
    obtain ⟨i0, hi, hz0, hz1, hz2⟩ := info_parts Try.info_int
    have HI := Lib.hid hi
    simp only [List.length_cons] at d0 hlc hl32
    obtain ⟨nn, hnn⟩ : ∃ n, n = r.length := ⟨_, rfl⟩
    rw [← hnn] at d0 hlc hl32 HSRC
    have HNN := Lib.hid hnn
    have hnp : ¬ ((nn : Int) + 1 = 0) := by omega
    have hnp2 : (((nn : Int) + 1) == 0) = false := beq_eq_false_iff_ne.2 hnp
    have hnp3 : (1 : Int) ≤ (nn : Int) + 1 := by omega
    have hnp4 : (0 : Int) < (nn : Int) + 1 := by omega
    clear h hv hnl hl hi hrv hnn hlen hcells hcell hsrc hsrc0
    by_cases hcl : cl = 1
    · subst hcl
      obtain rfl : nn = 0 := by omega
      have HSRC := Lib.hid (HSRC0.out (List.eq_nil_of_length_eq_zero HNN.out.symm))
      clear hnp hnp2 hnp3 hnp4 hlc HSRC0
      go_enter Try.func16, Try.ntmps16
      go_wp2_with fail
      refine wp_region_W 17 16 (fun w' : World => Below w.heap.size w w') (by kernel_rfl) (by kernel_rfl) ⟨rfl, rfl, rfl, Nat.le_refl _, fun _ _ => rfl⟩ (fun hT => ?_)
      refine wpAnyW_take (i := 0) (some 38) rfl rfl (by kernel_rfl) (by kernel_rfl) (by kernel_rfl) (by kernel_rfl) (fun _ _ _ h => h) (v := ?_) (.inl ⟨by rfl, ?_⟩) (.inr hT) ?_
      rotate_left
      · (intro wT _; go_simp <;> with_reducible rfl)
      simp only [Act.put, List.setIfInBounds_toArray, List.set_cons_zero, List.set_cons_succ]
      refine wpAnyW_take (i := 1) (some 39) rfl rfl (by kernel_rfl) (by kernel_rfl) (by kernel_rfl) (by kernel_rfl) (fun _ _ _ h => h) (v := ?_) (.inl ⟨by rfl, ?_⟩) (.inr hT) ?_
      rotate_left
      · (intro wT _; go_simp <;> with_reducible rfl)
      simp only [Act.put, List.setIfInBounds_toArray, List.set_cons_zero, List.set_cons_succ]
      refine wpAnyW_take (i := 2) (some 40) rfl rfl (by kernel_rfl) (by kernel_rfl) (by kernel_rfl) (by kernel_rfl) (fun _ _ _ h => h) (v := ?_) (.inl ⟨by rfl, ?_⟩) (.inr hT) ?_
      rotate_left
      · (intro wT _; go_simp <;> with_reducible rfl)
      simp only [Act.put, List.setIfInBounds_toArray, List.set_cons_zero, List.set_cons_succ]
      refine wpAnyW_load (i := 3) (some 41) rfl rfl (by kernel_rfl) (by kernel_rfl) (by kernel_rfl) (by kernel_rfl) (by kernel_rfl) (fun _ _ _ h => h) (v := ?_) (.inl ⟨by rfl, ?_⟩) hT ?_
      rotate_left
      · (intro wT hT; try dsimp only at hT); (have t0 : wT.cell? ⟨g, 0, none⟩ = some (.slice (some ⟨b, 0, none⟩) nl nl) := (hT.cell (p := ⟨g, 0, none⟩) hglt).trans c0); (have t1 : wT.cell? ⟨b, i, none⟩ = some (.slice (some ⟨bl, o, none⟩) 1 1) := (hT.cell (p := ⟨b, i, none⟩) hblt).trans d0); clear hT; (go_simp <;> with_reducible rfl)
      simp only [Act.put, List.setIfInBounds_toArray, List.set_cons_zero, List.set_cons_succ]
      refine wpAnyW_take (i := 4) (some 42) rfl rfl (by kernel_rfl) (by kernel_rfl) (by kernel_rfl) (by kernel_rfl) (fun _ _ _ h => h) (v := ?_) (.inl ⟨by rfl, ?_⟩) (.inr hT) ?_
      rotate_left
      · (intro wT _; go_simp <;> with_reducible rfl)
      simp only [Act.put, List.setIfInBounds_toArray, List.set_cons_zero, List.set_cons_succ]
      refine wpAnyW_take (i := 6) (some 44) rfl rfl (by kernel_rfl) (by kernel_rfl) (by kernel_rfl) (by kernel_rfl) (fun _ _ _ h => h) (v := ?_) (.inl ⟨by rfl, ?_⟩) (.inr hT) ?_
      rotate_left
      · (intro wT _; go_simp <;> with_reducible rfl)
      simp only [Act.put, List.setIfInBounds_toArray, List.set_cons_zero, List.set_cons_succ]
      refine wpAnyW_take (i := 7) (some 45) rfl rfl (by kernel_rfl) (by kernel_rfl) (by kernel_rfl) (by kernel_rfl) (fun _ _ _ h => h) (v := ?_) (.inl ⟨by rfl, ?_⟩) (.inr hT) ?_
      rotate_left
      · (intro wT _; go_simp <;> with_reducible rfl)
      simp only [Act.put, List.setIfInBounds_toArray, List.set_cons_zero, List.set_cons_succ]
      refine wpAnyW_take (i := 8) (some 46) rfl rfl (by kernel_rfl) (by kernel_rfl) (by kernel_rfl) (by kernel_rfl) (fun _ _ _ h => h) (v := ?_) (.inl ⟨by rfl, ?_⟩) (.inr hT) ?_
      rotate_left
      · (intro wT _; go_simp <;> with_reducible rfl)
      simp only [Act.put, List.setIfInBounds_toArray, List.set_cons_zero, List.set_cons_succ]
      refine wpAnyW_load (i := 9) (some 47) rfl rfl (by kernel_rfl) (by kernel_rfl) (by kernel_rfl) (by kernel_rfl) (by kernel_rfl) (fun _ _ _ h => h) (v := ?_) (.inl ⟨by rfl, ?_⟩) hT ?_
      rotate_left
      · (intro wT hT; try dsimp only at hT); (have t0 : wT.cell? ⟨g, 0, none⟩ = some (.slice (some ⟨b, 0, none⟩) nl nl) := (hT.cell (p := ⟨g, 0, none⟩) hglt).trans c0); (have t1 : wT.cell? ⟨b, i, none⟩ = some (.slice (some ⟨bl, o, none⟩) 1 1) := (hT.cell (p := ⟨b, i, none⟩) hblt).trans d0); clear hT; (go_simp <;> with_reducible rfl)
      simp only [Act.put, List.setIfInBounds_toArray, List.set_cons_zero, List.set_cons_succ]
      refine wpAnyW_take (i := 10) (some 48) rfl rfl (by kernel_rfl) (by kernel_rfl) (by kernel_rfl) (by kernel_rfl) (fun _ _ _ h => h) (v := ?_) (.inl ⟨by rfl, ?_⟩) (.inr hT) ?_
      rotate_left
      · (intro wT _; go_simp <;> with_reducible rfl)
      simp only [Act.put, List.setIfInBounds_toArray, List.set_cons_zero, List.set_cons_succ]
      refine wpAnyW_take (i := 11) (some 49) rfl rfl (by kernel_rfl) (by kernel_rfl) (by kernel_rfl) (by kernel_rfl) (fun _ _ _ h => h) (v := ?_) (.inl ⟨by rfl, ?_⟩) (.inr hT) ?_
      rotate_left
      · (intro wT _; go_simp <;> with_reducible rfl)
      simp only [Act.put, List.setIfInBounds_toArray, List.set_cons_zero, List.set_cons_succ]
      refine wpAnyW_load (i := 12) (some 50) rfl rfl (by kernel_rfl) (by kernel_rfl) (by kernel_rfl) (by kernel_rfl) (by kernel_rfl) (fun _ _ _ h => h) (v := ?_) (.inl ⟨by rfl, ?_⟩) hT ?_
      rotate_left
      · (intro wT hT; try dsimp only at hT); (have t0 : wT.cell? ⟨g, 0, none⟩ = some (.slice (some ⟨b, 0, none⟩) nl nl) := (hT.cell (p := ⟨g, 0, none⟩) hglt).trans c0); (have t1 : wT.cell? ⟨b, i, none⟩ = some (.slice (some ⟨bl, o, none⟩) 1 1) := (hT.cell (p := ⟨b, i, none⟩) hblt).trans d0); clear hT; (go_simp <;> with_reducible rfl)
      simp only [Act.put, List.setIfInBounds_toArray, List.set_cons_zero, List.set_cons_succ]
      refine wpAnyW_take (i := 13) (some 51) rfl rfl (by kernel_rfl) (by kernel_rfl) (by kernel_rfl) (by kernel_rfl) (fun _ _ _ h => h) (v := ?_) (.inl ⟨by rfl, ?_⟩) (.inr hT) ?_
      rotate_left
      · (intro wT _; go_simp <;> with_reducible rfl)
      simp only [Act.put, List.setIfInBounds_toArray, List.set_cons_zero, List.set_cons_succ]
      refine wpAnyW_one (i := 5) (by kernel_rfl) rfl (fun K hK => ?_)
      go_simp
      refine name_world (fun W5 hW5 => ?_)
      have hb5 : Below w.heap.size w W5 := by rw [hW5]; exact (⟨rfl, rfl, rfl, Nat.le_refl _, fun _ _ => rfl⟩ : Below w.heap.size w w.drew).alloc (Nat.le_refl _) _
      have own5 : W5.ownsRow w.heap.size 3 1 (.slice (some ⟨w.heap.size, 0, none⟩) 0 0) 0 [] := by rw [hW5]; exact owns_empty _ _ _ (Nat.le_refl _)
      clear hW5
      refine step_owe hK ?_ (fun hT => ?_)
      · first | exact hb5 | exact hb14
      clear hK K
      refine wpAnyW_one (i := 14) (by kernel_rfl) rfl (fun K hK => ?_)
      refine step_append_from (by rfl) (.tmp 43) (.tmp 51) 37 (by rfl) w.heap.size 3 i0 (.int .i64 0) 1 8 Try.underlying37 HI.out hz0 hz1 hz2 rfl (by omega) (.slice (some ⟨w.heap.size, 0, none⟩) 0 0) 0 [] (by rfl) own5 (.slice (some ⟨bl, o, none⟩) 0 0) 0 (ints (asInts r)) (by rfl) (HSRC.out.frame (fun k hk => hb5.block k (by simp only [Value.ownBlock, Option.some.injEq] at hk; subst hk; exact hblt'))) (.inr ⟨_, _, _, _, rfl⟩) (ints_one _) (by unfold maxLen; omega) (by omega) hb5.size ?_
      intro v14 W14 own14 grow14 at14
      simp only [Nat.zero_add, List.nil_append] at own14
      have hb14 : Below w.heap.size w W14 := hb5.grown grow14 hb5.size (fun k hk => by simp only [Value.ownBlock, Option.some.injEq] at hk; subst hk; exact Nat.le_refl _)
      obtain ⟨a14, c14, rfl, _, _, _⟩ := owns_shape own14
      have HQ14 := Lib.hid (H.out.below hb14)
      have z14 := HQ14.out.free i
      have m14 : W14.cell? ⟨b, i, none⟩ = some (.slice (some ⟨bl, o, none⟩) 1 1) := (hb14.cell (p := ⟨b, i, none⟩) hblt).trans d0
      refine step_owe hK ?_ (fun hT => ?_)
      · first | exact hb5 | exact hb14
      clear hK K
      refine wpAnyW_take (i := 15) (some 53) rfl rfl (by kernel_rfl) (by kernel_rfl) (by kernel_rfl) (by kernel_rfl) (fun _ _ _ h => h) (v := ?_) (.inl ⟨by rfl, ?_⟩) (.inr hT) ?_
      rotate_left
      · (intro wT _; go_simp <;> with_reducible rfl)
      simp only [Act.put, List.setIfInBounds_toArray, List.set_cons_zero, List.set_cons_succ]
      refine wpAnyW_one (i := 16) (by kernel_rfl) rfl (fun K hK => ?_)
      go_simp
      refine step_paid hK (by kernel_rfl) ?_
      clear hK K
      refine wpAnyW_done (by kernel_rfl) ?_
      go_wp2_with fail
      go_ret2
      have hrow : RowV W14 n0 g b (.slice a14 0 c14) r := RowV.of_owns (B := w.heap.size) (e := 3) (HNN.out ▸ own14) hn0 hglt hblt
      exact ⟨rfl, HQ14.out.set i hrow, Ext.setCell (F := fun k => k = b) (Ext.of_below hb14) (p := ⟨b, i, none⟩) (fun _ => rfl) _⟩
    · clear HSRC0
      go_enter Try.func16, Try.ntmps16
      go_wp2_with fail
      refine wp_region_W 17 16 (fun w' : World => Below w.heap.size w w') (by kernel_rfl) (by kernel_rfl) ⟨rfl, rfl, rfl, Nat.le_refl _, fun _ _ => rfl⟩ (fun hT => ?_)
      refine wpAnyW_take (i := 0) (some 38) rfl rfl (by kernel_rfl) (by kernel_rfl) (by kernel_rfl) (by kernel_rfl) (fun _ _ _ h => h) (v := ?_) (.inl ⟨by rfl, ?_⟩) (.inr hT) ?_
      rotate_left
      · (intro wT _; go_simp <;> with_reducible rfl)
      simp only [Act.put, List.setIfInBounds_toArray, List.set_cons_zero, List.set_cons_succ]
      refine wpAnyW_take (i := 1) (some 39) rfl rfl (by kernel_rfl) (by kernel_rfl) (by kernel_rfl) (by kernel_rfl) (fun _ _ _ h => h) (v := ?_) (.inl ⟨by rfl, ?_⟩) (.inr hT) ?_
      rotate_left
      · (intro wT _; go_simp <;> with_reducible rfl)
      simp only [Act.put, List.setIfInBounds_toArray, List.set_cons_zero, List.set_cons_succ]
      refine wpAnyW_take (i := 2) (some 40) rfl rfl (by kernel_rfl) (by kernel_rfl) (by kernel_rfl) (by kernel_rfl) (fun _ _ _ h => h) (v := ?_) (.inl ⟨by rfl, ?_⟩) (.inr hT) ?_
      rotate_left
      · (intro wT _; go_simp <;> with_reducible rfl)
      simp only [Act.put, List.setIfInBounds_toArray, List.set_cons_zero, List.set_cons_succ]
      refine wpAnyW_load (i := 3) (some 41) rfl rfl (by kernel_rfl) (by kernel_rfl) (by kernel_rfl) (by kernel_rfl) (by kernel_rfl) (fun _ _ _ h => h) (v := ?_) (.inl ⟨by rfl, ?_⟩) hT ?_
      rotate_left
      · (intro wT hT; try dsimp only at hT); (have t0 : wT.cell? ⟨g, 0, none⟩ = some (.slice (some ⟨b, 0, none⟩) nl nl) := (hT.cell (p := ⟨g, 0, none⟩) hglt).trans c0); (have t1 : wT.cell? ⟨b, i, none⟩ = some (.slice (some ⟨bl, o, none⟩) (nn + 1) cl) := (hT.cell (p := ⟨b, i, none⟩) hblt).trans d0); clear hT; (go_simp <;> with_reducible rfl)
      simp only [Act.put, List.setIfInBounds_toArray, List.set_cons_zero, List.set_cons_succ]
      refine wpAnyW_take (i := 4) (some 42) rfl rfl (by kernel_rfl) (by kernel_rfl) (by kernel_rfl) (by kernel_rfl) (fun _ _ _ h => h) (v := ?_) (.inl ⟨by rfl, ?_⟩) (.inr hT) ?_
      rotate_left
      · (intro wT _; go_simp <;> with_reducible rfl)
      simp only [Act.put, List.setIfInBounds_toArray, List.set_cons_zero, List.set_cons_succ]
      refine wpAnyW_take (i := 6) (some 44) rfl rfl (by kernel_rfl) (by kernel_rfl) (by kernel_rfl) (by kernel_rfl) (fun _ _ _ h => h) (v := ?_) (.inl ⟨by rfl, ?_⟩) (.inr hT) ?_
      rotate_left
      · (intro wT _; go_simp <;> with_reducible rfl)
      simp only [Act.put, List.setIfInBounds_toArray, List.set_cons_zero, List.set_cons_succ]
      refine wpAnyW_take (i := 7) (some 45) rfl rfl (by kernel_rfl) (by kernel_rfl) (by kernel_rfl) (by kernel_rfl) (fun _ _ _ h => h) (v := ?_) (.inl ⟨by rfl, ?_⟩) (.inr hT) ?_
      rotate_left
      · (intro wT _; go_simp <;> with_reducible rfl)
      simp only [Act.put, List.setIfInBounds_toArray, List.set_cons_zero, List.set_cons_succ]
      refine wpAnyW_take (i := 8) (some 46) rfl rfl (by kernel_rfl) (by kernel_rfl) (by kernel_rfl) (by kernel_rfl) (fun _ _ _ h => h) (v := ?_) (.inl ⟨by rfl, ?_⟩) (.inr hT) ?_
      rotate_left
      · (intro wT _; go_simp <;> with_reducible rfl)
      simp only [Act.put, List.setIfInBounds_toArray, List.set_cons_zero, List.set_cons_succ]
      refine wpAnyW_load (i := 9) (some 47) rfl rfl (by kernel_rfl) (by kernel_rfl) (by kernel_rfl) (by kernel_rfl) (by kernel_rfl) (fun _ _ _ h => h) (v := ?_) (.inl ⟨by rfl, ?_⟩) hT ?_
      rotate_left
      · (intro wT hT; try dsimp only at hT); (have t0 : wT.cell? ⟨g, 0, none⟩ = some (.slice (some ⟨b, 0, none⟩) nl nl) := (hT.cell (p := ⟨g, 0, none⟩) hglt).trans c0); (have t1 : wT.cell? ⟨b, i, none⟩ = some (.slice (some ⟨bl, o, none⟩) (nn + 1) cl) := (hT.cell (p := ⟨b, i, none⟩) hblt).trans d0); clear hT; (go_simp <;> with_reducible rfl)
      simp only [Act.put, List.setIfInBounds_toArray, List.set_cons_zero, List.set_cons_succ]
      refine wpAnyW_take (i := 10) (some 48) rfl rfl (by kernel_rfl) (by kernel_rfl) (by kernel_rfl) (by kernel_rfl) (fun _ _ _ h => h) (v := ?_) (.inl ⟨by rfl, ?_⟩) (.inr hT) ?_
      rotate_left
      · (intro wT _; go_simp <;> with_reducible rfl)
      simp only [Act.put, List.setIfInBounds_toArray, List.set_cons_zero, List.set_cons_succ]
      refine wpAnyW_take (i := 11) (some 49) rfl rfl (by kernel_rfl) (by kernel_rfl) (by kernel_rfl) (by kernel_rfl) (fun _ _ _ h => h) (v := ?_) (.inl ⟨by rfl, ?_⟩) (.inr hT) ?_
      rotate_left
      · (intro wT _; go_simp <;> with_reducible rfl)
      simp only [Act.put, List.setIfInBounds_toArray, List.set_cons_zero, List.set_cons_succ]
      refine wpAnyW_load (i := 12) (some 50) rfl rfl (by kernel_rfl) (by kernel_rfl) (by kernel_rfl) (by kernel_rfl) (by kernel_rfl) (fun _ _ _ h => h) (v := ?_) (.inl ⟨by rfl, ?_⟩) hT ?_
      rotate_left
      · (intro wT hT; try dsimp only at hT); (have t0 : wT.cell? ⟨g, 0, none⟩ = some (.slice (some ⟨b, 0, none⟩) nl nl) := (hT.cell (p := ⟨g, 0, none⟩) hglt).trans c0); (have t1 : wT.cell? ⟨b, i, none⟩ = some (.slice (some ⟨bl, o, none⟩) (nn + 1) cl) := (hT.cell (p := ⟨b, i, none⟩) hblt).trans d0); clear hT; (go_simp <;> with_reducible rfl)
      simp only [Act.put, List.setIfInBounds_toArray, List.set_cons_zero, List.set_cons_succ]
      refine wpAnyW_take (i := 13) (some 51) rfl rfl (by kernel_rfl) (by kernel_rfl) (by kernel_rfl) (by kernel_rfl) (fun _ _ _ h => h) (v := ?_) (.inl ⟨by rfl, ?_⟩) (.inr hT) ?_
      rotate_left
      · (intro wT _; go_simp <;> with_reducible rfl)
      simp only [Act.put, List.setIfInBounds_toArray, List.set_cons_zero, List.set_cons_succ]
      refine wpAnyW_one (i := 5) (by kernel_rfl) rfl (fun K hK => ?_)
      go_simp
      refine name_world (fun W5 hW5 => ?_)
      have hb5 : Below w.heap.size w W5 := by rw [hW5]; exact (⟨rfl, rfl, rfl, Nat.le_refl _, fun _ _ => rfl⟩ : Below w.heap.size w w.drew).alloc (Nat.le_refl _) _
      have own5 : W5.ownsRow w.heap.size 3 1 (.slice (some ⟨w.heap.size, 0, none⟩) 0 0) 0 [] := by rw [hW5]; exact owns_empty _ _ _ (Nat.le_refl _)
      clear hW5
      refine step_owe hK ?_ (fun hT => ?_)
      · first | exact hb5 | exact hb14
      clear hK K
      refine wpAnyW_one (i := 14) (by kernel_rfl) rfl (fun K hK => ?_)
      refine step_append_from (by rfl) (.tmp 43) (.tmp 51) 37 (by rfl) w.heap.size 3 i0 (.int .i64 0) 1 8 Try.underlying37 HI.out hz0 hz1 hz2 rfl (by omega) (.slice (some ⟨w.heap.size, 0, none⟩) 0 0) 0 [] (by rfl) own5 (.slice (some ⟨bl, o + 1, none⟩) nn (cl - 1)) nn (ints (asInts r)) (by rfl) (HSRC.out.frame (fun k hk => hb5.block k (by simp only [Value.ownBlock, Option.some.injEq] at hk; subst hk; exact hblt'))) (.inr ⟨_, _, _, _, rfl⟩) (ints_one _) (by unfold maxLen; omega) (by omega) hb5.size ?_
      intro v14 W14 own14 grow14 at14
      simp only [Nat.zero_add, List.nil_append] at own14
      have hb14 : Below w.heap.size w W14 := hb5.grown grow14 hb5.size (fun k hk => by simp only [Value.ownBlock, Option.some.injEq] at hk; subst hk; exact Nat.le_refl _)
      obtain ⟨a14, c14, rfl, _, _, _⟩ := owns_shape own14
      have HQ14 := Lib.hid (H.out.below hb14)
      have z14 := HQ14.out.free i
      have m14 : W14.cell? ⟨b, i, none⟩ = some (.slice (some ⟨bl, o, none⟩) (nn + 1) cl) := (hb14.cell (p := ⟨b, i, none⟩) hblt).trans d0
      refine step_owe hK ?_ (fun hT => ?_)
      · first | exact hb5 | exact hb14
      clear hK K
      refine wpAnyW_take (i := 15) (some 53) rfl rfl (by kernel_rfl) (by kernel_rfl) (by kernel_rfl) (by kernel_rfl) (fun _ _ _ h => h) (v := ?_) (.inl ⟨by rfl, ?_⟩) (.inr hT) ?_
      rotate_left
      · (intro wT _; go_simp <;> with_reducible rfl)
      simp only [Act.put, List.setIfInBounds_toArray, List.set_cons_zero, List.set_cons_succ]
      refine wpAnyW_one (i := 16) (by kernel_rfl) rfl (fun K hK => ?_)
      go_simp
      refine step_paid hK (by kernel_rfl) ?_
      clear hK K
      refine wpAnyW_done (by kernel_rfl) ?_
      go_wp2_with fail
      go_ret2
      have hrow : RowV W14 n0 g b (.slice a14 nn c14) r := RowV.of_owns (B := w.heap.size) (e := 3) (HNN.out ▸ own14) hn0 hglt hblt
      exact ⟨rfl, HQ14.out.set i hrow, Ext.setCell (F := fun k => k = b) (Ext.of_below hb14) (p := ⟨b, i, none⟩) (fun _ => rfl) _⟩
end Go.Proofs.Ytkiogbenbicghaa
