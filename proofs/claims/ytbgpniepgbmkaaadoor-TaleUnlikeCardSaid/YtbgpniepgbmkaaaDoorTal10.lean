/- Words of one line, found (slices.IndexFunc with tale.Read's own function), and slices.Clip of entries. Conditions: the words can be read. -/
import Derived.Test.YtbgpniepgbmkaaaDoorTal9
namespace Go.Proofs.YtbgpniepgbmkaaaDoor
open Go.RowKit BigFrame Go.BigFrame

/-- What Read's own closure needs. -/
def EW (w : World) (wb bl o n c : Nat) (ln : Int) : Prop := w.cell? ⟨wb, 0, none⟩ = some (.slice (some ⟨bl, o, none⟩) n c) ∧ w.cell? ⟨bl, o + 1, none⟩ = some (.int .i64 ln)
theorem EW.below {w w' : World} {wb bl o n c : Nat} {ln : Int} (h : EW w wb bl o n c ln) (hb : Below w.heap.size w w') : EW w' wb bl o n c ln :=
  ⟨below_cell1 hb (block_lt_of_cell h.1) h.1, below_cell1 hb (block_lt_of_cell h.2) h.2⟩
set_option maxRecDepth 100000 in
set_option maxHeartbeats 4000000 in
theorem read1_calls (tx : ByteArray) (ln ca l0 : Int) {wb bl o n c : Nat} (hn : 0 < n) (hm : n ≤ 9223372036854775807) (w : World) (hc : EW w wb bl o n c l0) :
    Calls Tryd.prog 22 #[.agg #[.string tx, .int .i64 ln, .int .i64 ca], .pointer (some ⟨wb, 0, none⟩)] w fun e w' => e = .returned (.bool (!decide (ln = l0))) ∧ Below w.heap.size w w' := by
  have HC := Lib.hid (hc.below (plus_one1 w (.cells #[.string tx, .int .i64 ln, .int .i64 ca] 63)))
  have hn1 : (0 : Int) < (n : Int) := by omega
  have HX := Lib.hid (heap_alloc_new w (.cells #[.string tx, .int .i64 ln, .int .i64 ca] 63))
  have HB := Lib.hid (plus_one1 w (.cells #[.string tx, .int .i64 ln, .int .i64 ca] 63))
  have HT := Lib.hid (show (!decide (ln = l0)) = (ln != l0) by by_cases h : ln = l0 <;> simp [h])
  clear hc
  go_enter Tryd.func22, Tryd.ntmps22
  go_upto_region 1 with (fail)
  obtain ⟨db, hdb⟩ : ∃ db, db = w.heap.size := ⟨_, rfl⟩
  rw [← hdb] at HX ⊢
  generalize w.alloc (.cells #[.string tx, .int .i64 ln, .int .i64 ca] 63) = w1 at HX HB HC ⊢
  clear hdb
  have f0 : ∀ t : BW w1, t.at_.cell? ⟨db, 1, none⟩ = some (.int .i64 ln) := bw_cell (lt_of_block HX.out) (blk_cell HX.out 1)
  have f1 : ∀ t : BW w1, t.at_.cell? ⟨wb, 0, none⟩ = some (.slice (some ⟨bl, o, none⟩) n c) := bw_cell (block_lt_of_cell HC.out.1) HC.out.1
  have f2 : ∀ t : BW w1, t.at_.cell? ⟨bl, o + 1, none⟩ = some (.int .i64 l0) := bw_cell (block_lt_of_cell HC.out.2) HC.out.2
  refine wp_region_quiet_bw (by kernel_rfl) (by kernel_rfl) ?_
  repeat (go_big_quiet_step (fail))
  refine wpQuiet_nil ?_
  intro _ hw'
  obtain ⟨tq, rfl⟩ := hw'
  have HB6 := Lib.hid (HB.out.trans (tq.ok.mono HB.out.size))
  clear f0 f1 f2
  go_wp2_with fail
  go_ret
  rw [HT.out]
  exact ⟨rfl, HB6.out⟩
/-- How many words of the line stand ahead. -/
def lnLen (L : List Wd) (l0 : Int) : Nat := (L.takeWhile (fun d => decide (d.ln = l0))).length
def lnIx (L : List Wd) (l0 : Int) : Int := if lnLen L l0 < L.length then (lnLen L l0 : Int) else -1
theorem lnLen_le (L : List Wd) (l0 : Int) : lnLen L l0 ≤ L.length := by
  unfold lnLen
  exact List.Sublist.length_le (List.takeWhile_sublist _)
theorem lnIx_hit {L : List Wd} {l0 : Int} {j : Nat} {d : Wd} (hno : ∀ x ∈ L.take j, x.ln = l0) (hd : L[j]? = some d) (h : ¬ d.ln = l0) : lnIx L l0 = (j : Int) := by
  have hj := (List.getElem?_eq_some_iff.1 hd).1
  have hl : L = L.take j ++ d :: L.drop (j + 1) := by
    refine (List.take_append_drop j L).symm.trans ?_
    rw [List.drop_eq_getElem_cons hj, (List.getElem?_eq_some_iff.1 hd).2]
  have e : lnLen L l0 = j := by
    unfold lnLen
    conv => lhs; rw [hl]
    rw [List.takeWhile_append_of_pos (fun x hx => decide_eq_true (hno x hx)), List.takeWhile_cons, decide_eq_false h]
    simp
    omega
  unfold lnIx
  rw [e, if_pos hj]
theorem lnIx_none {L : List Wd} {l0 : Int} (hno : ∀ x ∈ L, x.ln = l0) : lnIx L l0 = -1 := by
  have e : lnLen L l0 = L.length := by
    unfold lnLen
    have : L.takeWhile (fun d => decide (d.ln = l0)) = L := by
      have := List.takeWhile_append_of_pos (l₁ := L) (l₂ := []) (p := fun d : Wd => decide (d.ln = l0)) (fun x hx => decide_eq_true (hno x hx))
      simpa using this
    rw [this]
  unfold lnIx
  rw [e, if_neg (Nat.lt_irrefl _)]
set_option maxRecDepth 100000 in
set_option maxHeartbeats 4000000 in
theorem indexFuncW_calls {w : World} {v : Value} {n : Nat} {L : List Wd} (h : Reads w 3 v n (L.flatMap wdCells)) (hl : L.length = n) (l0 : Int) {wb b2 o2 k cw : Nat} (hk2 : 0 < k) (hkm : k ≤ 9223372036854775807) (hc : EW w wb b2 o2 k cw l0) :
    Calls Tryd.prog 21 #[v, .func (.func 22) #[] #[.pointer (some ⟨wb, 0, none⟩)]] w fun e w' => e = .returned (.int .i64 (lnIx L l0)) ∧ Below w.heap.size w w' := by
  have hlt := h.lt
  have h' := h
  obtain ⟨_, a, c, rfl, h2, h3, h4⟩ := h
  unfold maxLen at h3
  have HL := Lib.hid hl
  have H4 := Lib.hid (fun hn : 0 < n => show ∃ bl o, a = some ⟨bl, o, none⟩ ∧ bl < w.heap.size from by
    obtain ⟨bl, o, e, _⟩ := h4 hn
    exact ⟨bl, o, e, hlt hn (by omega) bl (by rw [e]; rfl)⟩)
  have HR := Lib.hid h'
  have HC := Lib.hid hc
  clear h4 hc h' hlt hl
  go_enter Tryd.func21, Tryd.ntmps21
  go_wp2_with fail
  go_loopw [8] (fun u wr => ∃ j : Nat, u = .int .i64 j ∧ j ≤ n ∧ (∀ d ∈ L.take j, d.ln = l0) ∧ Below w.heap.size w wr) (fun u _ => n - (intOf u).toNat)
  case atStart => exact ⟨0, rfl, Nat.zero_le _, by simp, Below.refl _ _⟩
  case round =>
    obtain ⟨j, rfl, hj, hno, hb⟩ := hrel
    have HNO := Lib.hid hno
    have HB := Lib.hid hb
    have hjz : (0 : Int) ≤ (j : Int) := Int.natCast_nonneg _
    clear hno hb
    by_cases hc : j < n
    · have hc' : (j : Int) < (n : Int) := by omega
      obtain ⟨d, hd⟩ : ∃ d, L[j]? = some d := ⟨_, List.getElem?_eq_getElem (by rw [HL.out]; exact hc)⟩
      obtain ⟨bl, o, rfl, hbl⟩ := H4.out (by omega)
      have k0 := below_cell1 HB.out hbl (rows_at (f := wdCells) HR.out (fun x _ => wd_len x) hd hc (j := 0) rfl)
      have k1 := below_cell1 HB.out hbl (rows_at (f := wdCells) HR.out (fun x _ => wd_len x) hd hc (j := 1) rfl)
      have k2 := below_cell1 HB.out hbl (rows_at (f := wdCells) HR.out (fun x _ => wd_len x) hd hc (j := 2) rfl)
      rw [Nat.add_zero] at k0
      have HF := Lib.hid (read1_calls d.tx d.ln d.co l0 hk2 hkm wr (HC.out.below HB.out))
      have HX := Lib.hid (fun h : ¬ d.ln = l0 => lnIx_hit HNO.out hd h)
      have HY := Lib.hid (fun h : d.ln = l0 => show ∀ x ∈ L.take (j + 1), x.ln = l0 from by
        rw [List.take_add_one, hd]
        intro x hx
        rcases List.mem_append.1 hx with hx | hx
        · exact HNO.out x hx
        · have : x = d := by simpa using hx
          rw [this]
          exact h)
      obtain ⟨tx, ln, ca⟩ := d
      simp only at k0 k1 k2 HF HX HY
      clear hd
      by_cases hx : ln = l0
      · have HV := Lib.hid (HY.out hx)
        rw [decide_eq_true hx] at HF
        clear hx
        go_wp2_with fail
        refine HF.out.mono ?_
        rintro e w4 ⟨rfl, hb4⟩
        have HB4 := Lib.hid (HB.out.trans (hb4.mono HB.out.size))
        clear hb4
        go_wp2_with fail
        go_roundw
        case rel => exact ⟨j + 1, by go_num, by omega, HV.out, HB4.out⟩
        case measure => simp [intOf]; omega
      · have HV := Lib.hid (HX.out hx)
        rw [decide_eq_false hx] at HF
        clear hx
        go_wp2_with fail
        refine HF.out.mono ?_
        rintro e w4 ⟨rfl, hb4⟩
        have HB4 := Lib.hid (HB.out.trans (hb4.mono HB.out.size))
        clear hb4
        go_wp2_with fail
        go_ret
        rw [HV.out]
        exact ⟨rfl, HB4.out⟩
    · obtain rfl : j = n := by omega
      have hc' : ¬ (j : Int) < (j : Int) := by omega
      have HV := Lib.hid (lnIx_none (L := L) (l0 := l0) (by
        have := HNO.out
        rwa [List.take_of_length_le (by rw [HL.out]; exact Nat.le_refl _)] at this))
      go_wp2_with fail
      go_ret
      rw [HV.out]
      exact ⟨rfl, HB.out⟩
theorem clipE_calls {a : Option Addr} {n cap : Nat} (h : n ≤ cap) (_hm : cap ≤ maxLen) (w : World) :
    Calls Tryd.prog 24 #[.slice a n cap] w fun e w' => e = .returned (.slice a n n) ∧ w = w' := by
  unfold maxLen at _hm
  cases a
  all_goals
    go_enter Tryd.func24, Tryd.ntmps24
    go_wp2
    go_ret
    exact ⟨rfl, rfl⟩
theorem Tryd.info_en : (Tryd.prog.info? 28).map (fun i => (i.zero, i.size, i.bytes)) = some (some (.agg #[.int .i64 0, .int .i64 0, .int .i64 0, .int .i64 0, .int .i64 0, .int .i64 0, .int .i64 0]), 7, 56) := by kernel_rfl
theorem en_len (x : En) : (enCells x).length = 7 := rfl
theorem en_one (x : En) : ∀ u ∈ enCells x, u.oneCell' = true := by
  intro u hu
  simp only [enCells, List.mem_cons, List.not_mem_nil, or_false] at hu
  rcases hu with rfl | rfl | rfl | rfl | rfl | rfl | rfl <;> rfl
/-- The block of a list of words stays where a list of entries grows. -/
theorem WB.grownE {w w4 : World} {o : Obj} {u v : Value} {B n : Nat} {xs : List Value} (h : WB w v) (hown : w.ownsRow B 28 7 u n xs) (hgr : (w.alloc o).grownBy w4 u.ownBlock) : ∀ k, v.ownBlock = some k → w4.heap[k]? = w.heap[k]? := by
  intro k hk
  obtain ⟨cs, fr, hc⟩ := h k hk
  refine (hgr.block k (Nat.lt_of_lt_of_le (lt_of_block hc) (plus_one1 w o).size) (fun e => ?_)).trans (Below.heap_alloc w o k (lt_of_block hc))
  obtain ⟨_, _, hc2⟩ := owns_type1 hown e.symm
  exact types_apart1 hc hc2 (by decide) rfl
theorem blk_grownE {w w4 : World} {o : Obj} {u : Value} {B n k : Nat} {xs : List Value} {cs : Array Value} {T : TypeId} {fr : Nat × Nat} (h : w.heap[k]? = some (.cells cs T fr)) (hT : T ≠ 28) (hown : w.ownsRow B 28 7 u n xs) (hgr : (w.alloc o).grownBy w4 u.ownBlock) : w4.heap[k]? = some (.cells cs T fr) := by
  refine ((hgr.block k (Nat.lt_of_lt_of_le (lt_of_block h) (plus_one1 w o).size) (fun e => ?_)).trans (Below.heap_alloc w o k (lt_of_block h))).trans h
  obtain ⟨_, _, hc2⟩ := owns_type1 hown e.symm
  exact types_apart1 h hc2 hT rfl
end Go.Proofs.YtbgpniepgbmkaaaDoor
