/- What policy.Parse does. Conditions: the text is at most 2^47 bytes, the library's table is laid (Tab). -/
import Derived.Test.YtkjhgfjlknbdkaaDoorLineE
namespace Go.Proofs.YtkjhgfjlknbdkaaDoor
open Go.RowKit BigFrame Go.BigFrame

theorem results_cell_tmp2 {fn : Func} {p u x : Tmp} {ty : TypeId} (h : fn.results = #[.cell p ty, .tmp u, .tmp x]) (tmps : Array Value) (P : Program) (w : World) :
    (results fn tmps).run P w =
      ((asAddr (tmps.getD p undef)).run P w).andThen fun a w₁ => ((loadVar ty a).run P w₁).andThen fun v w₂ => .ok (.tuple #[v, tmps.getD u undef, tmps.getD x undef]) w₂ := by
  simp only [results, h]
  simp [Sem.run_bind, Result.andThen]
theorem pol_load {w : World} {b : Nat} {vd vs vl : Value} (h : w.heap[b]? = some (.cells #[vd, vs, vl] 26 (0, 0))) : (loadVar 26 ⟨b, 0, none⟩).run Tryd.prog w = .ok (.agg #[vd, vs, vl]) w :=
  run_loadVar_row w b _ _ _ _ _ h Tryd.underlying26 rfl (by kernel_rfl)
set_option maxRecDepth 100000 in
theorem pol_ret {fn : Func} {p u x : Tmp} (h : fn.results = #[.cell p 26, .tmp u, .tmp x]) (tmps : Array Value) (w : World) (b : Nat) (vd vs vl : Value) (hp : tmps.getD p undef = .pointer (some ⟨b, 0, none⟩)) (hb : w.heap[b]? = some (.cells #[vd, vs, vl] 26 (0, 0))) :
    (results fn tmps).run Tryd.prog w = .ok (.tuple #[.agg #[vd, vs, vl], tmps.getD u undef, tmps.getD x undef]) w := by
  rw [results_cell_tmp2 h, hp]
  show ((loadVar 26 ⟨b, 0, none⟩).run Tryd.prog w).andThen _ = _
  rw [pol_load hb]
  rfl
def noP : P3 := ⟨[], [], []⟩
/-- The lines of a text's words, one by one. -/
def parseRun : Nat → P3 → List Wd → P3 × Int × Int
  | 0, p, _ => (p, 0, 0)
  | _ + 1, p, [] => (p, 0, 0)
  | f + 1, p, a :: L =>
    if (lineM p (((a :: L).takeWhile (fun d => decide (d.ln = a.ln))).map Wd.tx)).1 = 0 then
      parseRun f (lineM p (((a :: L).takeWhile (fun d => decide (d.ln = a.ln))).map Wd.tx)).2 ((a :: L).dropWhile (fun d => decide (d.ln = a.ln)))
    else (noP, a.ln, (lineM p (((a :: L).takeWhile (fun d => decide (d.ln = a.ln))).map Wd.tx)).1)
def endM (r : P3 × Int × Int) : P3 × Int × Int := if r.2.2 = 0 then (if checkM r.1.D r.1.S r.1.K = 0 then (r.1, 0, 0) else (noP, 0, checkM r.1.D r.1.S r.1.K)) else r
def parseM (s : ByteArray) : P3 × Int × Int := if (lexM s).2.1 = 0 then endM (parseRun (lexM s).1.length noP (lexM s).1) else (noP, (lexM s).2.2.1, (lexM s).2.1)
/-- How long things may be on the way. -/
structure PB (p : P3) (L : List Wd) : Prop where
  d : p.D.length + L.length ≤ 4097
  s : p.S.length + L.length ≤ 4097
  k : p.K.length + L.length ≤ 4097
  n : ∀ x ∈ p.D, x.nm.size ≤ 4096
  t : ∀ x ∈ L, x.tx.size ≤ 4096
theorem lineM_len (p : P3) (W : List ByteArray) : (lineM p W).2.D.length ≤ p.D.length + 1 ∧ (lineM p W).2.S.length ≤ p.S.length + 1 ∧ (lineM p W).2.K.length ≤ p.K.length + 1 := by
  unfold lineM
  split
  · split
    · refine ⟨?_, by simp, by simp⟩
      simp only [domD]
      split <;> simp
    · exact ⟨by simp, by simp, by simp⟩
  · split
    · refine ⟨by simp, ?_, by simp⟩
      simp only [slotS]
      split <;> simp
    · exact ⟨by simp, by simp, by simp⟩
  · split
    · refine ⟨by simp, by simp, ?_⟩
      simp only [linkK]
      split <;> simp
    · split
      · refine ⟨by simp, by simp, ?_⟩
        simp only [linkK]
        split <;> simp
      · exact ⟨by simp, by simp, by simp⟩
  · exact ⟨by simp, by simp, by simp⟩
theorem lineM_nm {p : P3} {W : List ByteArray} (h : ∀ x ∈ p.D, x.nm.size ≤ 4096) (hW : ∀ x ∈ W, x.size ≤ 4096) : ∀ x ∈ (lineM p W).2.D, x.nm.size ≤ 4096 := by
  unfold lineM
  split
  · split
    · simp only [domD]
      split
      · intro x hx
        rcases List.mem_append.1 hx with hx | hx
        · exact h x hx
        · rw [List.mem_singleton] at hx
          rw [hx]
          exact hW _ (by simp [domV])
      · exact h
    · exact h
  · split <;> exact h
  · split
    · exact h
    · split <;> exact h
  · exact h
theorem PB.step {p : P3} {L T R : List Wd} (h : PB p L) (hl : L = T ++ R) (ht : 1 ≤ T.length) : PB (lineM p (T.map Wd.tx)).2 R := by
  obtain ⟨h1, h2, h3, h4, h5⟩ := h
  subst hl
  obtain ⟨e1, e2, e3⟩ := lineM_len p (T.map Wd.tx)
  rw [List.length_append] at h1 h2 h3
  refine ⟨by omega, by omega, by omega, lineM_nm h4 ?_, fun x hx => h5 x (by simp [hx])⟩
  intro x hx
  obtain ⟨d, hd, rfl⟩ := List.mem_map.1 hx
  exact h5 d (by simp [hd])
theorem split_ln {a : Wd} {L T R : List Wd} (hl : a :: L = T ++ R) (hT : ∀ d ∈ T, d.ln = a.ln) (hR : R = [] ∨ ∃ d R', R = d :: R' ∧ d.ln ≠ a.ln) :
    (a :: L).takeWhile (fun d => decide (d.ln = a.ln)) = T ∧ (a :: L).dropWhile (fun d => decide (d.ln = a.ln)) = R ∧ 1 ≤ T.length := by
  refine ⟨?_, ?_, ?_⟩
  · rw [hl, List.takeWhile_append_of_pos (fun d hd => decide_eq_true (hT d hd))]
    rcases hR with rfl | ⟨d, R', rfl, hd⟩
    · simp
    · rw [List.takeWhile_cons, decide_eq_false hd]
      simp
  · rw [hl, List.dropWhile_append_of_pos (fun d hd => decide_eq_true (hT d hd))]
    rcases hR with rfl | ⟨d, R', rfl, hd⟩
    · simp
    · rw [List.dropWhile_cons, decide_eq_false hd]
      simp
  · cases T with
    | nil =>
      exfalso
      rw [List.nil_append] at hl
      subst hl
      rcases hR with h | ⟨d, R', h, hd⟩
      · cases h
      · injection h with e1 e2
        exact hd (by rw [e1])
    | cons => simp
/-- A policy that can be read. -/
structure PR (w : World) (vd vs vl : Value) (p : P3) : Prop where
  d : Reads w 6 vd p.D.length (p.D.flatMap Dm.cells)
  s : Reads w 2 vs p.S.length (p.S.flatMap slCells)
  k : Reads w 4 vl p.K.length (p.K.flatMap lkCells)
theorem PO.pr {w0 w : World} {pb : Nat} {p : P3} {vd vs vl : Value} (h : PO w0 w pb p.D p.S p.K vd vs vl) : PR w vd vs vl p := ⟨Reads.of_owns h.d, Reads.of_owns h.s, Reads.of_owns h.k⟩
theorem PR.empty (w : World) : PR w (.slice none 0 0) (.slice none 0 0) (.slice none 0 0) noP := ⟨Reads.nil _ _, Reads.nil _ _, Reads.nil _ _⟩
/-- The block of a list of words. -/
def WB (w : World) (v : Value) : Prop := ∀ k, v.ownBlock = some k → ∃ cs fr, w.heap[k]? = some (.cells cs 64 fr)
def vlen : Value → Nat
  | .slice _ n _ => n
  | _ => 0
section
variable {w0 w w1 : World} {pb : Nat} {D : List Dm} {S : List (Int × Int)} {K : List Lk} {vd vs vl v : Value}
theorem WB.pof (h : WB w v) (hp : PO w0 w pb D S K vd vs vl) (hf : POF w w1 pb vd vs vl) : ∀ k, v.ownBlock = some k → w1.heap[k]? = w.heap[k]? := by
  intro k hk
  obtain ⟨cs, fr, hc⟩ := h k hk
  refine hf.block k (lt_of_block hc) (types_apart1 hc hp.blk (by decide)) (fun e => ?_) (fun e => ?_) (fun e => ?_)
  · obtain ⟨_, _, hc2⟩ := owns_type1 hp.d e
    exact types_apart1 hc hc2 (by decide) rfl
  · obtain ⟨_, _, hc2⟩ := owns_type1 hp.s e
    exact types_apart1 hc hc2 (by decide) rfl
  · obtain ⟨_, _, hc2⟩ := owns_type1 hp.k e
    exact types_apart1 hc hc2 (by decide) rfl
theorem WB.same (h : WB w v) (hs : ∀ k, v.ownBlock = some k → w1.heap[k]? = w.heap[k]?) : WB w1 v := fun k hk => by rw [hs k hk]; exact h k hk
theorem WB.grown {w w4 : World} {o : Obj} {u : Value} {B n : Nat} {xs : List Value} (h : WB w v) (hown : w.ownsRow B 9 1 u n xs) (hgr : (w.alloc o).grownBy w4 u.ownBlock) : ∀ k, v.ownBlock = some k → w4.heap[k]? = w.heap[k]? := by
  intro k hk
  obtain ⟨cs, fr, hc⟩ := h k hk
  refine (hgr.block k (Nat.lt_of_lt_of_le (lt_of_block hc) (plus_one1 w o).size) (fun e => ?_)).trans (Below.heap_alloc w o k (lt_of_block hc))
  obtain ⟨_, _, hc2⟩ := owns_type1 hown e.symm
  exact types_apart1 hc hc2 (by decide) rfl
theorem WB.below (h : WB w v) (hb : Below w.heap.size w w1) : WB w1 v := h.same (fun k hk => by obtain ⟨_, _, hc⟩ := h k hk; exact hb.block k (lt_of_block hc))
end
theorem PO.put {w0 w : World} {pb : Nat} {D : List Dm} {S : List (Int × Int)} {K : List Lk} {vd vs vl : Value} (h : PO w0 w pb D S K vd vs vl) (x y z : Value) :
    (((w.setCell ⟨pb, 0, none⟩ x).setCell ⟨pb, 1, none⟩ y).setCell ⟨pb, 2, none⟩ z).heap[pb]? = some (.cells #[x, y, z] 26 (0, 0)) ∧ Below w0.heap.size w0 (((w.setCell ⟨pb, 0, none⟩ x).setCell ⟨pb, 1, none⟩ y).setCell ⟨pb, 2, none⟩ z) :=
  ⟨by have := blk_set (blk_set (blk_set h.blk 0 x) 1 y) 2 z; simpa using this, ((h.b.setCell (p := ⟨pb, 0, none⟩) h.ge x).setCell (p := ⟨pb, 1, none⟩) h.ge y).setCell (p := ⟨pb, 2, none⟩) h.ge z⟩
theorem pr_put {w0 w : World} {pb : Nat} {p : P3} {vd vs vl : Value} (h : PO w0 w pb p.D p.S p.K vd vs vl) (x y z : Value) : PR (((w.setCell ⟨pb, 0, none⟩ x).setCell ⟨pb, 1, none⟩ y).setCell ⟨pb, 2, none⟩ z) vd vs vl p := by
  have hs : ∀ k, k ≠ pb → (((w.setCell ⟨pb, 0, none⟩ x).setCell ⟨pb, 1, none⟩ y).setCell ⟨pb, 2, none⟩ z).heap[k]? = w.heap[k]? := fun k hk => (heap_setCell_other _ _ _ _ hk).trans ((heap_setCell_other _ _ _ _ hk).trans (heap_setCell_other _ _ _ _ hk))
  exact ⟨h.pr.d.frame (fun k hk => hs k (h.nd hk)), h.pr.s.frame (fun k hk => hs k (h.ns hk)), h.pr.k.frame (fun k hk => hs k (h.nk hk))⟩
theorem wd_len (d : Wd) : (wdCells d).length = 3 := rfl
theorem reads_vlen {w : World} {k n : Nat} {v : Value} {xs : List Value} (h : Reads w k v n xs) : vlen v = n := by
  obtain ⟨_, _, _, rfl, _⟩ := h
  rfl
theorem words_open {w : World} {v : Value} {d : Wd} {R : List Wd} (h : Reads w 3 v (d :: R).length ((d :: R).flatMap wdCells)) : ∃ bl o c, v = .slice (some ⟨bl, o, none⟩) (R.length + 1) c ∧ R.length + 1 ≤ c ∧ c ≤ maxLen ∧ w.cell? ⟨bl, o, none⟩ = some (.string d.tx) ∧ w.cell? ⟨bl, o + 1, none⟩ = some (.int .i64 d.ln) ∧
    (c = 1 → Reads w 3 (.slice (some ⟨bl, o, none⟩) 0 0) R.length (R.flatMap wdCells)) ∧ (c ≠ 1 → Reads w 3 (.slice (some ⟨bl, o + 3, none⟩) R.length (c - 1)) R.length (R.flatMap wdCells)) := by
  obtain ⟨h1, a, c, rfl, h2, h3, h4⟩ := h
  obtain ⟨bl, o, rfl, hc⟩ := h4 (by simp)
  have hlen : (R.flatMap wdCells).length = R.length * 3 := by
    rw [List.flatMap_cons, List.length_append, wd_len, List.length_cons] at h1
    omega
  rw [List.length_cons] at h2 ⊢
  refine ⟨bl, o, c, rfl, h2, h3, hc 0 _ rfl, hc 1 _ rfl, fun hc1 => ?_, fun hc1 => ⟨hlen, _, _, rfl, by omega, by omega, fun _ => ⟨_, _, rfl, fun j u hj => ?_⟩⟩⟩
  · have h0 : R = [] := List.eq_nil_of_length_eq_zero (by omega)
    subst h0
    exact ⟨rfl, _, _, rfl, Nat.le_refl _, Nat.zero_le _, fun h => by simp at h⟩
  · rw [Nat.add_assoc]
    refine hc _ _ ?_
    rw [List.flatMap_cons, List.getElem?_append_right (by rw [wd_len]; omega), wd_len, show 3 + j - 3 = j by omega]
    exact hj
theorem Tryd.info_str : (Tryd.prog.info? 9).map (fun i => (i.zero, i.size, i.bytes)) = some (some (.string ByteArray.empty), 1, 16) := by kernel_rfl
def headAt (R : List Wd) (x : Int) : Bool := match R with
  | [] => false
  | d :: _ => decide (d.ln = x)
theorem headAt_false {R : List Wd} {x : Int} (h : headAt R x = false) : R = [] ∨ ∃ d R', R = d :: R' ∧ d.ln ≠ x := by
  cases R with
  | nil => exact .inl rfl
  | cons d R' => exact .inr ⟨d, R', rfl, of_decide_eq_false h⟩
theorem headAt_true {R : List Wd} {x : Int} (h : headAt R x = true) : ∃ d R', R = d :: R' ∧ d.ln = x := by
  cases R with
  | nil => cases h
  | cons d R' => exact ⟨d, R', rfl, of_decide_eq_true h⟩
set_option maxRecDepth 100000 in
set_option maxHeartbeats 16000000 in
theorem parse_calls (s : ByteArray) (hs : s.size ≤ 140737488351232) (w : World) (ht : Tab w) :
    Calls Tryd.prog 15 #[.string s] w fun e w' => ∃ vd vs vl, e = .returned (.tuple #[.agg #[vd, vs, vl], .int .i64 (parseM s).2.1, .int .i64 (parseM s).2.2]) ∧ PR w' vd vs vl (parseM s).1 ∧ Below w.heap.size w w' := by
  have HT := Lib.hid ht
  have HM := Lib.hid (show parseM s = if (lexM s).2.1 = 0 then endM (parseRun (lexM s).1.length noP (lexM s).1) else (noP, (lexM s).2.2.1, (lexM s).2.1) from rfl)
  have HPB := Lib.hid (show PB noP (lexM s).1 from ⟨by have := lexM_len s; simpa [noP] using this, by have := lexM_len s; simpa [noP] using this, by have := lexM_len s; simpa [noP] using this, (by intro x hx; simp [noP] at hx), lexM_sz s⟩)
  have HWO := Lib.hid (fun u : World => words_calls s hs u)
  have HP0 := Lib.hid (show PO w (w.alloc (.cells #[.slice none 0 0, .slice none 0 0, .slice none 0 0] 26)) w.heap.size [] [] [] (.slice none 0 0) (.slice none 0 0) (.slice none 0 0) from
    ⟨heap_alloc_new w _, World.ownsRow_nil _ _ _ _, World.ownsRow_nil _ _ _ _, World.ownsRow_nil _ _ _ _, plus_one1 w _, Nat.le_refl _⟩)
  clear ht
  obtain ⟨⟨L, e, ln, co⟩, hl⟩ : ∃ q, lexM s = q := ⟨_, rfl⟩
  rw [hl] at HM HPB HWO
  simp only at HM HPB HWO
  clear hl
  go_enter Tryd.func15, Tryd.ntmps15
  go_wp2_with fail
  obtain ⟨pb, hpb⟩ : ∃ pb, pb = w.heap.size := ⟨_, rfl⟩
  rw [← hpb] at HP0 ⊢
  generalize w.alloc (.cells #[.slice none 0 0, .slice none 0 0, .slice none 0 0] 26) = w1 at HP0 ⊢
  clear hpb
  refine (HWO.out _).mono ?_
  rintro e w2 ⟨v, rfl, hr, hk, hb⟩
  have HP2 := Lib.hid (HP0.out.below hb)
  have HR2 := Lib.hid hr
  have HK2 := Lib.hid (show WB w2 v from fun k h => (hk k h).2)
  clear hr hk hb HWO HP0
  by_cases he : e = 0
  · subst he
    have HM2 := Lib.hid (show parseM s = endM (parseRun L.length noP L) by rw [HM.out, if_pos rfl])
    clear HM
    go_wp2_with fail
    go_loopw [5] (fun u5 wr => ∃ (L' : List Wd) (p : P3) (vd vs vl : Value) (f : Nat), Reads wr 3 u5 L'.length (L'.flatMap wdCells) ∧ WB wr u5 ∧ PO w wr pb p.D p.S p.K vd vs vl ∧ PB p L' ∧ parseRun L.length noP L = parseRun f p L' ∧ L'.length ≤ f) (fun u5 _ => vlen u5)
    case atStart => exact ⟨L, noP, _, _, _, L.length, HR2.out, HK2.out, HP2.out, HPB.out, rfl, Nat.le_refl _⟩
    case round =>
      obtain ⟨L', p, vd, vs, vl, f, hr, hk, hp, hpb, hrun, hf⟩ := hrel
      have HR := Lib.hid hr
      have HK := Lib.hid hk
      have HP := Lib.hid hp
      have HB := Lib.hid hpb
      have HRU := Lib.hid hrun
      clear hr hk hp hpb hrun HR2 HK2 HP2 HPB
      cases L' with
      | nil =>
        obtain ⟨_, a5, c5, rfl, _, _, _⟩ := HR.out
        have HV := Lib.hid (show parseM s = endM (p, 0, 0) by rw [HM2.out, HRU.out]; cases f <;> rfl)
        obtain ⟨ad, cd, rfl, d1, d2, _⟩ := owns_shape HP.out.d
        obtain ⟨as', cs, rfl, s1, s2, _⟩ := owns_shape HP.out.s
        obtain ⟨al, cl, rfl, l1, l2, _⟩ := owns_shape HP.out.k
        have q0 : wr.cell? ⟨pb, 0, none⟩ = some (.slice ad p.D.length cd) := blk_cell HP.out.blk 0
        have q1 : wr.cell? ⟨pb, 1, none⟩ = some (.slice as' p.S.length cs) := blk_cell HP.out.blk 1
        have q2 : wr.cell? ⟨pb, 2, none⟩ = some (.slice al p.K.length cl) := blk_cell HP.out.blk 2
        have HCH := Lib.hid (check_calls HP.out.pr.d HP.out.pr.s HP.out.pr.k (fun x hx => Nat.le_trans (HB.out.n x hx) (by decide)))
        generalize hch : checkM p.D p.S p.K = ch at HCH
        have HCE := Lib.hid hch
        have HV2 := Lib.hid (show parseM s = if ch = 0 then (p, 0, 0) else (noP, 0, ch) by rw [HV.out]; unfold endM; rw [if_pos rfl, hch])
        clear HM2 HRU HR HK hch d1 d2 s1 s2 l1 l2 HV
        go_wp2_with fail
        refine HCH.out.mono ?_
        rintro e w5 ⟨rfl, hb5⟩
        have HP5 := Lib.hid (HP.out.below hb5)
        clear q0 q1 q2 hb5 HP
        have q0 : w5.cell? ⟨pb, 0, none⟩ = some (.slice ad p.D.length cd) := blk_cell HP5.out.blk 0
        have q1 : w5.cell? ⟨pb, 1, none⟩ = some (.slice as' p.S.length cs) := blk_cell HP5.out.blk 1
        have q2 : w5.cell? ⟨pb, 2, none⟩ = some (.slice al p.K.length cl) := blk_cell HP5.out.blk 2
        have z0 : w5.frozen? ⟨pb, 0, none⟩ = false := blk_free HP5.out.blk 0
        have z1 : w5.frozen? ⟨pb, 1, none⟩ = false := blk_free HP5.out.blk 1
        have z2 : w5.frozen? ⟨pb, 2, none⟩ = false := blk_free HP5.out.blk 2
        by_cases hce : ch = 0
        · subst hce
          have HV := Lib.hid (show parseM s = (p, 0, 0) from HV2.out)
          have HPR := Lib.hid (PO.pr HP5.out)
          clear HV2
          go_wp2_with fail
          refine bodyPost_ret (pol_ret rfl _ _ _ _ _ _ rfl (HP5.out.put _ _ _).1) rfl ?_
          rw [HV.out]
          exact ⟨_, _, _, rfl, pr_put HP5.out _ _ _, (HP5.out.put _ _ _).2⟩
        · have HV := Lib.hid (show parseM s = (noP, 0, ch) by rw [HV2.out, if_neg hce])
          have he' : (ch == 0) = false := by simpa using hce
          have hen : (ch != 0) = true := by simpa using hce
          clear HV2 hce
          go_wp2_with fail
          refine bodyPost_ret (pol_ret rfl _ _ _ _ _ _ rfl (HP5.out.put _ _ _).1) rfl ?_
          rw [HV.out]
          exact ⟨_, _, _, rfl, PR.empty _, (HP5.out.put _ _ _).2⟩
      | cons a L1 =>
        obtain ⟨wo, hwo⟩ : ∃ wo, wo = wr := ⟨_, rfl⟩
        subst hwo
        obtain ⟨bl, o, c, rfl, hc1, hc2, m0, m1, _, _⟩ := words_open HR.out
        unfold maxLen at hc2
        obtain ⟨i0, hi0, hz0, hz1, hz2⟩ := info_parts Tryd.info_str
        have HI := Lib.hid hi0
        clear hi0
        go_wp2_with fail
        go_loopw [5, 7] (fun u5 u7 wx => ∃ (T R : List Wd), a :: L1 = T ++ R ∧ (∀ d ∈ T, d.ln = a.ln) ∧ Reads wx 3 u5 R.length (R.flatMap wdCells) ∧ WB wx u5 ∧ wx.ownsRow wo.heap.size 9 1 u7 T.length ((T.map Wd.tx).map Value.string) ∧ Below wo.heap.size wo wx) (fun u5 _ _ => vlen u5)
        case atStart => exact ⟨[], a :: L1, rfl, (by intro d hd; cases hd), HR.out, HK.out, World.ownsRow_nil _ _ _ _, Below.refl _ _⟩
        case round =>
        obtain ⟨T, R, hl, hT, hr, hk, hown, hb⟩ := hrel
        have HL := Lib.hid hl
        have HTT := Lib.hid hT
        have HR2 := Lib.hid hr
        have HK2 := Lib.hid hk
        have HO := Lib.hid hown
        have HBL := Lib.hid hb
        have hTl : T.length + R.length ≤ 4097 := by
          have h1 := HB.out.d
          rw [hl, List.length_append] at h1
          omega
        clear hl hT hr hk hown hb m0 m1 hc1 hc2 HR HK
        obtain ⟨b, hb⟩ : ∃ b, b = headAt R a.ln := ⟨_, rfl⟩
        have HHB := Lib.hid hb
        have HTL := Lib.hid hTl
        clear hb hTl
        go_upto_region 7 with (fail)
        go_cut [40] (fun u40 wx2 => u40 = .bool b ∧ wx2 = wr)
        case first => as_aux_lemma =>
          cases R with
          | nil =>
            obtain ⟨_, a5, c5, rfl, _, _, _⟩ := HR2.out
            have HV := Lib.hid (show b = false from HHB.out)
            go_wp2_with fail
            go_meet
            exact ⟨by rw [HV.out], rfl⟩
          | cons d R' =>
            obtain ⟨bl2, o2, c2, rfl, g1, g2, k0, k1, _, _⟩ := words_open HR2.out
            unfold maxLen at g2
            by_cases hd : d.ln = a.ln
            · have HV := Lib.hid (show b = true by rw [HHB.out]; exact decide_eq_true hd)
              rw [hd] at k1
              go_wp2_with fail
              go_meet
              exact ⟨by rw [HV.out], rfl⟩
            · have HV := Lib.hid (show b = false by rw [HHB.out]; exact decide_eq_false hd)
              have hd2 : (d.ln == a.ln) = false := by simpa using hd
              go_wp2_with fail
              go_meet
              exact ⟨by rw [HV.out], rfl⟩
        case rest =>
        obtain ⟨rfl, rfl⟩ := hcut
        cases b with
        | true =>
          obtain ⟨d, R', rfl, hd⟩ := headAt_true HHB.out.symm
          have HD := Lib.hid hd
          obtain ⟨bl2, o2, c2, rfl, g1, g2, k0, k1, t1, t2⟩ := words_open HR2.out
          unfold maxLen at g2
          have HT1 := Lib.hid t1
          have HT2 := Lib.hid t2
          have hown := HO.out
          have hbs := HBL.out.size
          have hTl := HTL.out
          rw [List.length_cons] at hTl
          clear t1 t2 hd k1 HHB
          go_wp2_with (at_builtin; refine wpList_append_own _ rfl _ _ 62 rfl wo.heap.size 9 i0 (.string ByteArray.empty) 1 16 Tryd.underlying62 HI.out hz0 hz1 hz2 rfl (by decide) _ _ _ rfl (hown.alloc _) ⟨wc.heap.size, 0, none⟩ 1 1 [.string d.tx] rfl rfl ?c1 ?c2 ?c3 ?c4 ?c5 ?_)
          case c1 => exact news_one wc _ _
          case c2 => intro u hu; rw [List.mem_singleton] at hu; subst hu; rfl
          case c3 => unfold maxLen; omega
          case c4 => omega
          case c5 => simp; omega
          intro v' w4 hown' hgr _
          have HO4 := Lib.hid hown'
          have HB4 := Lib.hid ((HBL.out.alloc (Nat.le_trans HBL.out.size (Nat.le_refl _)) (.cells #[.string d.tx] 9)).grown hgr (Nat.le_trans HBL.out.size (plus_one1 wc _).size) (fun k hk => (hown.lt k hk).1))
          have hs4 := HK2.out.grown hown hgr bl2 rfl
          have HS4 := Lib.hid hs4
          clear hown hgr hown' hs4 hbs
          by_cases hc1 : c2 = 1
          · subst hc1
            go_wp2_with fail
            go_roundw
            case rel => exact ⟨T ++ [d], R', by rw [HL.out]; simp, (by
                intro x hx
                rcases List.mem_append.1 hx with hx | hx
                · exact HTT.out x hx
                · rw [List.mem_singleton] at hx; rw [hx]; exact HD.out), (HT1.out rfl).frame (fun k hk => by injection hk with hk; subst hk; exact HS4.out), (fun k hk => by
                  have := HK2.out k hk
                  injection hk with hk
                  subst hk
                  rw [HS4.out]
                  exact this), by simpa using HO4.out, HB4.out⟩
            case measure => simp [vlen]
          · have hc2 : ¬ (c2 - 1 = 0) := by omega
            go_wp2_with fail
            go_roundw
            case rel => exact ⟨T ++ [d], R', by rw [HL.out]; simp, (by
                intro x hx
                rcases List.mem_append.1 hx with hx | hx
                · exact HTT.out x hx
                · rw [List.mem_singleton] at hx; rw [hx]; exact HD.out), (HT2.out hc1).frame (fun k hk => by injection hk with hk; subst hk; exact HS4.out), (fun k hk => by
                  have := HK2.out k hk
                  injection hk with hk
                  subst hk
                  rw [HS4.out]
                  exact this), by simpa using HO4.out, HB4.out⟩
            case measure => simp [vlen]
        | false =>
          obtain ⟨e1, e2, hT1⟩ := split_ln HL.out HTT.out (headAt_false HHB.out.symm)
          have HP3 := Lib.hid (HP.out.below HBL.out)
          have HLI := Lib.hid (line_calls HP3.out HT.out (Reads.of_owns HO.out) hT1 (fun x hx => by
              obtain ⟨d, hd, rfl⟩ := List.mem_map.1 hx
              exact Nat.le_trans (HB.out.t d (by rw [HL.out]; simp [hd])) (by decide)) (by have := HB.out.d; omega) (by have := HB.out.s; omega) (by have := HB.out.k; omega))
          have HST := Lib.hid (HB.out.step HL.out hT1)
          obtain ⟨f', rfl⟩ : ∃ f', f = f' + 1 := ⟨f - 1, by have := hf; rw [List.length_cons] at this; omega⟩
          have HRU2 := Lib.hid (show parseRun L.length noP L = if (lineM p (T.map Wd.tx)).1 = 0 then parseRun f' (lineM p (T.map Wd.tx)).2 R else (noP, a.ln, (lineM p (T.map Wd.tx)).1) by
            rw [HRU.out, parseRun, e1, e2])
          have HLN := Lib.hid (show L1.length + 1 = T.length + R.length by have := congrArg List.length HL.out; simpa using this)
          have HFR := Lib.hid (show R.length ≤ f' by have := hf; have := HLN.out; rw [List.length_cons] at *; omega)
          have HT1 := Lib.hid hT1
          have HVL := Lib.hid (reads_vlen HR2.out)
          clear e1 e2 hT1 hf HB HRU HTT HL HHB
          obtain ⟨⟨er, p'⟩, hlm⟩ : ∃ q, lineM p (T.map Wd.tx) = q := ⟨_, rfl⟩
          rw [hlm] at HLI HST HRU2
          simp only at HLI HST HRU2
          clear hlm
          go_wp2_with fail
          refine HLI.out.mono ?_
          rintro e w5 ⟨rfl, hf5, vd', vs', vl', hp5⟩
          have hs5 := HK2.out.pof HP3.out hf5
          have HP5 := Lib.hid hp5
          have HR5 := Lib.hid (HR2.out.frame hs5)
          have HK5 := Lib.hid (HK2.out.same hs5)
          clear hs5 hf5 hp5 HP HP3 HR2 HK2
          by_cases he : er = 0
          · subst he
            have HRU3 := Lib.hid (show parseRun L.length noP L = parseRun f' p' R from HRU2.out)
            clear HRU2
            go_wp2_with fail
            go_roundw
            case rel => exact ⟨R, p', vd', vs', vl', f', HR5.out, HK5.out, HP5.out, HST.out, HRU3.out, HFR.out⟩
            case measure => rw [HVL.out]; simp only [vlen]; have := HLN.out; have := HT1.out; omega
          · have HV := Lib.hid (show parseM s = (noP, a.ln, er) by rw [HM2.out, HRU2.out, if_neg he]; unfold endM; rw [if_neg he])
            have he' : (er == 0) = false := by simpa using he
            have hen : (er != 0) = true := by simpa using he
            obtain ⟨ad, cd, rfl, _, _, _⟩ := owns_shape HP5.out.d
            obtain ⟨as', cs, rfl, _, _, _⟩ := owns_shape HP5.out.s
            obtain ⟨al, cl, rfl, _, _, _⟩ := owns_shape HP5.out.k
            have q0 : w5.cell? ⟨pb, 0, none⟩ = some (.slice ad p'.D.length cd) := blk_cell HP5.out.blk 0
            have q1 : w5.cell? ⟨pb, 1, none⟩ = some (.slice as' p'.S.length cs) := blk_cell HP5.out.blk 1
            have q2 : w5.cell? ⟨pb, 2, none⟩ = some (.slice al p'.K.length cl) := blk_cell HP5.out.blk 2
            have z0 : w5.frozen? ⟨pb, 0, none⟩ = false := blk_free HP5.out.blk 0
            have z1 : w5.frozen? ⟨pb, 1, none⟩ = false := blk_free HP5.out.blk 1
            have z2 : w5.frozen? ⟨pb, 2, none⟩ = false := blk_free HP5.out.blk 2
            clear he HRU2 HM2
            go_wp2_with fail
            refine bodyPost_ret (pol_ret rfl _ _ _ _ _ _ rfl (HP5.out.put _ _ _).1) rfl ?_
            rw [HV.out]
            exact ⟨_, _, _, rfl, PR.empty _, (HP5.out.put _ _ _).2⟩
  · have HV := Lib.hid (show parseM s = (noP, ln, e) by rw [HM.out, if_neg he])
    have he' : (e == 0) = false := by simpa using he
    have hen : (e != 0) = true := by simpa using he
    have q0 : w2.cell? ⟨pb, 0, none⟩ = some (.slice none 0 0) := blk_cell HP2.out.blk 0
    have q1 : w2.cell? ⟨pb, 1, none⟩ = some (.slice none 0 0) := blk_cell HP2.out.blk 1
    have q2 : w2.cell? ⟨pb, 2, none⟩ = some (.slice none 0 0) := blk_cell HP2.out.blk 2
    have z0 : w2.frozen? ⟨pb, 0, none⟩ = false := blk_free HP2.out.blk 0
    have z1 : w2.frozen? ⟨pb, 1, none⟩ = false := blk_free HP2.out.blk 1
    have z2 : w2.frozen? ⟨pb, 2, none⟩ = false := blk_free HP2.out.blk 2
    clear he
    go_wp2_with fail
    refine bodyPost_ret (pol_ret rfl _ _ _ _ _ _ rfl (HP2.out.put _ _ _).1) rfl ?_
    rw [HV.out]
    exact ⟨_, _, _, rfl, PR.empty _, (HP2.out.put _ _ _).2⟩
end Go.Proofs.YtkjhgfjlknbdkaaDoor
