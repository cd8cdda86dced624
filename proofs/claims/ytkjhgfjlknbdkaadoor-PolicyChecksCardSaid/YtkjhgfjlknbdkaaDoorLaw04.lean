/- What parcloselaw04.few does, and the statement PolicyUp. Conditions: the policy can be read, the library's table is laid (Tab). -/
import Derived.Test.YtkjhgfjlknbdkaaDoorAwake4
namespace Go.Proofs.YtkjhgfjlknbdkaaDoor
open Go.RowKit BigFrame Go.BigFrame

theorem results_cell1 {fn : Func} {p : Tmp} {ty : TypeId} (h : fn.results = #[.cell p ty]) (tmps : Array Value) (P : Program) (w : World) :
    (results fn tmps).run P w = ((asAddr (tmps.getD p undef)).run P w).andThen fun a w₁ => (loadVar ty a).run P w₁ := by
  simp only [results, h]
  simp [Sem.run_bind, Result.andThen]
set_option maxRecDepth 100000 in
theorem pol_ret1 {fn : Func} {p : Tmp} (h : fn.results = #[.cell p 26]) (tmps : Array Value) (w : World) (b : Nat) (vd vs vl : Value) (hp : tmps.getD p undef = .pointer (some ⟨b, 0, none⟩)) (hb : w.heap[b]? = some (.cells #[vd, vs, vl] 26 (0, 0))) :
    (results fn tmps).run Tryd.prog w = .ok (.agg #[vd, vs, vl]) w := by
  rw [results_cell1 h, hp]
  show (loadVar 26 ⟨b, 0, none⟩).run Tryd.prog w = _
  rw [pol_load hb]
def fewP (p : P3) : P3 := ⟨p.D.take 12, p.S.take 20, p.K.take 12⟩
theorem reads_few {α : Type} {f : α → List Value} {k m n : Nat} {w : World} {a : Option Addr} {c : Nat} {xs : List α} (h : Reads w k (.slice a n c) n (xs.flatMap f)) (hf : ∀ x, (f x).length = k) (hk : 0 < k) (hm : m < n) : Reads w k (.slice a m c) (xs.take m).length ((xs.take m).flatMap f) := by
  have hl := (rows_open h hf hk).1
  rw [List.length_take, hl, Nat.min_eq_left (by omega)]
  exact reads_takeR h (fun x _ => hf x) hl (by omega)
theorem reads_all {α : Type} {f : α → List Value} {k m n : Nat} {w : World} {a : Option Addr} {c : Nat} {xs : List α} (h : Reads w k (.slice a n c) n (xs.flatMap f)) (hf : ∀ x, (f x).length = k) (hk : 0 < k) (hm : ¬ m < n) : Reads w k (.slice a n c) (xs.take m).length ((xs.take m).flatMap f) := by
  have hl := (rows_open h hf hk).1
  rw [List.take_of_length_le (by omega), hl]
  exact h
/-- A policy's box, and the result's. -/
structure FB (w0 w : World) (pb rb : Nat) (x y z : Value) : Prop where
  p : w.heap[pb]? = some (.cells #[x, y, z] 26 (0, 0))
  r : w.heap[rb]? = some (.cells #[.slice none 0 0, .slice none 0 0, .slice none 0 0] 26 (0, 0))
  b : Below w0.heap.size w0 w
  pg : w0.heap.size ≤ pb
  rg : w0.heap.size ≤ rb
  ne : pb ≠ rb
theorem FB.set0 {w0 w : World} {pb rb : Nat} {x y z : Value} (h : FB w0 w pb rb x y z) (u : Value) : FB w0 (w.setCell ⟨pb, 0, none⟩ u) pb rb u y z :=
  ⟨by have := blk_set h.p 0 u; simpa using this, (heap_setCell_other _ _ _ _ (fun e => h.ne e.symm)).trans h.r, h.b.setCell (p := ⟨pb, 0, none⟩) h.pg u, h.pg, h.rg, h.ne⟩
theorem FB.set1 {w0 w : World} {pb rb : Nat} {x y z : Value} (h : FB w0 w pb rb x y z) (u : Value) : FB w0 (w.setCell ⟨pb, 1, none⟩ u) pb rb x u z :=
  ⟨by have := blk_set h.p 1 u; simpa using this, (heap_setCell_other _ _ _ _ (fun e => h.ne e.symm)).trans h.r, h.b.setCell (p := ⟨pb, 1, none⟩) h.pg u, h.pg, h.rg, h.ne⟩
theorem FB.set2 {w0 w : World} {pb rb : Nat} {x y z : Value} (h : FB w0 w pb rb x y z) (u : Value) : FB w0 (w.setCell ⟨pb, 2, none⟩ u) pb rb x y u :=
  ⟨by have := blk_set h.p 2 u; simpa using this, (heap_setCell_other _ _ _ _ (fun e => h.ne e.symm)).trans h.r, h.b.setCell (p := ⟨pb, 2, none⟩) h.pg u, h.pg, h.rg, h.ne⟩
theorem FB.put {w0 w : World} {pb rb : Nat} {x y z : Value} (h : FB w0 w pb rb x y z) (a b c : Value) :
    (((w.setCell ⟨rb, 0, none⟩ a).setCell ⟨rb, 1, none⟩ b).setCell ⟨rb, 2, none⟩ c).heap[rb]? = some (.cells #[a, b, c] 26 (0, 0)) ∧ Below w0.heap.size w0 (((w.setCell ⟨rb, 0, none⟩ a).setCell ⟨rb, 1, none⟩ b).setCell ⟨rb, 2, none⟩ c) :=
  ⟨by have := blk_set (blk_set (blk_set h.r 0 a) 1 b) 2 c; simpa using this, ((h.b.setCell (p := ⟨rb, 0, none⟩) h.rg a).setCell (p := ⟨rb, 1, none⟩) h.rg b).setCell (p := ⟨rb, 2, none⟩) h.rg c⟩
set_option maxRecDepth 100000 in
set_option maxHeartbeats 16000000 in
theorem few_calls {w : World} {vd vs vl : Value} {p : P3} (h : PR w vd vs vl p) :
    Calls Tryd.prog 9 #[.agg #[vd, vs, vl]] w fun e w' => ∃ vd' vs' vl', e = .returned (.agg #[vd', vs', vl']) ∧ PR w' vd' vs' vl' (fewP p) ∧ Below w.heap.size w w' := by
  obtain ⟨nd, hnd⟩ : ∃ n, n = p.D.length := ⟨_, rfl⟩
  obtain ⟨ns, hns⟩ : ∃ n, n = p.S.length := ⟨_, rfl⟩
  obtain ⟨nl, hnl⟩ : ∃ n, n = p.K.length := ⟨_, rfl⟩
  have hd := h.d
  have hs := h.s
  have hk := h.k
  rw [← hnd] at hd
  rw [← hns] at hs
  rw [← hnl] at hk
  obtain ⟨ad, cd, rfl, d1, d2⟩ := reads_shape hd (m := nd) rfl
  obtain ⟨sa, cs, rfl, s1, s2⟩ := reads_shape hs (m := ns) rfl
  obtain ⟨al, cl, rfl, l1, l2⟩ := reads_shape hk (m := nl) rfl
  have HD := Lib.hid hd
  have HS := Lib.hid hs
  have HK := Lib.hid hk
  clear h hd hs hk hnd hns hnl
  go_enter Tryd.func9, Tryd.ntmps9
  go_upto_region 1 with (fail)
  obtain ⟨pb, hpb⟩ : ∃ b, b = w.heap.size := ⟨_, rfl⟩
  obtain ⟨rb, hrb⟩ : ∃ b, b = w.heap.size + 1 := ⟨_, rfl⟩
  have HF := Lib.hid (show FB w ((w.alloc (.cells #[.slice ad nd cd, .slice sa ns cs, .slice al nl cl] 26)).alloc (.cells #[.slice none 0 0, .slice none 0 0, .slice none 0 0] 26)) pb rb (.slice ad nd cd) (.slice sa ns cs) (.slice al nl cl) from
    ⟨by rw [hpb]; exact (Below.heap_alloc _ _ _ (by simp)).trans (heap_alloc_new w _), by rw [hrb]; exact heap_alloc2_new w _ _, ((Below.refl _ _).alloc (Nat.le_refl _) _).alloc (by simp) _, by omega, by omega, by omega⟩)
  rw [← hrb, ← hpb]
  generalize (w.alloc (.cells #[.slice ad nd cd, .slice sa ns cs, .slice al nl cl] 26)).alloc (.cells #[.slice none 0 0, .slice none 0 0, .slice none 0 0] 26) = w1 at HF ⊢
  clear hpb hrb
  have q0 : w1.cell? ⟨pb, 0, none⟩ = some (.slice ad nd cd) := blk_cell HF.out.p 0
  have q1 : w1.cell? ⟨pb, 1, none⟩ = some (.slice sa ns cs) := blk_cell HF.out.p 1
  have q2 : w1.cell? ⟨pb, 2, none⟩ = some (.slice al nl cl) := blk_cell HF.out.p 2
  have z0 : w1.frozen? ⟨pb, 0, none⟩ = false := blk_free HF.out.p 0
  have z1 : w1.frozen? ⟨pb, 1, none⟩ = false := blk_free HF.out.p 1
  have z2 : w1.frozen? ⟨pb, 2, none⟩ = false := blk_free HF.out.p 2
  go_upto_if 6 with (fail)
  go_cut [1] (fun u wx => u = .pointer (some ⟨pb, 0, none⟩) ∧ ∃ m, FB w wx pb rb (.slice ad m cd) (.slice sa ns cs) (.slice al nl cl) ∧ m ≤ cd ∧ Reads w 6 (.slice ad m cd) (p.D.take 12).length ((p.D.take 12).flatMap Dm.cells))
  case first => as_aux_lemma =>
    by_cases hc : 12 < nd
    · have hc' : (12 : Int) < (nd : Int) := by omega
      have hcc : (12 : Int) ≤ (cd : Int) := by omega
      have HV := Lib.hid (reads_few HD.out (fun _ => rfl) (by omega) hc)
      have HF2 := Lib.hid (HF.out.set0 (.slice ad 12 cd))
      go_wp2_with fail
      go_meet
      exact ⟨rfl, 12, HF2.out, by omega, HV.out⟩
    · have hc' : ¬ (12 : Int) < (nd : Int) := by omega
      have HV := Lib.hid (reads_all HD.out (fun _ => rfl) (by omega) hc)
      go_wp2_with fail
      go_meet
      exact ⟨rfl, nd, HF.out, by omega, HV.out⟩
  case rest =>
  obtain ⟨rfl, m0, hf0, hm0, hr0⟩ := hcut
  have HF := Lib.hid hf0
  have HR0 := Lib.hid hr0
  clear hf0 hr0 q0 q1 q2 z0 z1 z2
  have q0 : wc.cell? ⟨pb, 0, none⟩ = some (.slice ad m0 cd) := blk_cell HF.out.p 0
  have q1 : wc.cell? ⟨pb, 1, none⟩ = some (.slice sa ns cs) := blk_cell HF.out.p 1
  have q2 : wc.cell? ⟨pb, 2, none⟩ = some (.slice al nl cl) := blk_cell HF.out.p 2
  have z0 : wc.frozen? ⟨pb, 0, none⟩ = false := blk_free HF.out.p 0
  have z1 : wc.frozen? ⟨pb, 1, none⟩ = false := blk_free HF.out.p 1
  have z2 : wc.frozen? ⟨pb, 2, none⟩ = false := blk_free HF.out.p 2
  go_upto_if 14 with (fail)
  go_cut [1] (fun u wx => u = .pointer (some ⟨pb, 0, none⟩) ∧ ∃ m, FB w wx pb rb (.slice ad m0 cd) (.slice sa m cs) (.slice al nl cl) ∧ m ≤ cs ∧ Reads w 2 (.slice sa m cs) (p.S.take 20).length ((p.S.take 20).flatMap slCells))
  case first => as_aux_lemma =>
    by_cases hc : 20 < ns
    · have hc' : (20 : Int) < (ns : Int) := by omega
      have hcc : (20 : Int) ≤ (cs : Int) := by omega
      have HV := Lib.hid (reads_few HS.out (fun _ => rfl) (by omega) hc)
      have HF2 := Lib.hid (HF.out.set1 (.slice sa 20 cs))
      go_wp2_with fail
      go_meet
      exact ⟨rfl, 20, HF2.out, by omega, HV.out⟩
    · have hc' : ¬ (20 : Int) < (ns : Int) := by omega
      have HV := Lib.hid (reads_all HS.out (fun _ => rfl) (by omega) hc)
      go_wp2_with fail
      go_meet
      exact ⟨rfl, ns, HF.out, by omega, HV.out⟩
  case rest =>
  obtain ⟨rfl, m1, hf1, hm1, hr1⟩ := hcut
  have HF := Lib.hid hf1
  have HR1 := Lib.hid hr1
  clear hf1 hr1 q0 q1 q2 z0 z1 z2
  have q0 : wc.cell? ⟨pb, 0, none⟩ = some (.slice ad m0 cd) := blk_cell HF.out.p 0
  have q1 : wc.cell? ⟨pb, 1, none⟩ = some (.slice sa m1 cs) := blk_cell HF.out.p 1
  have q2 : wc.cell? ⟨pb, 2, none⟩ = some (.slice al nl cl) := blk_cell HF.out.p 2
  have z0 : wc.frozen? ⟨pb, 0, none⟩ = false := blk_free HF.out.p 0
  have z1 : wc.frozen? ⟨pb, 1, none⟩ = false := blk_free HF.out.p 1
  have z2 : wc.frozen? ⟨pb, 2, none⟩ = false := blk_free HF.out.p 2
  go_upto_if 22 with (fail)
  go_cut [1] (fun u wx => u = .pointer (some ⟨pb, 0, none⟩) ∧ ∃ m, FB w wx pb rb (.slice ad m0 cd) (.slice sa m1 cs) (.slice al m cl) ∧ m ≤ cl ∧ Reads w 4 (.slice al m cl) (p.K.take 12).length ((p.K.take 12).flatMap lkCells))
  case first => as_aux_lemma =>
    by_cases hc : 12 < nl
    · have hc' : (12 : Int) < (nl : Int) := by omega
      have hcc : (12 : Int) ≤ (cl : Int) := by omega
      have HV := Lib.hid (reads_few HK.out (fun _ => rfl) (by omega) hc)
      have HF2 := Lib.hid (HF.out.set2 (.slice al 12 cl))
      go_wp2_with fail
      go_meet
      exact ⟨rfl, 12, HF2.out, by omega, HV.out⟩
    · have hc' : ¬ (12 : Int) < (nl : Int) := by omega
      have HV := Lib.hid (reads_all HK.out (fun _ => rfl) (by omega) hc)
      go_wp2_with fail
      go_meet
      exact ⟨rfl, nl, HF.out, by omega, HV.out⟩
  case rest =>
  obtain ⟨rfl, m2, hf2, hm2, hr2⟩ := hcut
  have HF := Lib.hid hf2
  have HR2 := Lib.hid hr2
  clear hf2 hr2 q0 q1 q2 z0 z1 z2
  have q0 : wc.cell? ⟨pb, 0, none⟩ = some (.slice ad m0 cd) := blk_cell HF.out.p 0
  have q1 : wc.cell? ⟨pb, 1, none⟩ = some (.slice sa m1 cs) := blk_cell HF.out.p 1
  have q2 : wc.cell? ⟨pb, 2, none⟩ = some (.slice al m2 cl) := blk_cell HF.out.p 2
  have z0 : wc.frozen? ⟨pb, 0, none⟩ = false := blk_free HF.out.p 0
  have z1 : wc.frozen? ⟨pb, 1, none⟩ = false := blk_free HF.out.p 1
  have z2 : wc.frozen? ⟨pb, 2, none⟩ = false := blk_free HF.out.p 2
  have y0 : wc.cell? ⟨rb, 0, none⟩ = some (.slice none 0 0) := blk_cell HF.out.r 0
  have y1 : wc.cell? ⟨rb, 1, none⟩ = some (.slice none 0 0) := blk_cell HF.out.r 1
  have y2 : wc.cell? ⟨rb, 2, none⟩ = some (.slice none 0 0) := blk_cell HF.out.r 2
  have x0 : wc.frozen? ⟨rb, 0, none⟩ = false := blk_free HF.out.r 0
  have x1 : wc.frozen? ⟨rb, 1, none⟩ = false := blk_free HF.out.r 1
  have x2 : wc.frozen? ⟨rb, 2, none⟩ = false := blk_free HF.out.r 2
  go_wp2_with fail
  refine bodyPost_ret (pol_ret1 rfl _ _ rb _ _ _ rfl (HF.out.put _ _ _).1) rfl ?_
  have hb := (HF.out.put (.slice ad m0 cd) (.slice sa m1 cs) (.slice al m2 cl)).2
  exact ⟨_, _, _, rfl, ⟨HR0.out.below (by omega) hb, HR1.out.below (by omega) hb, HR2.out.below (by omega) hb⟩, hb⟩
theorem firstE_all {l : List Int} (h : firstE l = 0) : ∀ e ∈ l, e = 0 := by
  induction l with
  | nil => intro e he; cases he
  | cons a r ih =>
    rw [firstE] at h
    split at h
    · next ha =>
      intro e he
      rcases List.mem_cons.1 he with rfl | he
      · exact ha
      · exact ih h e he
    · next ha => exact absurd h ha
theorem hasF_all {l : List Bool} (h : hasF l = false) : ∀ b ∈ l, b = true := by
  intro b hb
  unfold hasF at h
  rw [List.any_eq_false] at h
  simpa using h b hb
/-- What a policy that may be has. -/
theorem check_up {D : List Dm} {S : List (Int × Int)} {K : List Lk} (h : checkM D S K = 0) : (∀ l ∈ K, linkBad D.length l = false ∧ leqAt D l.fr.toNat l.tt.toNat = true) ∧ (∀ i : Nat, i < D.length → ∃ s ∈ S, s.1 = (i : Int)) ∧ (∀ d ∈ D, goodL d.lv d.ct = true) ∧ D.length ≤ 8 ∧ S.length ≤ 16 ∧ K.length ≤ 8 := by
  unfold checkM at h
  split at h
  · cases h
  next hin =>
  split at h
  next hd =>
    split at h
    next hs =>
      refine ⟨fun l hl => ?_, fun i hi => ?_, fun d hdm => ?_, ?_⟩
      · have := firstE_all h (linkErr D l) (List.mem_map.2 ⟨l, hl, rfl⟩)
        unfold linkErr at this
        split at this
        · cases this
        · next hb =>
          split at this
          · cases this
          · next hl => exact ⟨by simpa using hb, by simpa using hl⟩
      · unfold slotsM at hs
        split at hs
        · split at hs
          · cases hs
          · next hf =>
            have hf' : ∀ b ∈ hasL D.length S, b = true := hasF_all (by simpa using hf)
            have := hf' (S.any (fun s => decide (s.1 = (i : Int)))) (by unfold hasL; exact List.mem_map.2 ⟨i, by simpa using hi, rfl⟩)
            rw [List.any_eq_true] at this
            obtain ⟨s, h1, h2⟩ := this
            exact ⟨s, h1, of_decide_eq_true h2⟩
        · next h1 => exact absurd hs h1
      · obtain ⟨j, hj, rfl⟩ := List.mem_iff_getElem.1 hdm
        have := firstE_all hd (domErr D j D[j]) (List.mem_of_getElem? (domErrs_at (List.getElem?_eq_getElem hj)))
        unfold domErr at this
        split at this
        · cases this
        · split at this
          · cases this
          · next hg => simpa using hg
      · have hin' : (inB D.length 1 8 && (inB S.length 1 16 && decide (K.length ≤ 8))) = true := by simpa using hin
        unfold inB at hin'
        simp only [Bool.and_eq_true, decide_eq_true_eq] at hin'
        omega
    next hs => exact absurd h hs
  next hd => exact absurd h hd
theorem leqAt_open {D : List Dm} {i j : Nat} (h : leqAt D i j = true) : ∃ a b, D[i]? = some a ∧ D[j]? = some b ∧ leqB a.lv a.ct b.lv b.ct = true := by
  unfold leqAt at h
  split at h
  · next a b h1 h2 => exact ⟨a, b, h1, h2, h⟩
  · cases h
set_option maxRecDepth 100000 in
set_option maxHeartbeats 16000000 in
theorem policyUp_calls {w : World} (ht : Tab w) {vd vs vl : Value} {p : P3} (h : PR w vd vs vl p) (hz : ∀ d ∈ p.D, d.nm.size ≤ 140737488351232) :
    Calls Tryd.prog 3 #[.agg #[vd, vs, vl]] w fun e w' => e = .returned (.bool true) ∧ Below w.heap.size w w' := by
  have HT := Lib.hid ht
  have HW1 := Lib.hid (plus_one1 w (.cells #[vd, vs, vl] 26))
  have HF := Lib.hid (few_calls (h.below HW1.out))
  have HZ := Lib.hid (show ∀ d ∈ (fewP p).D, d.nm.size ≤ 140737488351232 from fun d hd => hz d (List.mem_of_mem_take hd))
  have c0 : (w.alloc (.cells #[vd, vs, vl] 26)).heap[w.heap.size]? = some (.cells #[vd, vs, vl] 26 (0, 0)) := heap_alloc_new w _
  obtain ⟨nd, hnd⟩ : ∃ n, n = p.D.length := ⟨_, rfl⟩
  obtain ⟨ns, hns⟩ : ∃ n, n = p.S.length := ⟨_, rfl⟩
  obtain ⟨nl, hnl⟩ : ∃ n, n = p.K.length := ⟨_, rfl⟩
  obtain ⟨ad, cd, rfl, _, _⟩ := reads_shape h.d hnd.symm
  obtain ⟨sa, cs, rfl, _, _⟩ := reads_shape h.s hns.symm
  obtain ⟨al, cl, rfl, _, _⟩ := reads_shape h.k hnl.symm
  clear ht h hz hnd hns hnl
  go_enter Tryd.func3, Tryd.ntmps3
  go_upto_region 1 with (fail)
  obtain ⟨pb, hpb⟩ : ∃ b, b = w.heap.size := ⟨_, rfl⟩
  rw [← hpb] at c0 ⊢
  generalize w.alloc (.cells #[.slice ad nd cd, .slice sa ns cs, .slice al nl cl] 26) = w1 at HW1 HF c0 ⊢
  clear hpb
  have q0 : w1.cell? ⟨pb, 0, none⟩ = some (.slice ad nd cd) := blk_cell c0 0
  have q1 : w1.cell? ⟨pb, 1, none⟩ = some (.slice sa ns cs) := blk_cell c0 1
  have q2 : w1.cell? ⟨pb, 2, none⟩ = some (.slice al nl cl) := blk_cell c0 2
  clear c0
  go_wp2_with fail
  refine HF.out.mono ?_
  rintro e w2 ⟨vd2, vs2, vl2, rfl, hp2, hb2⟩
  generalize fewP p = x at HZ hp2
  clear q0 q1 q2 HF
  obtain ⟨nd, hnd⟩ : ∃ n, n = x.D.length := ⟨_, rfl⟩
  obtain ⟨ns, hns⟩ : ∃ n, n = x.S.length := ⟨_, rfl⟩
  obtain ⟨nl, hnl⟩ : ∃ n, n = x.K.length := ⟨_, rfl⟩
  obtain ⟨ad, cd, rfl, d1, d2⟩ := reads_shape hp2.d hnd.symm
  obtain ⟨sa, cs, rfl, s1, s2⟩ := reads_shape hp2.s hns.symm
  obtain ⟨al, cl, rfl, l1, l2⟩ := reads_shape hp2.k hnl.symm
  have HX := Lib.hid (show (w2.alloc (.cells #[.slice ad nd cd, .slice sa ns cs, .slice al nl cl] 26)).heap[w2.heap.size]? = some (.cells #[.slice ad nd cd, .slice sa ns cs, .slice al nl cl] 26 (0, 0)) from heap_alloc_new w2 _)
  have HB3 := Lib.hid ((HW1.out.trans (hb2.mono HW1.out.size)).trans ((plus_one1 w2 (.cells #[.slice ad nd cd, .slice sa ns cs, .slice al nl cl] 26)).mono (HW1.out.trans (hb2.mono HW1.out.size)).size))
  have HP3 := Lib.hid (hp2.below (plus_one1 w2 (.cells #[.slice ad nd cd, .slice sa ns cs, .slice al nl cl] 26)))
  have HND := Lib.hid hnd
  have HNS := Lib.hid hns
  have HNL := Lib.hid hnl
  clear hp2 hb2 hnd hns hnl HW1
  go_upto_region 2 with (fail)
  obtain ⟨xb, hxb⟩ : ∃ b, b = w2.heap.size := ⟨_, rfl⟩
  rw [← hxb] at HX ⊢
  generalize w2.alloc (.cells #[.slice ad nd cd, .slice sa ns cs, .slice al nl cl] 26) = w3 at HX HB3 HP3 ⊢
  clear hxb
  have q0 : w3.cell? ⟨xb, 0, none⟩ = some (.slice ad nd cd) := blk_cell HX.out 0
  have q1 : w3.cell? ⟨xb, 1, none⟩ = some (.slice sa ns cs) := blk_cell HX.out 1
  have q2 : w3.cell? ⟨xb, 2, none⟩ = some (.slice al nl cl) := blk_cell HX.out 2
  have HCH := Lib.hid (check_calls HP3.out.d HP3.out.s HP3.out.k HZ.out)
  have HUP := Lib.hid (fun h : checkM x.D x.S x.K = 0 => check_up h)
  generalize checkM x.D x.S x.K = ch at HCH HUP
  go_wp2_with fail
  refine HCH.out.mono ?_
  rintro e w4 ⟨rfl, hb4⟩
  have HB4 := Lib.hid (HB3.out.trans (hb4.mono HB3.out.size))
  have HP4 := Lib.hid (HP3.out.below hb4)
  have HX4 := Lib.hid ((hb4.block xb (lt_of_block HX.out)).trans HX.out)
  have HT4 := Lib.hid (HT.out.below HB4.out)
  clear hb4 q0 q1 q2 HX HP3 HB3 HCH HT
  by_cases hc : ch = 0
  · subst hc
    obtain ⟨u1, u2, u3, u4, u5, u6⟩ := HUP.out rfl
    have HU1 := Lib.hid u1
    have HU2 := Lib.hid u2
    have HU3 := Lib.hid u3
    have hn8 : nd ≤ 8 := by rw [HND.out]; exact u4
    have hs16 : ns ≤ 16 := by rw [HNS.out]; exact u5
    have hl8 : nl ≤ 8 := by rw [HNL.out]; exact u6
    clear u1 u2 u3 u4 u5 u6 HUP
    obtain ⟨hl1, _, _, e1, _, _, hdc⟩ := doms_open (show Reads w4 6 (.slice ad nd cd) nd (x.D.flatMap Dm.cells) by have := HP4.out.d; rw [← HND.out] at this; exact this)
    injection e1 with e1 _ e1'
    subst e1 e1'
    obtain ⟨hl2, _, _, e1, _, _, hsc⟩ := rows_open (show Reads w4 2 (.slice sa ns cs) ns (x.S.flatMap slCells) by have := HP4.out.s; rw [← HNS.out] at this; exact this) (fun _ => rfl) (by omega)
    injection e1 with e1 _ e1'
    subst e1 e1'
    obtain ⟨hl3, _, _, e1, _, _, hkc⟩ := rows_open (show Reads w4 4 (.slice al nl cl) nl (x.K.flatMap lkCells) by have := HP4.out.k; rw [← HNL.out] at this; exact this) (fun _ => rfl) (by omega)
    injection e1 with e1 _ e1'
    subst e1 e1'
    have HDC := Lib.hid hdc
    have HSC := Lib.hid hsc
    have HKC := Lib.hid hkc
    have HXL := Lib.hid (lt_of_block HX4.out)
    clear hl1 hl2 hl3 hdc hsc hkc
    go_wp2_with fail
    go_loopw [4] (fun u wr => ∃ j : Nat, u = .int .i64 j ∧ j ≤ nl ∧ Below w4.heap.size w4 wr) (fun u _ => nl - (intOf u).toNat)
    case atStart => exact ⟨0, rfl, Nat.zero_le _, Below.refl _ _⟩
    case round =>
      obtain ⟨j, rfl, hj, hb⟩ := hrel
      have HB := Lib.hid hb
      have hjz : (0 : Int) ≤ (j : Int) := Int.natCast_nonneg _
      have q0 := below_cell1 hb HXL.out (blk_cell HX4.out 0)
      have q2 := below_cell1 hb HXL.out (blk_cell HX4.out 2)
      have q1 := below_cell1 hb HXL.out (blk_cell HX4.out 1)
      clear hb
      by_cases hjn : j < nl
      · have hjn' : (j : Int) < (nl : Int) := by omega
        obtain ⟨l, hl⟩ : ∃ l, x.K[j]? = some l := ⟨_, List.getElem?_eq_getElem (by rw [← HNL.out]; exact hjn)⟩
        obtain ⟨hbad, hleq⟩ := HU1.out l (List.mem_of_getElem? hl)
        have hin := linkBad_in hbad
        obtain ⟨bl, o, rfl, hbl, hcx⟩ := HKC.out (by omega)
        have k0 := below_cell1 HB.out hbl (hcx j l hl 0 _ rfl)
        have k1 := below_cell1 HB.out hbl (hcx j l hl 1 _ rfl)
        have k2 := below_cell1 HB.out hbl (hcx j l hl 2 _ rfl)
        have k3 := below_cell1 HB.out hbl (hcx j l hl 3 _ rfl)
        rw [Nat.add_zero] at k0
        obtain ⟨kd, fr, tt, sz⟩ := l
        simp only at k0 k1 k2 k3 hleq hin
        obtain ⟨i, rfl⟩ : ∃ i : Nat, fr = i := ⟨fr.toNat, by omega⟩
        obtain ⟨k, rfl⟩ : ∃ i : Nat, tt = i := ⟨tt.toNat, by omega⟩
        rw [Int.toNat_natCast, Int.toNat_natCast] at hleq
        obtain ⟨a, b, ha, hb, hle⟩ := leqAt_open hleq
        have hnd1 : x.D.length = nd := HND.out.symm
        rw [hnd1] at hin
        obtain ⟨bd, od, rfl, hbd, hdx⟩ := HDC.out (by omega)
        have da1 := (hdx i a ha).2.1
        have da2 := (hdx i a ha).2.2.1
        have db1 := (hdx k b hb).2.1
        have db2 := (hdx k b hb).2.2.1
        have HLE := Lib.hid (fun u : World => leq_calls a.lv a.ct b.lv b.ct u)
        rw [hle] at HLE
        have hiz : (0 : Int) ≤ (i : Int) := Int.natCast_nonneg _
        have hkz : (0 : Int) ≤ (k : Int) := Int.natCast_nonneg _
        have hi1 : (i : Int) < (nd : Int) := hin.2.1
        have hk1 : (k : Int) < (nd : Int) := hin.2.2.2
        have hi2 : ¬ (i : Int) < 0 := by omega
        have hk2 : ¬ (k : Int) < 0 := by omega
        have hi3 : ¬ (nd : Int) ≤ (i : Int) := by omega
        have hk3 : ¬ (nd : Int) ≤ (k : Int) := by omega
        have hw5 : Below w4.heap.size w4 (wr.alloc (.cells #[.int .i64 kd, .int .i64 i, .int .i64 k, .int .i64 sz] 32)) := HB.out.trans ((plus_one1 wr _).mono HB.out.size)
        have HB5 := Lib.hid hw5
        have hx5 : (wr.alloc (.cells #[.int .i64 kd, .int .i64 i, .int .i64 k, .int .i64 sz] 32)).heap[wr.heap.size]? = some (.cells #[.int .i64 kd, .int .i64 i, .int .i64 k, .int .i64 sz] 32 (0, 0)) := heap_alloc_new wr _
        have y0 := below_cell1 hw5 HXL.out (blk_cell HX4.out 0)
        have a1 := below_cell1 hw5 hbd da1
        have a2 := below_cell1 hw5 hbd da2
        have b1 := below_cell1 hw5 hbd db1
        have b2 := below_cell1 hw5 hbd db2
        have hs5 := hw5.size
        unfold lab at HLE
        generalize a.lv = alv at a1 HLE
        generalize a.ct = act at a2 HLE
        generalize b.lv = blv at b1 HLE
        generalize b.ct = bct at b2 HLE
        clear hcx hdx hl ha hb hle hleq hin hbad da1 da2 db1 db2 hnd1 a b hw5
        go_upto_region 8 with (fail)
        obtain ⟨lb, hlb⟩ : ∃ lb, lb = wr.heap.size := ⟨_, rfl⟩
        rw [← hlb] at hx5 ⊢
        generalize wr.alloc (.cells #[.int .i64 kd, .int .i64 i, .int .i64 k, .int .i64 sz] 32) = w5 at HB5 hx5 y0 a1 a2 b1 b2 hs5 ⊢
        clear hlb q0 q1 q2 k0 k1 k2 k3
        have f1 : ∀ t : BW w5, t.at_.cell? ⟨lb, 1, none⟩ = some (.int .i64 i) := bw_cell (lt_of_block hx5) (blk_cell hx5 1)
        have f2 : ∀ t : BW w5, t.at_.cell? ⟨lb, 2, none⟩ = some (.int .i64 k) := bw_cell (lt_of_block hx5) (blk_cell hx5 2)
        have g0 : ∀ t : BW w5, t.at_.cell? ⟨xb, 0, none⟩ = some (.slice (some ⟨bd, od, none⟩) nd cd) := bw_cell (Nat.lt_of_lt_of_le HXL.out hs5) y0
        have g1 : ∀ t : BW w5, t.at_.cell? ⟨bd, od + i * 6 + 1, none⟩ = some (.int .i64 alv) := bw_cell (Nat.lt_of_lt_of_le hbd hs5) a1
        have g2 : ∀ t : BW w5, t.at_.cell? ⟨bd, od + i * 6 + 2, none⟩ = some (.int .i64 act) := bw_cell (Nat.lt_of_lt_of_le hbd hs5) a2
        have g3 : ∀ t : BW w5, t.at_.cell? ⟨bd, od + k * 6 + 1, none⟩ = some (.int .i64 blv) := bw_cell (Nat.lt_of_lt_of_le hbd hs5) b1
        have g4 : ∀ t : BW w5, t.at_.cell? ⟨bd, od + k * 6 + 2, none⟩ = some (.int .i64 bct) := bw_cell (Nat.lt_of_lt_of_le hbd hs5) b2
        clear hx5 y0 a1 a2 b1 b2 hs5
        refine wp_region_quiet_bw (by kernel_rfl) (by kernel_rfl) ?_
        repeat (go_big_quiet_step ((go_at_call 12; refine Calls.bw _ (HLE.out _))))
        refine wpQuiet_nil ?_
        intro _ hw'
        obtain ⟨tq, rfl⟩ := hw'
        have HB6 := Lib.hid (HB5.out.trans (tq.ok.mono HB5.out.size))
        clear f1 f2 g0 g1 g2 g3 g4
        go_wp2_with fail
        go_roundw
        case rel => exact ⟨j + 1, by go_num, by omega, HB6.out⟩
        case measure => simp [intOf]; omega
      · obtain rfl : j = nl := by omega
        have hjn' : ¬ (j : Int) < (j : Int) := by omega
        have HW := Lib.hid HB.out
        clear HKC HU1 hjn
        go_wp2_with fail
        clear HB q0 q1 q2 hjz hjn'
        go_loopw [6] (fun u wz => ∃ i : Nat, u = .int .i64 i ∧ i ≤ nd ∧ Below w4.heap.size w4 wz) (fun u _ => nd - (intOf u).toNat)
        case atStart => exact ⟨0, rfl, Nat.zero_le _, HW.out⟩
        case round =>
          clear HW
          obtain ⟨i, rfl, hi, hb⟩ := hrel
          have HB := Lib.hid hb
          have hiz : (0 : Int) ≤ (i : Int) := Int.natCast_nonneg _
          have q0 := below_cell1 hb HXL.out (blk_cell HX4.out 0)
          have q1 := below_cell1 hb HXL.out (blk_cell HX4.out 1)
          clear hb
          by_cases hin : i < nd
          · have hin' : (i : Int) < (nd : Int) := by omega
            obtain ⟨d, hd⟩ : ∃ d, x.D[i]? = some d := ⟨_, List.getElem?_eq_getElem (by rw [← HND.out]; exact hin)⟩
            obtain ⟨bd, od, rfl, hbd, hdx⟩ := HDC.out (by omega)
            have da1 := below_cell1 HB.out hbd (hdx i d hd).2.1
            have da2 := below_cell1 HB.out hbd (hdx i d hd).2.2.1
            obtain ⟨s0, hs0, hs1⟩ := HU2.out i (by rw [← HND.out]; exact hin)
            have HSI := Lib.hid (show ∃ s ∈ x.S, s.1 = (i : Int) from ⟨s0, hs0, hs1⟩)
            have HGO := Lib.hid (fun u : World => good_calls d.lv d.ct u)
            rw [HU3.out d (List.mem_of_getElem? hd)] at HGO
            unfold lab at HGO
            generalize d.lv = dlv at da1 HGO
            generalize d.ct = dct at da2 HGO
            clear hdx hd hs0 hs1 s0 d
            go_wp2_with fail
            go_loop [7, 8] (fun u7 u8 => ∃ n k : Nat, u7 = .int .i64 n ∧ u8 = .int .i64 k ∧ k ≤ ns ∧ n ≤ k ∧ ((∃ s ∈ x.S.take k, s.1 = (i : Int)) → 1 ≤ n)) (fun _ u => ns - (intOf u).toNat)
            case atStart => exact ⟨0, 0, rfl, rfl, Nat.zero_le _, Nat.le_refl _, by rintro ⟨s, hs, _⟩; simp at hs⟩
            case round =>
              obtain ⟨n, k, rfl, rfl, hk, hnk, hex⟩ := hrel
              have HEX := Lib.hid hex
              have hnz : (0 : Int) ≤ (n : Int) := Int.natCast_nonneg _
              have hkz : (0 : Int) ≤ (k : Int) := Int.natCast_nonneg _
              clear hex
              by_cases hkn : k < ns
              · have hkn' : (k : Int) < (ns : Int) := by omega
                obtain ⟨s, hs⟩ : ∃ s, x.S[k]? = some s := ⟨_, List.getElem?_eq_getElem (by rw [← HNS.out]; exact hkn)⟩
                obtain ⟨bs, os, rfl, hbs, hsx⟩ := HSC.out (by omega)
                have k0 := below_cell1 HB.out hbs (hsx k s hs 0 _ rfl)
                rw [Nat.add_zero] at k0
                have HS := Lib.hid hs
                obtain ⟨sd, sl⟩ := s
                simp only at k0
                clear hsx hs
                by_cases hsd : sd = (i : Int)
                · subst hsd
                  go_wp2_with fail
                  go_round
                  case rel => exact ⟨n + 1, k + 1, by go_num, by go_num, by omega, by omega, fun _ => by omega⟩
                  case measure => simp [intOf]; omega
                · have hsd2 : (sd == (i : Int)) = false := by simpa using hsd
                  have HNE := Lib.hid hsd
                  clear hsd
                  go_wp2_with fail
                  go_round
                  case rel => exact ⟨n, k + 1, rfl, by go_num, by omega, by omega, fun ⟨s, hs, he⟩ => HEX.out ⟨s, by
                      rw [List.take_add_one, HS.out, Option.toList_some] at hs
                      rcases List.mem_append.1 hs with hs | hs
                      · exact hs
                      · rw [List.mem_singleton] at hs
                        rw [hs] at he
                        exact absurd he HNE.out, he⟩⟩
                  case measure => simp [intOf]; omega
              · obtain rfl : k = ns := by omega
                have hkn' : ¬ (k : Int) < (k : Int) := by omega
                have hn1 : 1 ≤ n := HEX.out (by rw [List.take_of_length_le (by rw [← HNS.out]; exact Nat.le_refl _)]; exact HSI.out)
                have hn2 : ((n : Int) == 0) = false := by simpa using (by omega : n ≠ 0)
                have hn3 : ¬ (n : Int) = 0 := by omega
                clear hkn HEX
                go_wp2_with fail
                refine (HGO.out _).mono ?_
                rintro e w7 ⟨rfl, hb7⟩
                have HB7 := Lib.hid (HB.out.trans (hb7.mono HB.out.size))
                clear hb7
                go_wp2_with fail
                go_roundw
                case rel => exact ⟨i + 1, by go_num, by omega, HB7.out⟩
                case measure => simp [intOf]; omega
          · obtain rfl : i = nd := by omega
            have hin' : ¬ (i : Int) < (i : Int) := by omega
            have HB6 := Lib.hid (HB4.out.trans (HB.out.mono HB4.out.size))
            have HT6 := Lib.hid (HT4.out.below HB.out)
            clear hin
            go_wp2_with fail
            refine (awake4_calls _ HT6.out).mono ?_
            rintro e w7 ⟨rfl, hb7⟩
            have HB7 := Lib.hid (HB6.out.trans (hb7.mono HB6.out.size))
            clear hb7
            go_wp2_with fail
            go_ret
            exact ⟨rfl, HB7.out⟩
  · have he' : (ch == 0) = false := by simpa using hc
    have hen : (ch != 0) = true := by simpa using hc
    clear hc HUP
    go_wp2_with fail
    refine (awake4_calls w4 HT4.out).mono ?_
    rintro e w5 ⟨rfl, hb5⟩
    have HB5 := Lib.hid (HB4.out.trans (hb5.mono HB4.out.size))
    clear hb5
    go_wp2_with fail
    go_ret
    exact ⟨rfl, HB5.out⟩
end Go.Proofs.YtkjhgfjlknbdkaaDoor
