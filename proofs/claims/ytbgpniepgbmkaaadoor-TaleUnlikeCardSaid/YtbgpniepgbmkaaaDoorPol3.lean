/- What policy.domains does. Conditions: the list can be read, its names are not too long. -/
import Derived.Test.YtbgpniepgbmkaaaDoorPol2
import Derived.Test.YtbgpniepgbmkaaaDoorSignPrint
import Derived.Test.YtbgpniepgbmkaaaDoorOrd
import Derived.Test.YtbgpniepgbmkaaaDoorQuietB
import Derived.Deep.DeepCutAuto
namespace Go.Proofs.YtbgpniepgbmkaaaDoor
open Go.RowKit BigFrame Go.BigFrame

/-- The first that is no 0. -/
def firstE : List Int → Int
  | [] => 0
  | e :: r => if e = 0 then firstE r else e
theorem firstE_zero : ∀ {l : List Int}, (∀ e ∈ l, e = 0) → firstE l = 0
  | [], _ => rfl
  | e :: r, h => by rw [firstE, if_pos (h e (by simp)), firstE_zero (fun x hx => h x (by simp [hx]))]
theorem firstE_hit : ∀ {l : List Int} {i : Nat} {e : Int}, (∀ x ∈ l.take i, x = 0) → l[i]? = some e → e ≠ 0 → firstE l = e
  | [], i, e, _, h, _ => by simp at h
  | x :: r, 0, e, _, h, hn => by
    simp only [List.getElem?_cons_zero, Option.some.injEq] at h
    subst h
    rw [firstE, if_neg hn]
  | x :: r, i + 1, e, h0, h, hn => by
    rw [firstE, if_pos (h0 x (by simp)), firstE_hit (i := i) (fun y hy => h0 y (by simp [hy])) (by simpa using h) hn]
theorem take_zero {l : List Int} {i : Nat} (h0 : ∀ x ∈ l.take i, x = 0) (h : l[i]? = some 0) : ∀ x ∈ l.take (i + 1), x = 0 := by
  rw [List.take_add_one, h, Option.toList_some]
  intro x hx
  rcases List.mem_append.1 hx with hx | hx
  · exact h0 x hx
  · rw [List.mem_singleton] at hx
    exact hx
def nameBad (D : List Dm) (j : Nat) (d : Dm) : Bool := !(nameB (bl d.nm 0)) || decide (0 ≤ findD (D.take j) d.nm)
def domErr (D : List Dm) (j : Nat) (d : Dm) : Int := if nameBad D j d = true then 4 else if goodL d.lv d.ct = false then 3 else if (inB d.ta 1 8 && (inB d.ob 0 8 && inB d.ri 1 16)) = false then 1 else 0
def domErrs (D : List Dm) : List Int := D.mapIdx (domErr D)
def domsM (D : List Dm) : Int := firstE (domErrs D)
theorem domErrs_at {D : List Dm} {j : Nat} {d : Dm} (h : D[j]? = some d) : (domErrs D)[j]? = some (domErr D j d) := by
  unfold domErrs
  rw [List.getElem?_mapIdx, h]
  rfl
theorem reads_takeR {α : Type} {f : α → List Value} {k : Nat} {w : World} {a : Option Addr} {n c j : Nat} {xs : List α} (h : Reads w k (.slice a n c) n (xs.flatMap f)) (hf : ∀ x ∈ xs, (f x).length = k) (hl : xs.length = n) (hj : j ≤ n) : Reads w k (.slice a j c) j ((xs.take j).flatMap f) := by
  have hlen : ∀ ys : List α, (∀ x ∈ ys, (f x).length = k) → (ys.flatMap f).length = ys.length * k := by
    intro ys hys
    induction ys with
    | nil => simp
    | cons x ys ih => rw [List.flatMap_cons, List.length_append, ih (fun z hz => hys z (by simp [hz])), hys x (by simp), List.length_cons, Nat.add_mul]; omega
  have hfull : xs.flatMap f = (xs.take j).flatMap f ++ (xs.drop j).flatMap f := by rw [← List.flatMap_append, List.take_append_drop]
  obtain ⟨h1, a', c', e, h2, h3, h4⟩ := h
  injection e with e1 _ e3
  subst e1 e3
  refine ⟨by rw [hlen _ (fun x hx => hf x (List.mem_of_mem_take hx)), List.length_take, hl, Nat.min_eq_left hj], a, c, rfl, by omega, h3, fun hp => ?_⟩
  obtain ⟨b, o, e, hc⟩ := h4 (by omega)
  refine ⟨b, o, e, fun i u hi => hc i u ?_⟩
  rw [hfull, List.getElem?_append_left (List.getElem?_eq_some_iff.1 hi).1]
  exact hi
/-- A domain in a box. -/
def BoxD (db : Nat) (d : Dm) (w : World) : Prop := w.heap[db]? = some (.cells #[.string d.nm, .int .i64 d.lv, .int .i64 d.ct, .int .i64 d.ta, .int .i64 d.ob, .int .i64 d.ri] 51 (0, 0))
theorem BoxD.below {db : Nat} {d : Dm} {w w' : World} (h : BoxD db d w) (hb : Below w.heap.size w w') : BoxD db d w' := (hb.block db (lt_of_block h)).trans h
theorem Reads.below {w w' : World} {k n : Nat} {v : Value} {xs : List Value} (h : Reads w k v n xs) (hk : 0 < k) (hb : Below w.heap.size w w') : Reads w' k v n xs := by
  by_cases hn : 0 < n
  · exact h.frame (fun j hj => hb.block j (h.lt hn hk j hj))
  · obtain ⟨h1, a, c, rfl, h2, h3, h4⟩ := h
    exact ⟨h1, a, c, rfl, h2, h3, fun h => absurd h hn⟩
set_option maxRecDepth 100000 in
set_option maxHeartbeats 16000000 in
theorem domains_calls {w : World} {v : Value} {n : Nat} {D : List Dm} (h : Reads w 6 v n (D.flatMap Dm.cells)) (hs : ∀ d ∈ D, d.nm.size ≤ 140737488351232) :
    Calls Tryd.prog 28 #[v] w fun e w' => e = .returned (.int .i64 (domsM D)) ∧ Below w.heap.size w w' := by
  have HR := Lib.hid h
  obtain ⟨hl, a, c, rfl, h2, h3, h4⟩ := doms_open h
  unfold maxLen at h3
  have HL := Lib.hid hl
  have H4 := Lib.hid h4
  have HS := Lib.hid hs
  clear h hl h4 hs
  go_enter Tryd.func28, Tryd.ntmps28
  go_wp2_with fail
  go_loopw [7] (fun u wr => ∃ j : Nat, u = .int .i64 j ∧ j ≤ n ∧ (∀ e ∈ (domErrs D).take j, e = 0) ∧ Below w.heap.size w wr) (fun u _ => n - (intOf u).toNat)
  case atStart => exact ⟨0, rfl, Nat.zero_le _, by simp, Below.refl _ _⟩
  case round =>
    obtain ⟨j, rfl, hj, hno, hb⟩ := hrel
    have HNO := Lib.hid hno
    have HB := Lib.hid hb
    have hjz : (0 : Int) ≤ (j : Int) := Int.natCast_nonneg _
    clear hno hb
    by_cases hc : j < n
    · have hc' : (j : Int) < (n : Int) := by omega
      have hjc : (j : Int) ≤ (c : Int) := by omega
      obtain ⟨d, hd⟩ : ∃ d, D[j]? = some d := ⟨_, List.getElem?_eq_getElem (by rw [HL.out]; exact hc)⟩
      obtain ⟨bl', o, rfl, hbl, hcx⟩ := H4.out (by omega)
      obtain ⟨g0, g1, g2, g3, g4, g5⟩ := hcx j d hd
      have k0 := below_cell1 HB.out hbl g0
      have k1 := below_cell1 HB.out hbl g1
      have k2 := below_cell1 HB.out hbl g2
      have k3 := below_cell1 HB.out hbl g3
      have k4 := below_cell1 HB.out hbl g4
      have k5 := below_cell1 HB.out hbl g5
      clear g0 g1 g2 g3 g4 g5
      have HE := Lib.hid (domErrs_at hd)
      have hx0 : BoxD wr.heap.size d (wr.alloc (.cells #[.string d.nm, .int .i64 d.lv, .int .i64 d.ct, .int .i64 d.ta, .int .i64 d.ob, .int .i64 d.ri] 51)) := heap_alloc_new wr _
      have HX0 := Lib.hid hx0
      have HB0 := Lib.hid (HB.out.trans ((plus_one1 wr (.cells #[.string d.nm, .int .i64 d.lv, .int .i64 d.ct, .int .i64 d.ta, .int .i64 d.ob, .int .i64 d.ri] 51)).mono HB.out.size))
      have HSZ := Lib.hid (HS.out d (List.mem_of_getElem? hd))
      have HNB := Lib.hid (show nameBad D j d = (!(nameB (bl d.nm 0)) || decide (0 ≤ findD (D.take j) d.nm)) from rfl)
      have HDE := Lib.hid (show domErr D j d = if nameBad D j d = true then 4 else if goodL d.lv d.ct = false then 3 else if (inB d.ta 1 8 && (inB d.ob 0 8 && inB d.ri 1 16)) = false then 1 else 0 from rfl)
      generalize hnb : nameBad D j d = nbad at HNB HDE
      clear hnb
      generalize hde : domErr D j d = de at HE HDE
      clear hde
      have HRT := Lib.hid (reads_takeR HR.out (fun x _ => dm_len x) HL.out hj)
      generalize D.take j = Dj at HNB HRT
      obtain ⟨nm, lv, ct, ta, ob, ri⟩ := d
      simp only at k0 k1 k2 k3 k4 k5 HSZ HNB HDE
      clear hcx hd hx0
      go_upto_region 4 with (fail)
      obtain ⟨db, hdb⟩ : ∃ db, db = wr.heap.size := ⟨_, rfl⟩
      rw [← hdb] at HX0 ⊢
      generalize wr.alloc (.cells #[.string nm, .int .i64 lv, .int .i64 ct, .int .i64 ta, .int .i64 ob, .int .i64 ri] 51) = w1 at HX0 HB0 ⊢
      clear hdb k0 k1 k2 k3 k4 k5 HB
      go_cut [12] (fun u12 wx => u12 = .bool nbad ∧ Below w1.heap.size w1 wx)
      case first => as_aux_lemma =>
        have hkj : ∀ t : BW w1, t.at_.cell? ⟨db, 0, none⟩ = some (.string nm) := fun t => blk_cell (HX0.out.below t.ok) 0
        have HNA := Lib.hid (fun u : World => signName_calls nm HSZ.out u)
        have HFI := Lib.hid (fun t : BW w1 => find_calls (HRT.out.below (by omega) (HB0.out.trans (t.ok.mono HB0.out.size))) nm)
        generalize nameB (bl nm 0) = b1 at HNA HNB
        generalize findD Dj nm = f at HFI HNB
        cases b1 with
        | false =>
          have HV := Lib.hid (show nbad = true by rw [HNB.out]; rfl)
          go_wp2_with fail
          refine wp_region_quiet_bw (by kernel_rfl) (by kernel_rfl) ?_
          repeat (go_big_quiet_step (first | (go_at_call 51; refine Calls.bw _ (HNA.out _)) | (go_at_call 52; refine Calls.bw _ (HFI.out _))))
          refine wpQuiet_nil ?_
          intro _ hw'
          obtain ⟨tq, rfl⟩ := hw'
          go_wp2_with fail
          go_meet
          exact ⟨by rw [HV.out], tq.ok⟩
        | true =>
          by_cases hf : 0 ≤ f
          · have hfd : decide (0 ≤ f) = true := decide_eq_true hf
            have HV := Lib.hid (show nbad = true by rw [HNB.out, hfd]; rfl)
            go_wp2_with fail
            refine wp_region_quiet_bw (by kernel_rfl) (by kernel_rfl) ?_
            repeat (go_big_quiet_step (first | (go_at_call 51; refine Calls.bw _ (HNA.out _)) | (go_at_call 52; refine Calls.bw _ (HFI.out _))))
            refine wpQuiet_nil ?_
            intro _ hw'
            obtain ⟨tq, rfl⟩ := hw'
            go_wp2_with fail
            go_meet
            exact ⟨by rw [HV.out], tq.ok⟩
          · have hfd : decide (0 ≤ f) = false := decide_eq_false hf
            have HV := Lib.hid (show nbad = false by rw [HNB.out, hfd]; rfl)
            go_wp2_with fail
            refine wp_region_quiet_bw (by kernel_rfl) (by kernel_rfl) ?_
            repeat (go_big_quiet_step (first | (go_at_call 51; refine Calls.bw _ (HNA.out _)) | (go_at_call 52; refine Calls.bw _ (HFI.out _))))
            refine wpQuiet_nil ?_
            intro _ hw'
            obtain ⟨tq, rfl⟩ := hw'
            go_wp2_with fail
            go_meet
            exact ⟨by rw [HV.out], tq.ok⟩
      case rest =>
      obtain ⟨rfl, hb2⟩ := hcut
      have HX2 := Lib.hid (HX0.out.below hb2)
      have HB2 := Lib.hid (HB0.out.trans (hb2.mono HB0.out.size))
      clear hb2 HX0 HB0
      cases nbad with
      | true =>
        have HV := Lib.hid (show domsM D = 4 from by
          have h1 := HE.out
          rw [HDE.out] at h1
          exact firstE_hit HNO.out h1 (by decide))
        go_wp2_with fail
        go_ret
        rw [HV.out]
        exact ⟨rfl, HB2.out⟩
      | false =>
        have HGO := Lib.hid (good_calls lv ct wc)
        have c1 : wc.cell? ⟨db, 1, none⟩ = some (.int .i64 lv) := blk_cell HX2.out 1
        have c2 : wc.cell? ⟨db, 2, none⟩ = some (.int .i64 ct) := blk_cell HX2.out 2
        unfold lab at HGO
        generalize goodL lv ct = g at HGO HDE
        cases g with
        | false =>
          have HV := Lib.hid (show domsM D = 3 from by
            have h1 := HE.out
            rw [HDE.out] at h1
            exact firstE_hit HNO.out h1 (by decide))
          go_wp2_with fail
          refine HGO.out.mono ?_
          rintro e w4 ⟨rfl, hb4⟩
          have HB4 := Lib.hid (HB2.out.trans (hb4.mono HB2.out.size))
          clear hb4
          go_wp2_with fail
          go_ret
          rw [HV.out]
          exact ⟨rfl, HB4.out⟩
        | true =>
          have HI := Lib.hid (fun (n a b : Int) (w : World) => in_calls n a b w)
          have HDE2 := Lib.hid (show de = if (inB ta 1 8 && (inB ob 0 8 && inB ri 1 16)) = false then 1 else 0 by rw [HDE.out]; rfl)
          clear HDE
          have h1 := HI.out ta 1 8
          have h2' := HI.out ob 0 8
          have h3' := HI.out ri 1 16
          generalize inB ta 1 8 = t1 at h1 HDE2
          generalize inB ob 0 8 = t2 at h2' HDE2
          generalize inB ri 1 16 = t3 at h3' HDE2
          have H1 := Lib.hid h1
          have H2 := Lib.hid h2'
          have H3 := Lib.hid h3'
          clear h1 h2' h3' HI
          go_wp2_with fail
          refine HGO.out.mono ?_
          rintro e w4 ⟨rfl, hb4⟩
          have HX4 := Lib.hid (HX2.out.below hb4)
          have HB4 := Lib.hid (HB2.out.trans (hb4.mono HB2.out.size))
          have c3 : w4.cell? ⟨db, 3, none⟩ = some (.int .i64 ta) := blk_cell HX4.out 3
          have c4 : w4.cell? ⟨db, 4, none⟩ = some (.int .i64 ob) := blk_cell HX4.out 4
          have c5 : w4.cell? ⟨db, 5, none⟩ = some (.int .i64 ri) := blk_cell HX4.out 5
          clear hb4
          cases t1 with
          | false =>
            have HV := Lib.hid (show domsM D = 1 from by
              have h1 := HE.out
              rw [HDE2.out] at h1
              exact firstE_hit HNO.out h1 (by decide))
            go_wp2_with fail
            refine (H1.out _).mono ?_
            rintro e w5 ⟨rfl, rfl⟩
            go_wp2_with fail
            go_ret
            rw [HV.out]
            exact ⟨rfl, HB4.out⟩
          | true =>
            cases t2 with
            | false =>
              have HV := Lib.hid (show domsM D = 1 from by
                have h1 := HE.out
                rw [HDE2.out] at h1
                exact firstE_hit HNO.out h1 (by decide))
              go_wp2_with fail
              refine (H1.out _).mono ?_
              rintro e w5 ⟨rfl, rfl⟩
              go_wp2_with fail
              refine (H2.out _).mono ?_
              rintro e w5 ⟨rfl, rfl⟩
              go_wp2_with fail
              go_ret
              rw [HV.out]
              exact ⟨rfl, HB4.out⟩
            | true =>
              cases t3 with
              | false =>
                have HV := Lib.hid (show domsM D = 1 from by
                  have h1 := HE.out
                  rw [HDE2.out] at h1
                  exact firstE_hit HNO.out h1 (by decide))
                go_wp2_with fail
                refine (H1.out _).mono ?_
                rintro e w5 ⟨rfl, rfl⟩
                go_wp2_with fail
                refine (H2.out _).mono ?_
                rintro e w5 ⟨rfl, rfl⟩
                go_wp2_with fail
                refine (H3.out _).mono ?_
                rintro e w5 ⟨rfl, rfl⟩
                go_wp2_with fail
                go_ret
                rw [HV.out]
                exact ⟨rfl, HB4.out⟩
              | true =>
                have HV := Lib.hid (show ∀ e ∈ (domErrs D).take (j + 1), e = 0 from by
                  have h1 := HE.out
                  rw [HDE2.out] at h1
                  exact take_zero HNO.out h1)
                go_wp2_with fail
                refine (H1.out _).mono ?_
                rintro e w5 ⟨rfl, rfl⟩
                go_wp2_with fail
                refine (H2.out _).mono ?_
                rintro e w5 ⟨rfl, rfl⟩
                go_wp2_with fail
                refine (H3.out _).mono ?_
                rintro e w5 ⟨rfl, rfl⟩
                go_wp2_with fail
                go_roundw
                case rel => exact ⟨j + 1, by go_num, by omega, HV.out, HB4.out⟩
                case measure => simp [intOf]; omega
    · obtain rfl : j = n := by omega
      have hc' : ¬ (j : Int) < (j : Int) := by omega
      have HV := Lib.hid (show domsM D = 0 from firstE_zero (by
        have := HNO.out
        rwa [List.take_of_length_le (by rw [domErrs, List.length_mapIdx, HL.out]; exact Nat.le_refl _)] at this))
      go_wp2_with fail
      go_ret
      rw [HV.out]
      exact ⟨rfl, HB.out⟩
end Go.Proofs.YtbgpniepgbmkaaaDoor
