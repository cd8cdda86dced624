/- What wheel's Due does. Condition: the timers lie in memory (IsM); what is due at once can be sorted (hs: Sorts). -/
import Derived.Test.YtajhfjgndkdbnaaWheel7
import Derived.Test.YtajhfjgndkdbnaaObj
namespace Go.Proofs.Ytajhfjgndkdbnaa
open Go.RowKit BigFrame

/-- In Due's loops: the timers, less those that were met (S), which lie in the row v. -/
structure DR (w wr : World) (b : WB) (D : WD) (N : Nat) (S : List Nat) (v : Value) : Prop where
  i : IsW wr b { D with L := cutL D.L S } N
  o : wr.ownsRow w.heap.size 3 1 v S.length (ints (asInts S))
  x : Ext w wr b.ft
  lt : ∀ k, k = b.G ∨ b.ft k → k < w.heap.size
section
variable {w wr w2 : World} {b : WB} {D : WD} {N : Nat} {S : List Nat} {v : Value}
theorem DR.below (h : DR w wr b D N S v) (hb : Below wr.heap.size wr w2) : DR w w2 b D N S v :=
  ⟨h.i.below hb, owns_same h.o (fun k hk => hb.block k (h.o.lt k hk).2), h.x.then (Ext.of_below hb), h.lt⟩
theorem DR.push (h : DR w wr b D N S v) {o : Obj} {v' : Value} {x : Nat} (hown : w2.ownsRow w.heap.size 3 1 v' (S.length + 1) (ints (asInts S) ++ [.int .i64 x])) (hgr : (wr.alloc o).grownBy w2 v.ownBlock) :
    IsW w2 b { D with L := cutL D.L S } N ∧ w2.ownsRow w.heap.size 3 1 v' (S ++ [x]).length (ints (asInts (S ++ [x]))) ∧ Ext w w2 b.ft := by
  have hs := h.x.size
  have hb : Below w.heap.size wr w2 := ⟨hgr.os, hgr.tape, hgr.output, Nat.le_trans (by simp) hgr.size, fun k hk => by
    rw [hgr.block k (by simp; omega) (fun e => by have := (h.o.lt k e.symm).1; omega)]
    exact Below.heap_alloc _ _ _ (by omega)⟩
  refine ⟨h.i.frame (fun k hk => hb.block k (h.lt k hk)), ?_, h.x.trans (G := fun k => w.heap.size ≤ k) ⟨hb.os, hb.tape, hb.output, hb.size, fun k hk hn => hb.block k (by omega)⟩ (fun _ _ h => h) (fun i hi h => by omega)⟩
  rw [List.length_append]
  have e : ints (asInts (S ++ [x])) = ints (asInts S) ++ [.int .i64 x] := by simp [ints, asInts]
  rw [e]
  exact hown
/-- The row that All handed over (slice a, of l), beside the row v that is being written. -/
def QV (w wr : World) (v : Value) (a : Option Addr) (l : List Nat) : Prop := 0 < l.length → ∃ bv o, a = some ⟨bv, o, none⟩ ∧ w.heap.size ≤ bv ∧ bv < wr.heap.size ∧ v.ownBlock ≠ some bv ∧ ∀ (i x : Nat), l[i]? = some x → wr.cell? ⟨bv, o + i, none⟩ = some (.int .i64 x)
theorem DR.pushed {a : Option Addr} {l : List Nat} (h : DR w wr b D N S v) (hq : QV w wr v a l) {o : Obj} {v' : Value} {x : Nat} (hown : w2.ownsRow w.heap.size 3 1 v' (S.length + 1) (ints (asInts S) ++ [.int .i64 x])) (hgr : (wr.alloc o).grownBy w2 v.ownBlock)
    (hat : v'.ownBlock = v.ownBlock ∨ v'.ownBlock = some (wr.heap.size + 1)) {w3 : World} (hf : IsF w3 b.G b.bq b.bn (removeL (cutL D.L S) x).2 N) (hx : Ext w2 w3 (FqF b.bq b.bn)) (hfl : D.L.flatten.Nodup) (hxf : x ∈ D.L.flatten) (hxS : x ∉ S) :
    DR w w3 b D N (S ++ [x]) v' ∧ QV w w3 v' a l := by
  obtain ⟨h1, h2, h3⟩ := h.push hown hgr
  have h1' := h1.actF hf hx
  rw [cut_remove hfl hxf hxS] at h1'
  have hbq := h.lt b.bq (.inr (.inr (.inl rfl)))
  have hbn := h.lt b.bn (.inr (.inr (.inr (.inl rfl))))
  have hkeep : ∀ k, w.heap.size ≤ k → k < w2.heap.size → w3.heap[k]? = w2.heap[k]? := fun k h0 hk => hx.block k hk (by rintro (rfl | rfl) <;> omega)
  refine ⟨⟨h1'.1, owns_same h2 (fun k hk => hkeep k (h2.lt k hk).1 (h2.lt k hk).2), h3.then h1'.2, h.lt⟩, fun hl => ?_⟩
  obtain ⟨bv, o', e, q1, q2, q3, q4⟩ := hq hl
  have hsz : (wr.alloc o).heap.size = wr.heap.size + 1 := by simp
  have hs2 := hgr.size
  have hs3 := hx.size
  refine ⟨bv, o', e, q1, by omega, ?_, fun i y hy => ?_⟩
  · rcases hat with hat | hat
    · rw [hat]; exact q3
    · rw [hat]
      intro e
      injection e with e
      omega
  · rw [← q4 i y hy]
    refine World.cell?_of_block ?_
    show w3.heap[bv]? = wr.heap[bv]?
    rw [hkeep bv q1 (by omega), hgr.block bv (by omega) (fun e => q3 e.symm)]
    exact Below.heap_alloc _ _ _ q2
theorem dueS_lt {N : Nat} {M : List (Int × Nat)} (h : WOk N D M) (nw : Int) : ∀ x ∈ dueS D nw, x < N := fun x hx => by
  obtain ⟨a, ha⟩ := h.mem x ((mem_dueS D nw x).1 hx).1
  exact (h.ent a x ha).1
theorem metS_len {N : Nat} {M : List (Int × Nat)} (h : WOk N D M) {k : Nat} {l : List Nat} (hl : D.L[k]? = some l) (nw : Int) (j : Nat) : (metS D nw k l j).length ≤ N := by
  have hsub : ((D.L.take k).flatten ++ l.take j).Sublist D.L.flatten := by
    have e : D.L.flatten = (D.L.take (k + 1)).flatten ++ (D.L.drop (k + 1)).flatten := by rw [← List.flatten_append, List.take_append_drop]
    rw [e, take_flat hl]
    exact (List.Sublist.append (List.Sublist.refl _) (List.take_sublist _ _)).trans (List.sublist_append_left _ _)
  refine short_nodup N _ (List.Nodup.sublist (List.filter_sublist.trans hsub) h.flat) (fun x hx => ?_)
  obtain ⟨a, ha⟩ := h.mem x (hsub.subset (List.mem_filter.1 hx).1)
  exact (h.ent a x ha).1
set_option maxRecDepth 100000 in
set_option maxHeartbeats 16000000 in
theorem wdue_calls {M : List (Int × Nat)} {n : Nat} (h : IsM w b N M n) (hsort : Sorts b N N) (t : Int) (ht : t ≤ 9223372036854775807) :
    Calls Try.prog 10 #[.pointer (some ⟨b.s, 0, none⟩), .int .i64 t] w fun e w' => ∃ v, e = .returned v ∧ Reads w' 1 v (dueM M (heldT t)).length (ints (asInts (dueM M (heldT t)))) ∧ (∀ k, v.ownBlock = some k → w.heap.size ≤ k) ∧ IsM w' b N (restM M (heldT t)) n ∧ Ext w w' b.ft := by
  have hlt := h.lt
  obtain ⟨D, h1, h2, h3, h4⟩ := h
  have hadd := fun u : World => add0_calls t u ht
  obtain ⟨hb1, hb2⟩ := heldT_bd t
  generalize heldT t = nw at hadd hb1 hb2 ⊢
  have HADD := Lib.hid hadd
  have HOK := Lib.hid h2
  have H1 := Lib.hid h1
  have HNOW := Lib.hid (And.intro h3 h4)
  have HLT := Lib.hid hlt
  have HSORT := Lib.hid hsort
  have hN := h1.small
  have HAL := Lib.hid h1.al
  obtain ⟨i0, hi, hz0, hz1, hz2⟩ := info_parts Try.info_int
  have HI0 := Lib.hid hi
  clear h1 h2 h3 h4 hadd hlt hi hsort
  go_enter Try.func10, Try.ntmps10
  go_wp2_with fail
  refine (HADD.out _).mono ?_
  rintro e w' ⟨rfl, rfl⟩
  go_wp2_with fail
  go_loopw [5, 13] (fun u5 u13 wr => ∃ k : Nat, u13 = .int .i64 k ∧ k ≤ 16 ∧ DR w wr b D N (metS D nw k [] 0) u5) (fun _ u _ => 16 - (intOf u).toNat)
  case atStart =>
    refine ⟨0, rfl, Nat.zero_le _, ?_, World.ownsRow_nil _ _ _ _, Ext.refl _ _, HLT.out⟩
    have : metS D nw 0 [] 0 = [] := by unfold metS; simp
    rw [this, cut_nil]
    exact H1.out
  case round =>
    obtain ⟨k, rfl, hk, hR⟩ := hrel
    have HR := Lib.hid hR
    have hkz : (0 : Int) ≤ (k : Int) := Int.natCast_nonneg _
    clear hR
    by_cases hk16 : k < 16
    · have hk16' : (k : Int) < 16 := by omega
      obtain ⟨l, hl⟩ : ∃ l, D.L[k]? = some l := ⟨_, List.getElem?_eq_getElem (by rw [HOK.out.l16]; exact hk16)⟩
      have c0 := HR.out.i.c0
      have hall := all_calls HR.out.i.fi k
      simp only at hall
      rw [cut_all hl (metS_apart HOK.out.flat hl)] at hall
      have HALL := Lib.hid hall
      have HLK := Lib.hid hl
      have hlN := isF_len H1.out.fi hl
      clear hall hl
      go_wp2_with fail
      refine HALL.out.mono ?_
      rintro e w2 ⟨v, rfl, hv, hvb, hb2⟩
      obtain ⟨a, c, rfl, q1, q2, q3⟩ := reads_nat hv
      have hR2 : DR w w2 b D N (metS D nw k l 0) u5 := by
        have := HR.out.below hb2
        rwa [show metS D nw k [] 0 = metS D nw k l 0 by unfold metS; simp] at this
      have hQ : QV w w2 u5 a l := fun hl => by
        obtain ⟨bv, o, rfl, hc⟩ := q3 hl
        have h1 := hvb bv rfl
        refine ⟨bv, o, rfl, Nat.le_trans HR.out.x.size h1, hv.lt hl (by decide) bv rfl, fun e => ?_, hc⟩
        have := (HR.out.o.lt bv e).2
        omega
      have HQ0 := Lib.hid (And.intro hR2 hQ)
      unfold maxLen at q2
      obtain ⟨m, hm⟩ : ∃ m, m = l.length := ⟨_, rfl⟩
      rw [← hm] at q1 hlN ⊢
      have HMM := Lib.hid hm
      clear hv hvb hb2 hR2 hQ q3 hm c0 HALL HR
      go_wp2_with fail
      go_loopw [5, 23] (fun u5 u23 wr => ∃ j : Nat, u23 = .int .i64 j ∧ j ≤ m ∧ DR w wr b D N (metS D nw k l j) u5 ∧ QV w wr u5 a l) (fun _ u _ => m - (intOf u).toNat)
      case atStart => exact ⟨0, rfl, Nat.zero_le _, HQ0.out⟩
      case round =>
        clear HQ0
        obtain ⟨j, rfl, hj, hRj, hQj⟩ := hrel
        have HR := Lib.hid hRj
        have HQ := Lib.hid hQj
        have hjz : (0 : Int) ≤ (j : Int) := Int.natCast_nonneg _
        clear hRj hQj
        by_cases hjm : j < m
        · have hjm' : (j : Int) < (m : Int) := by omega
          obtain ⟨x, hx⟩ : ∃ x, l[j]? = some x := ⟨_, List.getElem?_eq_getElem (by rw [← HMM.out]; exact hjm)⟩
          have hxf := flat_mem HLK.out (List.mem_of_getElem? hx)
          have hxN := (isF_where H1.out.fi HLK.out (List.mem_of_getElem? hx)).2
          obtain ⟨bv, o, rfl, _, _, _, hcell⟩ := HQ.out (by rw [← HMM.out]; omega)
          have kx := hcell j x hx
          obtain ⟨y, hy⟩ : ∃ y, D.at_[x]? = some y := ⟨_, List.getElem?_eq_getElem (by rw [HAL.out]; exact hxN)⟩
          have ky := owns_int HR.out.i.at_ (i := x) (x := y) hy
          have hxz : (0 : Int) ≤ (x : Int) := Int.natCast_nonneg _
          have hxN' : (x : Int) < (N : Int) := by omega
          have hyd : D.at_.getD x 0 = y := by rw [List.getD_eq_getElem?_getD, hy]; rfl
          have c0 := HR.out.i.c0
          have c1 := HR.out.i.c1
          by_cases hle : y ≤ nw
          · have HS := Lib.hid (metS_hit (D := D) (nw := nw) (k := k) hx (by rw [hyd]; exact hle))
            have HNO := Lib.hid (metS_not HOK.out.flat (nw := nw) HLK.out hx)
            have HXF := Lib.hid hxf
            have hown := HR.out.o
            have hsz := HR.out.x.size
            have hlen := metS_len HOK.out HLK.out nw j
            clear hcell hx hy hyd hxf
            go_wp2_with (at_builtin; go_loud (refine wpList_append_at rfl (.tmp 36) (.tmp 38) 26 rfl w.heap.size 3 i0 (.int .i64 0) 1 8 Try.underlying26 HI0.out hz0 hz1 hz2 rfl (by decide) u5 _ _ rfl (hown.alloc _) ⟨wr.heap.size, 0, none⟩ 1 1 [.int .i64 x] rfl rfl ?c1 ?c2 ?c3 ?c4 ?c5 ?_))
            case c1 => exact news_one wr _ _
            case c2 => exact news_int _
            case c3 => unfold maxLen; omega
            case c4 => omega
            case c5 => simp; omega
            intro v4 w4 own4 gr4 at4
            obtain ⟨p1, p2, p3⟩ := HR.out.push own4 gr4
            have c0 := p1.c0
            have hrm := remove_calls p1.fi x
            have HRM := Lib.hid hrm
            have HO := Lib.hid own4
            have HG := Lib.hid gr4
            have HA := Lib.hid at4
            clear p1 p2 p3 hrm own4 gr4 at4 hown
            go_wp2_with fail
            refine HRM.out.mono ?_
            rintro e w5 ⟨rfl, hf5, hx5⟩
            have HD5 := Lib.hid (HR.out.pushed HQ.out HO.out HG.out HA.out hf5 hx5 HOK.out.flat HXF.out HNO.out)
            clear hf5 hx5
            go_wp2_with fail
            go_roundw
            case rel => exact ⟨j + 1, by go_num, by omega, by rw [HS.out]; exact HD5.out⟩
            case measure => simp [intOf]; omega
          · have HS := Lib.hid (metS_miss (D := D) (nw := nw) (k := k) hx (by rw [hyd]; exact hle))
            clear hcell hx hy hyd hxf
            go_wp2_with fail
            go_roundw
            case rel => exact ⟨j + 1, by go_num, by omega, by rw [HS.out]; exact ⟨HR.out, HQ.out⟩⟩
            case measure => simp [intOf]; omega
        · obtain rfl : j = m := by omega
          have hjm' : ¬ (j : Int) < (j : Int) := by omega
          have HRE := Lib.hid (show DR w wr b D N (metS D nw (k + 1) [] 0) u5 by
            have := HR.out
            rwa [HMM.out, metS_next HLK.out] at this)
          go_wp2_with fail
          go_roundw
          case rel => exact ⟨k + 1, by go_num, by omega, HRE.out⟩
          case measure => simp [intOf]; omega
    · have hk16' : ¬ (k : Int) < 16 := by omega
      have hR := HR.out
      rw [show k = 16 by omega, metS_all HOK.out.l16] at hR
      obtain ⟨w1, w2', w3⟩ := HOK.out.due nw
      have HD := Lib.hid (And.intro w1 w2')
      have hlenS := w2'.length_eq
      have HSO := Lib.hid (fun (R' : List Nat) (hp : R'.Perm (dueS D nw)) (hs : R'.Pairwise (wle D)) => HOK.out.due_sorted nw hp hs)
      have HSL := Lib.hid (dueS_lt HOK.out nw)
      have HPA := Lib.hid (show Parted D (dueS D nw) from ⟨_, w2', w3⟩)
      have hSN : (dueS D nw).length ≤ N := by
        have := short_nodup N (dueS D nw) (List.Nodup.sublist List.filter_sublist HOK.out.flat) (dueS_lt HOK.out nw)
        exact this
      clear w1 w2' w3
      generalize hSS : dueS D nw = S at *
      clear hSS
      rcases hR.o.2 with ⟨rfl, hnil⟩ | ⟨bv, cap, cur, rfl, hbv, hbk, hcp, hcm, _⟩
      · have hS0 : S = [] := List.eq_nil_of_length_eq_zero hnil
        subst hS0
        have hM0 : dueM M nw = [] := List.eq_nil_of_length_eq_zero (by rw [← hlenS]; rfl)
        have HM0 := Lib.hid hM0
        have HRR := Lib.hid hR
        clear hR hnil hlenS hSN hM0 HR
        go_wp2_with fail
        refine (sort_nil _ _).mono ?_
        rintro e w5 ⟨rfl, rfl⟩
        go_wp2_with fail
        refine (clip_ints (n := 0) (cap := 0) (a := none) (Nat.le_refl _) (Nat.zero_le _)).mono ?_
        rintro e w6 ⟨rfl, rfl⟩
        go_wp2_with fail
        go_ret
        rw [HM0.out]
        exact ⟨_, rfl, Reads.nil _ _, (fun k hk => by cases hk), ⟨_, HRR.out.i, HD.out.1, HNOW.out.1, HNOW.out.2⟩, HRR.out.x⟩
      · have hSR : SR wr wr b { D with L := cutL D.L S } N bv S.length cap S :=
          ⟨hR.i, owns_zero hR.o, fun k hk e => by have := hR.lt k hk; omega, Ext.refl _ _⟩
        obtain ⟨nS, hnS⟩ : ∃ nS, nS = S.length := ⟨_, rfl⟩
        have hso := HSORT.out _ _ _ _ _ _ _ hSR HPA.out HSL.out (by omega) hcp hcm
        rw [← hnS] at hso hlenS hcp ⊢
        have HSRT := Lib.hid hso
        have HRR := Lib.hid hR
        have HLS := Lib.hid hlenS
        unfold maxLen at hcm
        have HNS := Lib.hid hnS
        have HBV := Lib.hid hbv
        clear hso hSR hR hlenS hSN HR hbk hnS hbv
        go_wp2_with fail
        refine HSRT.out.mono ?_
        rintro e w5 ⟨rfl, R', hp', hs', hS5⟩
        have HS5 := Lib.hid hS5
        have HEQ := Lib.hid (HSO.out R' hp' hs')
        clear hp' hs' hS5
        go_wp2_with fail
        refine (clip_ints hcp (by unfold maxLen; omega)).mono ?_
        rintro e w6 ⟨rfl, rfl⟩
        go_wp2_with fail
        go_ret
        have hrd := Reads.of_owns HS5.out.o
        rw [HEQ.out] at hrd
        rw [← HLS.out]
        obtain ⟨g1, a9, c9, e9, g2, g3, g4⟩ := hrd
        injection e9 with e9 _ _
        refine ⟨_, rfl, ⟨g1, _, _, rfl, Nat.le_refl _, by unfold maxLen; omega, fun h0 => by obtain ⟨bb, oo, f1, f2⟩ := g4 h0; exact ⟨bb, oo, by rw [e9]; exact f1, f2⟩⟩, fun k hk => ?_, ⟨_, HS5.out.i, HD.out.1, HNOW.out.1, HNOW.out.2⟩, ?_⟩
        · have hk2 : some bv = some k := hk
          injection hk2 with hk2
          have := HBV.out
          omega
        · exact HRR.out.x.trans HS5.out.x (fun _ _ h => h) (fun i hi (h : i = bv) => by have := HBV.out; omega)
end
end Go.Proofs.Ytajhfjgndkdbnaa
