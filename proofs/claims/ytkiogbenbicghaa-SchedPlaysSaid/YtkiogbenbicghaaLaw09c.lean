/- The walk of the statement SchedWaits: it returns true. Condition: the numbers fit their kinds. -/
import Derived.Test.YtkiogbenbicghaaLaw09b
namespace Go.Proofs.Ytkiogbenbicghaa
open Go.RowKit BigFrame

/-- A Sched, and a row of the call's own in blocks from B on. -/
structure Wt (w wr : World) (b : SB) (B : Nat) (A : Ar) (rl : List Int) (v : Value) (xs : List Int) : Prop where
  r : Rk w wr b A rl
  o : wr.ownsRow B 3 1 v xs.length (ints xs)
  lt : ∀ k, k = b.s ∨ k = b.G ∨ b.ft k → k < B
  wB : w.heap.size ≤ B
  sz : B ≤ wr.heap.size
section
variable {w wr w' : World} {b : SB} {B : Nat} {A A' : Ar} {rl rl' xs : List Int} {v : Value}
theorem Wt.act (h : Wt w wr b B A rl v xs) (hr : Rk w w' b A' rl') (hx : Ext wr w' b.ft) : Wt w w' b B A' rl' v xs :=
  ⟨hr, owns_same h.o (fun k hk => hx.block k (h.o.lt k hk).2 (fun hf => by have := h.lt k (.inr (.inr hf)); have := (h.o.lt k hk).1; omega)), h.lt, h.wB, Nat.le_trans h.sz hx.size⟩
theorem Wt.plus (h : Wt w wr b B A rl v xs) (hb : Below wr.heap.size wr w') : Wt w w' b B A rl v xs := h.act (h.r.plus hb) (Ext.of_below hb)
theorem Wt.push (h : Wt w wr b B A rl v xs) {o : Obj} {v' : Value} {x : Int} (hown : w'.ownsRow B 3 1 v' (xs.length + 1) (ints xs ++ [.int .i64 x])) (hgr : (wr.alloc o).grownBy w' v.ownBlock) : Wt w w' b B A rl v' (xs ++ [x]) ∧ Below B wr w' := by
  have hs : wr.heap.size ≤ w'.heap.size := Nat.le_trans (by simp) hgr.size
  have hb : Below B wr w' := ⟨hgr.os, hgr.tape, hgr.output, hs, fun k hk => by
    have := h.sz
    rw [hgr.block k (by simp; omega) (fun e => by have := (h.o.lt k e.symm).1; omega)]
    exact Below.heap_alloc _ _ _ (by omega)⟩
  refine ⟨⟨⟨h.r.1.imp (fun _ ht => ht.frame (fun k hk => hb.block k (h.lt k hk))), h.r.2.trans (hb.mono h.wB)⟩, ?_, h.lt, h.wB, Nat.le_trans h.sz hs⟩, hb⟩
  rw [List.length_append, ints_snoc]
  exact hown
end
theorem Kv.belowB {w w' : World} {Ft : Nat → Prop} {v : Value} {l : List Int} {B : Nat} (h : Kv w Ft v l) (hb : Below B w w') (hB : ∀ k, v.ownBlock = some k → k < B) : Kv w' Ft v l :=
  ⟨h.1.frame (fun k hk => hb.block k (hB k hk)), fun k hk hl => ⟨Nat.lt_of_lt_of_le (h.2 k hk hl).1 hb.size, (h.2 k hk hl).2⟩⟩
theorem Rk.run2 {w wr : World} {b : SB} {A : Ar} {rl : List Int} (h : Rk w wr b A rl) :
    Calls Try.prog 29 #[.pointer (some ⟨b.s, 0, none⟩)] wr fun e w' => ∃ v, e = .returned v ∧ Reads w' 1 v rl.length (ints rl) ∧ (∀ k, v.ownBlock = some k → wr.heap.size ≤ k) ∧ Rk w w' b A rl ∧ Below wr.heap.size wr w' := by
  obtain ⟨⟨fs, h1⟩, h2⟩ := h
  exact (trun_calls h1).mono fun _ _ ⟨v, e1, e2, e3, e4⟩ => ⟨v, e1, e2, e3, ⟨⟨_, h1.below e4⟩, h2.trans (e4.mono h2.size)⟩, e4⟩
/-- What was read stays where a row of one's own grows. -/
theorem reads_grown {w0 wr w2 : World} {o : Obj} {u v : Value} {B n : Nat} {xs : List Value} {e : TypeId} {m : Nat} {l : List Int} (hown : w0.ownsRow B e 1 u n xs) (hgr : (wr.alloc o).grownBy w2 u.ownBlock) (hr : Reads wr 1 v m (ints l)) (hm : 0 < m) (hv : ∀ k, v.ownBlock = some k → w0.heap.size ≤ k) : Reads w2 1 v m (ints l) :=
  hr.frame (fun k hk => by
    have q1 := hv k hk
    have q2 := hr.lt hm (by decide) k hk
    rw [hgr.block k (by simp; omega) (fun e => by have := (hown.lt k e.symm).2; omega), Below.heap_alloc _ _ _ q2])
def wantL (l : List Int) (t : Int) (j : Nat) : List Int := (l.take j).filter (fun x => decide (x ≠ t))
theorem want_hit {l : List Int} {t x : Int} {j : Nat} (hx : l[j]? = some x) (h : x ≠ t) : wantL l t (j + 1) = wantL l t j ++ [x] := by
  unfold wantL
  rw [List.take_add_one, hx, Option.toList_some, List.filter_append]
  simp [h]
theorem want_miss {l : List Int} {t : Int} {j : Nat} (hx : l[j]? = some t) : wantL l t (j + 1) = wantL l t j := by
  unfold wantL
  rw [List.take_add_one, hx, Option.toList_some, List.filter_append]
  simp
theorem want_len (l : List Int) (t : Int) (j : Nat) : (wantL l t j).length ≤ l.length := Nat.le_trans (List.length_filter_le _ _) (by rw [List.length_take]; omega)
theorem want_all (l : List Int) (t : Int) : wantL l t l.length = l.filter (fun x => decide (x ≠ t)) := by unfold wantL; rw [List.take_length]

set_option maxRecDepth 100000 in
set_option maxHeartbeats 16000000 in
theorem schedWaits_walk (w : World) (n : Int) (n0 : 0 ≤ n) (n1 : n ≤ 255) (q : Int) (q0 : 0 ≤ q) (q1 : q ≤ 255) (ex : Bool) :
    Calls Try.prog 9 #[.int .u8 n, .int .u8 q, .bool ex] w fun e w' => e = .returned (.bool true) ∧ Below w.heap.size w w' := by
  obtain ⟨n, rfl⟩ : ∃ k : Nat, n = k := ⟨n.toNat, by omega⟩
  obtain ⟨q, rfl⟩ : ∃ k : Nat, q = k := ⟨q.toNat, by omega⟩
  obtain ⟨i0, hi, hz0, hz1, hz2⟩ := info_parts Try.info_int
  have HI0 := Lib.hid hi
  clear hi
  go_enter Try.func9, Try.ntmps9
  go_wp2_with fail
  refine (new8 _).mono ?_
  rintro e w1 ⟨b, rfl, h1, hk⟩
  have H1 := Lib.hid h1
  have HK := Lib.hid hk
  clear h1 hk
  go_wp2_with fail
  go_loopw [8] (fun u wr => ∃ i : Nat, u = .int .i64 i ∧ i ≤ n % 8 ∧ Rk w wr b (spK i) (rlK i)) (fun u _ => n % 8 - (intOf u).toNat)
  case atStart => exact ⟨0, rfl, Nat.zero_le _, H1.out⟩
  case round =>
    clear H1
    obtain ⟨i, rfl, hi, hR⟩ := hrel
    have HR := Lib.hid hR
    clear hR
    by_cases hc : i < n % 8
    · have hc' : (i : Int) < (n : Int) % 8 := by omega
      obtain ⟨e1, e2, e3, e4⟩ := spK_step (k := i) (by omega)
      have HS := Lib.hid (HR.out.spawn HK.out ⟨e1, e2, e3, e4⟩)
      clear e1 e2 e3 e4
      go_wp2_with fail
      refine HS.out.mono ?_
      rintro e w2 ⟨rfl, h2, -⟩
      have H2 := Lib.hid h2
      clear h2
      go_wp2_with fail
      go_roundw
      case rel => exact ⟨i + 1, by go_num, by omega, H2.out⟩
      case measure => simp [intOf]; omega
    · obtain ⟨k, hkk⟩ : ∃ k, k = n % 8 := ⟨_, rfl⟩
      obtain rfl : i = k := by omega
      have hc' : ¬ (i : Int) < (n : Int) % 8 := by omega
      have hi8 : i < 8 := by omega
      have HRun := Lib.hid HR.out.run
      clear hkk hi hc
      have hlne : ((i : Int) + 1 == 0) = false := by simp; omega
      go_wp2_with fail
      refine HRun.out.mono ?_
      rintro e w2 ⟨v, rfl, hv, h2, -⟩
      obtain ⟨bv, o, cap, rfl, p1, p2⟩ := hv.shape (by rw [rlK_len]; omega)
      unfold maxLen at p2
      rw [rlK_len] at p1
      rw [rlK_len] at hv ⊢
      have hvB : bv < w2.heap.size := (hv.2 bv rfl (by rw [← List.length_pos_iff, rlK_len]; omega)).1
      have hlt : ∀ k, k = b.s ∨ k = b.G ∨ b.ft k → k < w2.heap.size := by
        obtain ⟨fs, ht⟩ := h2.1
        exact ht.lt
      have hm0 : (0 : Int) ≤ (q : Int) % ((i : Int) + 1) := Int.emod_nonneg _ (by omega)
      have hm1 : (q : Int) % ((i : Int) + 1) < (i : Int) + 1 := Int.emod_lt_of_pos _ (by omega)
      have hm2 : ((q : Int) % ((i : Int) + 1)).toNat = q % (i + 1) := by
        rw [show (q : Int) % ((i : Int) + 1) = ((q % (i + 1) : Nat) : Int) by simp]
        rfl
      obtain ⟨t, ht1, ht2, ht3, s1, s2, s3, s4, s5, s6, s7, s8, s9, s10, s11, s12, s13⟩ := wait_step (k := i) (j := q % (i + 1)) hi8 (Nat.mod_lt _ (by omega))
      have hcell : w2.cell? ⟨bv, o + q % (i + 1), none⟩ = some (.int .i64 t) := hv.cell ht1
      have H2 := Lib.hid h2
      have HV := Lib.hid hv
      have HLT := Lib.hid hlt
      have HM2 := Lib.hid hm2
      have S1 := Lib.hid s1
      have S2 := Lib.hid s2
      have S3 := Lib.hid s3
      have S4 := Lib.hid s4
      have S5 := Lib.hid s5
      have S6 := Lib.hid s6
      have S7 := Lib.hid s7
      have S8 := Lib.hid s8
      have S9 := Lib.hid s9
      have S10 := Lib.hid s10
      have S11 := Lib.hid s11
      have S12 := Lib.hid s12
      have S13 := Lib.hid s13
      have HVB := Lib.hid hvB
      clear h2 hv HR HRun hlt hm2 ht1 s1 s2 s3 s4 s5 s6 s7 s8 s9 s10 s11 s12 s13 hvB
      go_wp2_with fail
      have HL0 := Lib.hid (show Wt w (w2.alloc (.cells #[] 3)) b w2.heap.size (spK i) (rlK i) (.slice (some ⟨w2.heap.size, 0, none⟩) 0 0) (wantL (rlK i) t 0) from
        ⟨H2.out.plus ((Below.refl _ _).alloc (Nat.le_refl _) _), ⟨rfl, .inr ⟨w2.heap.size, 0, _, rfl, Nat.le_refl _, heap_alloc_new _ _, Nat.le_refl _, Nat.zero_le _, rfl, rfl⟩⟩, HLT.out, H2.out.2.size, by simp⟩)
      have HV0 := Lib.hid (HV.out.below ((Below.refl _ _).alloc (Nat.le_refl _) (.cells #[] 3)))
      clear H2 HV HLT hcell
      generalize w2.heap.size = B at HL0 HV0 HVB ⊢
      go_loopw [11, 12] (fun u1 u2 wr => ∃ j : Nat, u2 = .int .i64 j ∧ j ≤ i + 1 ∧ Wt w wr b B (spK i) (rlK i) u1 (wantL (rlK i) t j) ∧ Kv wr b.ft (.slice (some ⟨bv, o, none⟩) (i + 1) cap) (rlK i)) (fun _ u _ => i + 1 - (intOf u).toNat)
      case atStart => exact ⟨0, rfl, Nat.zero_le _, HL0.out, HV0.out⟩
      case round =>
        clear HL0 HV0
        obtain ⟨j, rfl, hj, hW, hV⟩ := hrel
        have HW := Lib.hid hW
        have HV := Lib.hid hV
        have hwl := want_len (rlK i) t j
        rw [rlK_len] at hwl
        have hjz : (0 : Int) ≤ (j : Int) := Int.natCast_nonneg _
        clear hW hV
        by_cases hc : j < i + 1
        · have hc' : (j : Int) < ((i + 1 : Nat) : Int) := by omega
          obtain ⟨x, hx⟩ : ∃ x, (rlK i)[j]? = some x := ⟨_, List.getElem?_eq_getElem (by rw [rlK_len]; omega)⟩
          have hxc : wr.cell? ⟨bv, o + j, none⟩ = some (.int .i64 x) := HV.out.cell hx
          by_cases hxt : x = t
          · have hb : (x != t) = false := by simp [hxt]
            have HX := Lib.hid (show (rlK i)[j]? = some t by rw [hx, hxt])
            clear hx hxt
            go_wp2_with fail
            go_roundw
            case rel => exact ⟨j + 1, by go_num, by omega, by rw [want_miss HX.out]; exact HW.out, HV.out⟩
            case measure => simp [intOf]; omega
          · have hb : (x != t) = true := by simp [hxt]
            have HX := Lib.hid (want_hit hx hxt)
            have hown := HW.out.o
            have hsz := HW.out.sz
            clear hx hxt
            go_wp2_with (at_builtin; refine wpList_append_own _ rfl _ _ 37 rfl B 3 i0 (.int .i64 0) 1 8 Try.underlying37 HI0.out hz0 hz1 hz2 rfl (by decide) _ _ _ rfl (hown.alloc _) ⟨wr.heap.size, 0, none⟩ 1 1 [.int .i64 x] rfl rfl ?c1 ?c2 ?c3 ?c4 ?c5 ?_)
            case c1 => exact news_one wr _ _
            case c2 => exact news_int _
            case c3 => unfold maxLen; omega
            case c4 => omega
            case c5 => simp; omega
            intro v' w4 hown' hgr _
            have hP := HW.out.push hown' hgr
            have HP := Lib.hid hP.1
            have HV4 := Lib.hid (HV.out.belowB hP.2 (fun k hk => by simp only [Value.ownBlock, Option.some.injEq] at hk; subst hk; exact HVB.out))
            clear hP hown' hgr hown
            go_wp2_with fail
            go_roundw
            case rel => exact ⟨j + 1, by go_num, by omega, by rw [HX.out]; exact HP.out, HV4.out⟩
            case measure => simp [intOf]; omega
        · have hc' : ¬ (j : Int) < ((i + 1 : Nat) : Int) := by omega
          have HW0 := Lib.hid (show Wt w wr b B (spK i) (rlK i) u11 ((rlK i).erase t) by
            have h := HW.out
            rw [show j = (rlK i).length by rw [rlK_len]; omega, want_all, ← S13.out] at h
            exact h)
          have hel : ((rlK i).erase t).length ≤ i + 1 := by have := (List.erase_sublist (a := t) (l := rlK i)).length_le; rw [rlK_len] at this; exact this
          clear HW HV S13 hwl
          generalize (rlK i).erase t = er at *
          go_wp2_with fail
          refine (HW0.out.r.block HK.out S1.out (by omega)).mono ?_
          rintro e w11 ⟨rfl, hr, hx⟩
          have HW1 := Lib.hid (HW0.out.act hr hx)
          clear hr hx
          go_wp2_with fail
          refine (HW1.out.r.block HK.out S2.out (by omega)).mono ?_
          rintro e w12 ⟨rfl, hr, hx⟩
          have HW2 := Lib.hid (HW1.out.act hr hx)
          clear hr hx
          go_wp2_with fail
          refine (HW2.out.r.yield HK.out S3.out (by omega)).mono ?_
          rintro e w13 ⟨rfl, hr, hx⟩
          have HW3 := Lib.hid (HW2.out.act hr hx)
          clear hr hx
          go_wp2_with fail
          refine (HW3.out.r.run).mono ?_
          rintro e w14 ⟨vr4, rfl, hv, hr, hb⟩
          have HW4 := Lib.hid (HW3.out.plus hb)
          have HVR4 := Lib.hid hv
          clear hr hb hv
          go_wp2_with fail
          refine (ints_any (ok := true) (decide_eq_true rfl) HVR4.out.1 (Reads.of_owns HW4.out.o)).mono ?_
          rintro e w15 ⟨rfl, z5, rfl⟩
          have HW5 := Lib.hid (HW4.out.plus (below_drewN (Below.refl _ _) z5))
          clear HVR4
          clear HW0 HW1 HW2 HW3 HW4
          cases ex
          · as_aux_lemma =>
            go_wp2_with fail
            refine (awake9_calls _).mono ?_
            rintro e w16 ⟨rfl, hb⟩
            have HW6 := Lib.hid (HW5.out.plus hb)
            clear hb
            go_wp2_with fail
            refine (HW6.out.r.ready HK.out S11.out (by omega)).mono ?_
            rintro e w17 ⟨rfl, hr, hx⟩
            have HW7 := Lib.hid (HW6.out.act hr hx)
            clear hr hx
            go_wp2_with fail
            refine (HW7.out.r.ready HK.out S12.out (by omega)).mono ?_
            rintro e w18 ⟨rfl, hr, hx⟩
            have HW8 := Lib.hid (HW7.out.act hr hx)
            clear hr hx
            go_wp2_with fail
            refine (HW8.out.r.run2).mono ?_
            rintro e w19 ⟨vr9, rfl, hv, hge, hr, hb⟩
            have HW9 := Lib.hid (HW8.out.plus hb)
            have HVR9 := Lib.hid hv
            have HGE9 := Lib.hid hge
            clear hr hb hv hge
            have hown := HW9.out.o
            have hsz := HW9.out.sz
            go_wp2_with (refine wpList_append_wanted (.tmp 123) (.tmp 125) 37 rfl (by rfl) B 3 i0 (.int .i64 0) 1 8 Try.underlying37 HI0.out hz0 hz1 hz2 rfl (by decide) _ _ _ rfl (hown.alloc _) ⟨w19.heap.size, 0, none⟩ 1 1 [.int .i64 t] rfl rfl ?c1 ?c2 ?c3 ?c4 ?c5 ?_)
            case c1 => exact news_one w19 _ _
            case c2 => exact news_int _
            case c3 => unfold maxLen; omega
            case c4 => omega
            case c5 => simp; omega
            intro v' w20 hown' hgr
            have hP := HW9.out.push hown' hgr
            have HP := Lib.hid hP.1
            have HR20 := Lib.hid (reads_grown HW8.out.o hgr HVR9.out (by simp) HGE9.out)
            clear hP hown hown' hgr
            go_wp2_with fail
            refine (ints_any (ok := true) (decide_eq_true rfl) HR20.out (Reads.of_owns HP.out.o)).mono ?_
            rintro e w21 ⟨rfl, z11, rfl⟩
            go_wp2_with fail
            go_ret
            exact ⟨rfl, below_drewN HP.out.r.2 z11⟩
          · as_aux_lemma =>
            go_wp2_with fail
            refine (awake9_calls _).mono ?_
            rintro e w16 ⟨rfl, hb⟩
            have HW6 := Lib.hid (HW5.out.plus hb)
            clear hb
            go_wp2_with fail
            refine (HW6.out.r.exit HK.out ⟨S4.out, rfl, S5.out⟩ (by omega)).mono ?_
            rintro e w17 ⟨rfl, hr, hx⟩
            have HW7 := Lib.hid (HW6.out.act hr hx)
            clear hr hx
            go_wp2_with fail
            refine (HW7.out.r.exit HK.out ⟨S6.out, S7.out, S8.out⟩ (by omega)).mono ?_
            rintro e w18 ⟨rfl, hr, hx⟩
            have HW8 := Lib.hid (HW7.out.act hr hx)
            clear hr hx
            go_wp2_with fail
            refine (HW8.out.r.ready HK.out S9.out (by omega)).mono ?_
            rintro e w19 ⟨rfl, hr, hx⟩
            have HW9 := Lib.hid (HW8.out.act hr hx)
            clear hr hx
            go_wp2_with fail
            refine (HW9.out.r.place S10.out (by omega)).mono ?_
            rintro e w' ⟨rfl, rfl⟩
            go_wp2_with fail
            refine (HW9.out.r.run).mono ?_
            rintro e w20 ⟨vr10, rfl, hv, hr, hb⟩
            have HW10 := Lib.hid (HW9.out.plus hb)
            have HVR10 := Lib.hid hv
            clear hr hb hv
            go_wp2_with fail
            refine (ints_any (ok := true) (decide_eq_true rfl) HVR10.out.1 (Reads.of_owns HW10.out.o)).mono ?_
            rintro e w21 ⟨rfl, z11, rfl⟩
            go_wp2_with fail
            go_ret
            exact ⟨rfl, below_drewN HW10.out.r.2 z11⟩
end Go.Proofs.Ytkiogbenbicghaa
