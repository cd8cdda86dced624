/- What slices.partitionCmpFunc does at a part of a row of timers' numbers (sixteen or fewer). Condition: as in Wheel6. -/
import Derived.Test.YtajhfjgndkdbnaaBig3
namespace Go.Proofs.Ytajhfjgndkdbnaa
open Go.RowKit BigFrame

/-- The pivot p ahead; those below it (L), those not looked at (U), those not below it (G). -/
structure Pt (D : WD) (S0 : List Nat) (p : Nat) (L U G : List Nat) : Prop where
  perm : (p :: (L ++ U ++ G)).Perm S0
  lo : ∀ x ∈ L, wl D x p
  hi : ∀ x ∈ G, ¬ wl D x p
section
variable {D : WD} {S0 L U G : List Nat} {p u v : Nat}
theorem Pt.len (h : Pt D S0 p L U G) : 1 + L.length + U.length + G.length = S0.length := by have := h.perm.length_eq; simp at this; omega
theorem Pt.left (h : Pt D S0 p L (u :: U) G) (hu : wl D u p) : Pt D S0 p (L ++ [u]) U G :=
  ⟨by simpa using h.perm, fun x hx => by
    rcases List.mem_append.1 hx with hx | hx
    · exact h.lo x hx
    · rw [List.mem_singleton] at hx; subst hx; exact hu, h.hi⟩
theorem Pt.right (h : Pt D S0 p L (U ++ [u]) G) (hu : ¬ wl D u p) : Pt D S0 p L U (u :: G) :=
  ⟨by simpa using h.perm, h.lo, fun x hx => by
    rcases List.mem_cons.1 hx with rfl | hx
    · exact hu
    · exact h.hi x hx⟩
theorem Pt.swap (h : Pt D S0 p L (u :: (U ++ [v])) G) (hu : ¬ wl D u p) (hv : wl D v p) : Pt D S0 p (L ++ [v]) U (u :: G) := by
  refine ⟨List.Perm.trans ?_ h.perm, fun x hx => ?_, fun x hx => ?_⟩
  · refine List.Perm.cons p ?_
    simp only [List.append_assoc, List.cons_append, List.nil_append, List.singleton_append]
    refine List.Perm.append_left L ?_
    have : (v :: (U ++ u :: G)).Perm (u :: (U ++ v :: G)) := by
      refine List.Perm.trans (List.Perm.cons v List.perm_middle) ?_
      refine List.Perm.trans (List.Perm.swap u v _) ?_
      exact List.Perm.cons u List.perm_middle.symm
    exact this
  · rcases List.mem_append.1 hx with hx | hx
    · exact h.lo x hx
    · rw [List.mem_singleton] at hx; subst hx; exact hv
  · rcases List.mem_cons.1 hx with rfl | hx
    · exact hu
    · exact h.hi x hx
def rowP (A : List Nat) (p : Nat) (L U G C : List Nat) : List Nat := A ++ p :: (L ++ U ++ G) ++ C
theorem rowP_len {A C : List Nat} : (rowP A p L U G C).length = A.length + 1 + L.length + U.length + G.length + C.length := by simp [rowP]; omega
theorem rowP_p {A C : List Nat} : (rowP A p L U G C)[A.length]? = some p := by
  unfold rowP
  rw [mid_get (Nat.le_refl _) (by simp)]
  simp
theorem rowP_first {A C : List Nat} : (rowP A p L (u :: U) G C)[A.length + 1 + L.length]? = some u := by
  unfold rowP
  rw [mid_get (by omega) (by simp; omega), show A.length + 1 + L.length - A.length = L.length + 1 by omega, List.getElem?_cons_succ, List.append_assoc, List.getElem?_append_right (Nat.le_refl _)]
  simp
theorem rowP_last {A C : List Nat} : (rowP A p L (U ++ [u]) G C)[A.length + L.length + (U.length + 1)]? = some u := by
  unfold rowP
  rw [mid_get (by omega) (by simp; omega), show A.length + L.length + (U.length + 1) - A.length = (L.length + U.length) + 1 by omega, List.getElem?_cons_succ, List.append_assoc, List.getElem?_append_right (by omega)]
  simp
theorem rowP_y {A C : List Nat} {y : Nat} : (rowP A p (L ++ [y]) [] G C)[A.length + (L.length + 1)]? = some y := by
  unfold rowP
  rw [mid_get (by omega) (by simp), show A.length + (L.length + 1) - A.length = L.length + 1 by omega, List.getElem?_cons_succ]
  simp
theorem rowP_fin {A C : List Nat} {y : Nat} : ((rowP A p (L ++ [y]) [] G C).set (A.length + (L.length + 1)) p).set A.length y = A ++ ((y :: L) ++ p :: G) ++ C := by
  unfold rowP
  rw [mid_set (by omega) (by simp), mid_set (Nat.le_refl _) (by simp), show A.length + (L.length + 1) - A.length = L.length + 1 by omega, Nat.sub_self, List.set_cons_succ]
  simp only [List.append_nil, List.append_assoc]
  rw [List.set_append_right _ _ (Nat.le_refl _)]
  simp
theorem Pt.fin {y : Nat} (h : Pt D S0 p (L ++ [y]) [] G) : ((y :: L) ++ p :: G).Perm S0 ∧ (∀ x ∈ y :: L, wl D x p) ∧ ∀ x ∈ G, ¬ wl D x p := by
  refine ⟨List.Perm.trans ?_ h.perm, fun x hx => h.lo x (by simp at hx ⊢; rcases hx with hx | hx <;> simp [hx]), h.hi⟩
  simp only [List.append_nil, List.append_assoc, List.cons_append]
  refine List.Perm.trans (List.Perm.cons y List.perm_middle) (List.Perm.trans (List.Perm.swap p y _) (List.Perm.cons p ?_))
  exact List.perm_middle.symm
theorem Pt.fin0 (h : Pt D S0 p [] [] G) : ([] ++ p :: G).Perm S0 ∧ (∀ x ∈ ([] : List Nat), wl D x p) ∧ ∀ x ∈ G, ¬ wl D x p := ⟨by simpa using h.perm, h.lo, h.hi⟩
theorem rowP_swap {A C : List Nat} : ((rowP A p L (u :: (U ++ [v])) G C).set (A.length + 1 + L.length) v).set (A.length + 1 + L.length + (U.length + 1)) u = rowP A p (L ++ [v]) U (u :: G) C := by
  unfold rowP
  rw [mid_set (by omega) (by simp; omega), mid_set (by omega) (by simp; omega)]
  rw [show A.length + 1 + L.length - A.length = L.length + 1 by omega, show A.length + 1 + L.length + (U.length + 1) - A.length = L.length + 1 + U.length + 1 by omega]
  simp only [List.set_cons_succ, List.append_assoc]
  rw [List.set_append_right _ _ (Nat.le_refl _)]
  rw [List.set_append_right _ _ (by omega), show L.length + 1 + U.length - L.length = U.length + 1 by omega]
  simp
end
section
variable {w0 wr : World} {b : WB} {D : WD} {N bv n c : Nat}
set_option maxRecDepth 100000 in
set_option maxHeartbeats 32000000 in
theorem partition_calls {A C S0 : List Nat} {s0 p : Nat} {S1 S2 : List Nat} (hR : ∀ x ∈ S0, x < N) (hn : n ≤ 16) (hc : n ≤ c) (hcm : c ≤ maxLen) (a m pv : Nat) (hA : a = A.length) (hM : m = A.length + S0.length) (hS0 : S0 = s0 :: (S1 ++ p :: S2)) (hpv : pv = a + 1 + S1.length)
    (h : SR w0 wr b D N bv n c (A ++ S0 ++ C)) :
    Calls Try.prog 52 #[.slice (some ⟨bv, 0, none⟩) n c, .int .i64 a, .int .i64 m, .int .i64 pv, .func (.func 28) #[.pointer (some ⟨b.s, 0, none⟩)] #[]] wr fun e w' =>
      ∃ (L G : List Nat) (mid : Nat) (ok : Bool), e = .returned (.tuple #[.int .i64 mid, .bool ok]) ∧ mid = a + L.length ∧ (L ++ p :: G).Perm S0 ∧ (∀ x ∈ L, wl D x p) ∧ (∀ x ∈ G, ¬ wl D x p) ∧ SR w0 w' b D N bv n c (A ++ (L ++ p :: G) ++ C) := by
  have hlen := h.len
  rw [hS0] at hlen
  simp only [List.length_append, List.length_cons] at hlen
  have hg1 : (A ++ S0 ++ C)[a]? = some s0 := by rw [hA, mid_get (Nat.le_refl _) (by rw [hS0]; simp), hS0]; simp
  have hg2 : (A ++ S0 ++ C)[pv]? = some p := by
    rw [hpv, hA, mid_get (by omega) (by rw [hS0]; simp; omega), hS0, show A.length + 1 + S1.length - A.length = S1.length + 1 by omega, List.getElem?_cons_succ, List.getElem?_append_right (Nat.le_refl _)]
    simp
  have kx := h.cell hg1
  have kp := h.cell hg2
  have fx := h.o.frozenAt a
  have fp := h.o.frozenAt pv
  have hap : a ≠ pv := by omega
  have k2 := (h.set a p).cell (i := pv) (x := p) (by rw [List.getElem?_set_ne hap]; exact hg2)
  have hsw := ((h.set a p).set pv s0).drew
  have hrow : ((A ++ S0 ++ C).set a p).set pv s0 = rowP A p [] (S1 ++ s0 :: S2) [] C := by
    unfold rowP
    rw [hA, mid_set (Nat.le_refl _) (by rw [hS0]; simp), mid_set (by omega) (by rw [List.length_set, hpv, hA, hS0]; simp; omega), hS0, hpv, hA, show A.length - A.length = 0 by omega, show A.length + 1 + S1.length - A.length = S1.length + 1 by omega, List.set_cons_zero, List.set_cons_succ, List.set_append_right _ _ (Nat.le_refl _)]
    simp
  rw [hrow] at hsw
  have HSW := Lib.hid hsw
  have HPT0 := Lib.hid (show Pt D S0 p [] (S1 ++ s0 :: S2) [] from ⟨by
    rw [hS0]
    simp only [List.nil_append, List.append_nil]
    exact (List.Perm.cons p List.perm_middle).trans ((List.Perm.swap s0 p _).trans (List.Perm.cons s0 List.perm_middle.symm)), by simp, by simp⟩)
  have HA := Lib.hid hA
  have HM := Lib.hid hM
  have HR := Lib.hid hR
  have HLM := Lib.hid (show m = a + 1 + (S1 ++ s0 :: S2).length by rw [hM, hA, hS0]; simp; omega)
  have haz : (0 : Int) ≤ (a : Int) := Int.natCast_nonneg _
  have hpz : (0 : Int) ≤ (pv : Int) := Int.natCast_nonneg _
  have han : (a : Int) < (n : Int) := by omega
  have hpn : (pv : Int) < (n : Int) := by omega
  have hmn : (m : Int) ≤ (n : Int) := by rw [hM, hS0]; simp; omega
  have ham : (a : Int) + 1 < (m : Int) := by rw [hM, hA, hS0]; simp; omega
  unfold maxLen at hcm
  clear h hR hA hM hS0 hpv hlen hg1 hg2 hsw hrow
  go_enter Try.func52, Try.ntmps52
  go_wp2_with fail
  go_big_region
  generalize ((wr.setCell ⟨bv, a, none⟩ (.int .i64 p)).setCell ⟨bv, pv, none⟩ (.int .i64 s0)).drew = w1 at HSW ⊢
  clear kx kp fx fp k2 hap hpn hpz
  obtain ⟨q, hq⟩ : ∃ q, q = (S1 ++ s0 :: S2).length := ⟨_, rfl⟩
  have HQL := Lib.hid hq
  clear hq
  go_upto_region 2 with (fail)
  go_cut [12, 13] (fun u12 u13 wv => ∃ (i j : Nat) (L U G : List Nat), u12 = .int .i64 i ∧ u13 = .int .i64 j ∧ i = a + 1 + L.length ∧ (j = a + L.length + U.length ∧ U.length ≤ q) ∧ Pt D S0 p L U G ∧ SR w0 wv b D N bv n c (rowP A p L U G C))
  case first =>
    go_wp2_with fail
    go_meet
    exact ⟨a + 1, m - 1, [], S1 ++ s0 :: S2, [], by go_num, by congr 1; omega, by simp, ⟨by have := HLM.out; simp at this ⊢; omega, by rw [HQL.out]; exact Nat.le_refl _⟩, HPT0.out, HSW.out⟩
  case rest =>
  clear HSW HPT0 HLM
  obtain ⟨i, j, L, U, G, rfl, rfl, hi, hj, hpt, hS⟩ := hcut
  have HI := Lib.hid hi
  obtain ⟨hj, hq⟩ := hj
  have HJ := Lib.hid hj
  have HUQ := Lib.hid hq
  clear hq
  have HPT := Lib.hid hpt
  have HS := Lib.hid hS
  have hiz : (0 : Int) ≤ (i : Int) := Int.natCast_nonneg _
  have hjz : (0 : Int) ≤ (j : Int) := Int.natCast_nonneg _
  clear hi hj hpt hS
  go_upto_block 0 with (fail)
  go_cut [12] (fun u12 wv => ∃ (i : Nat) (L U : List Nat), u12 = .int .i64 i ∧ (U = [] ∨ ∃ u U', U = u :: U' ∧ ¬ wl D u p) ∧ i = a + 1 + L.length ∧ (j = a + L.length + U.length ∧ U.length ≤ q) ∧ Pt D S0 p L U G ∧ SR w0 wv b D N bv n c (rowP A p L U G C))
  case first => as_aux_lemma =>
    go_wp2_with fail
    go_loopw [12] (fun u12 wv => ∃ (i : Nat) (L U : List Nat), u12 = .int .i64 i ∧ i = a + 1 + L.length ∧ (j = a + L.length + U.length ∧ U.length ≤ q) ∧ Pt D S0 p L U G ∧ SR w0 wv b D N bv n c (rowP A p L U G C)) (fun u _ => m + 1 - (intOf u).toNat)
    case atStart => exact ⟨i, L, U, rfl, HI.out, ⟨HJ.out, HUQ.out⟩, HPT.out, HS.out⟩
    case round =>
      clear HI HJ HUQ HPT HS
      obtain ⟨i, L, U, rfl, hi, hj, hpt, hS⟩ := hrel
      have HI := Lib.hid hi
      obtain ⟨hj, hq⟩ := hj
      have HJ := Lib.hid hj
      have HUQ := Lib.hid hq
      clear hq
      have HPT := Lib.hid hpt
      have HS := Lib.hid hS
      have hiz : (0 : Int) ≤ (i : Int) := Int.natCast_nonneg _
      have hjz : (0 : Int) ≤ (j : Int) := Int.natCast_nonneg _
      clear hi hj hpt hS
      have hl := HPT.out.len
      have hlen := HS.out.len
      rw [rowP_len] at hlen
      have hia := HI.out
      have hja := HJ.out
      have haA := HA.out
      have hSM := HM.out
      cases U with
      | nil =>
        simp only [List.length_nil] at hl hja
        have hd1 : decide ((i : Int) ≤ (j : Int)) = false := decide_eq_false (by omega)
        have hd2 : decide (i ≤ j) = false := decide_eq_false (by omega)
        have hd3 : ¬ (i : Int) ≤ (j : Int) := by omega
        clear hl hlen hia hja haA hSM
        go_wp2_with fail
        go_big_quiet (fail)
        go_wp2_with fail
        go_meet
        exact ⟨i, L, [], rfl, .inl rfl, HI.out, ⟨HJ.out, HUQ.out⟩, HPT.out, HS.out.below (below_draws _ _ _)⟩
      | cons u U =>
        simp only [List.length_cons] at hl hja hlen
        have hd1 : decide ((i : Int) ≤ (j : Int)) = true := decide_eq_true (by omega)
        have hd2 : decide (i ≤ j) = true := decide_eq_true (by omega)
        have hd3 : (i : Int) ≤ (j : Int) := by omega
        have hin : (i : Int) < (n : Int) := by omega
        have him : i < m := by omega
        clear hl hlen hia hja haA hSM
        have hxg : (rowP A p L (u :: U) G C)[i]? = some u := by rw [HI.out, HA.out]; exact rowP_first
        have hpg : (rowP A p L (u :: U) G C)[a]? = some p := by rw [HA.out]; exact rowP_p
        have huN := HR.out u (HPT.out.perm.mem_iff.1 (by simp))
        have hpN := HR.out p (HPT.out.perm.mem_iff.1 (by simp))
        have kx := HS.out.cell hxg
        have kp := HS.out.cell hpg
        have hor := order_calls HS.out.drew.i u p huN hpN
        have HNEG := Lib.hid (cfW_neg D u p)
        generalize cfW D u p = r at hor HNEG
        have HOR := Lib.hid hor
        have HX := Lib.hid hxg
        have HPP := Lib.hid hpg
        clear hxg hpg huN hpN hor
        by_cases hneg : r < 0
        · have hd : decide (r < 0) = true := decide_eq_true hneg
          have HLT := Lib.hid (HNEG.out.1 hneg)
          go_wp2_with fail
          go_region_held3 (fun w' => w'.cell? ⟨bv, i, none⟩ = some (.int .i64 u) ∧ w'.cell? ⟨bv, a, none⟩ = some (.int .i64 p)) (first | go_keep | exact ⟨kx, kp⟩ | exact hkk)
            ((go_at_call 28; refine HOR.out.mono ?_; rintro e w4 ⟨rfl, hb4⟩; have HS4 := Lib.hid (HS.out.drew.below hb4); have hkk := And.intro (HS4.out.cell HX.out) (HS4.out.cell HPP.out); clear hb4))
          all_goals go_wp2_with fail
          all_goals clear kx kp hkk
          all_goals go_roundw
          case rel => exact ⟨i + 1, L ++ [u], U, by go_num, by have := HI.out; simp; omega, ⟨by have := HJ.out; simp at this ⊢; omega, by have := HUQ.out; simp at this; omega⟩, HPT.out.left HLT.out, by have := HS4.out; simpa [rowP] using this⟩
          case measure => simp [intOf]; omega
        · have hd : decide (r < 0) = false := decide_eq_false hneg
          have HLT := Lib.hid (fun e => hneg (HNEG.out.2 e))
          go_wp2_with fail
          go_region_held3 (fun w' => w'.cell? ⟨bv, i, none⟩ = some (.int .i64 u) ∧ w'.cell? ⟨bv, a, none⟩ = some (.int .i64 p)) (first | go_keep | exact ⟨kx, kp⟩ | exact hkk)
            ((go_at_call 28; refine HOR.out.mono ?_; rintro e w4 ⟨rfl, hb4⟩; have HS4 := Lib.hid (HS.out.drew.below hb4); have hkk := And.intro (HS4.out.cell HX.out) (HS4.out.cell HPP.out); clear hb4))
          all_goals go_wp2_with fail
          all_goals clear kx kp hkk
          all_goals go_meet
          all_goals exact ⟨i, L, u :: U, rfl, .inr ⟨u, U, rfl, HLT.out⟩, HI.out, ⟨HJ.out, HUQ.out⟩, HPT.out, HS4.out⟩
  case rest =>
  clear HI HJ HUQ HPT HS
  obtain ⟨i, L, U, rfl, hst, hi, hj, hpt, hS⟩ := hcut
  have HST := Lib.hid hst
  clear hst
  have HI := Lib.hid hi
  obtain ⟨hj, hq⟩ := hj
  have HJ := Lib.hid hj
  have HUQ := Lib.hid hq
  clear hq
  have HPT := Lib.hid hpt
  have HS := Lib.hid hS
  have hiz : (0 : Int) ≤ (i : Int) := Int.natCast_nonneg _
  have hjz : (0 : Int) ≤ (j : Int) := Int.natCast_nonneg _
  clear hi hj hpt hS
  go_upto_block 2 with (fail)
  go_cut [13] (fun u13 wv => ∃ (j : Nat) (U G : List Nat), u13 = .int .i64 j ∧ (U = [] ∨ ∃ u U' v, U = u :: (U' ++ [v]) ∧ ¬ wl D u p ∧ wl D v p) ∧ i = a + 1 + L.length ∧ (j = a + L.length + U.length ∧ U.length ≤ q) ∧ Pt D S0 p L U G ∧ SR w0 wv b D N bv n c (rowP A p L U G C))
  case first => as_aux_lemma =>
    go_wp2_with fail
    go_loopw [13] (fun u13 wv => ∃ (j : Nat) (U G : List Nat), u13 = .int .i64 j ∧ (U = [] ∨ ∃ u U', U = u :: U' ∧ ¬ wl D u p) ∧ i = a + 1 + L.length ∧ (j = a + L.length + U.length ∧ U.length ≤ q) ∧ Pt D S0 p L U G ∧ SR w0 wv b D N bv n c (rowP A p L U G C)) (fun u _ => (intOf u).toNat)
    case atStart => exact ⟨j, U, G, rfl, HST.out, HI.out, ⟨HJ.out, HUQ.out⟩, HPT.out, HS.out⟩
    case round =>
      clear HI HJ HUQ HPT HS HST
      obtain ⟨j, U, G, rfl, hst, hi, hj, hpt, hS⟩ := hrel
      have HST := Lib.hid hst
      clear hst
      have HI := Lib.hid hi
      obtain ⟨hj, hq⟩ := hj
      have HJ := Lib.hid hj
      have HUQ := Lib.hid hq
      clear hq
      have HPT := Lib.hid hpt
      have HS := Lib.hid hS
      have hiz : (0 : Int) ≤ (i : Int) := Int.natCast_nonneg _
      have hjz : (0 : Int) ≤ (j : Int) := Int.natCast_nonneg _
      clear hi hj hpt hS
      have hl := HPT.out.len
      have hlen := HS.out.len
      rw [rowP_len] at hlen
      have hia := HI.out
      have hja := HJ.out
      have haA := HA.out
      have hSM := HM.out
      rcases List.eq_nil_or_concat U with rfl | ⟨U, u, rfl⟩
      · simp only [List.length_nil] at hl hja
        have hd1 : decide ((i : Int) ≤ (j : Int)) = false := decide_eq_false (by omega)
        have hd2 : decide (i ≤ j) = false := decide_eq_false (by omega)
        have hd3 : ¬ (i : Int) ≤ (j : Int) := by omega
        clear hl hlen hia hja haA hSM
        go_wp2_with fail
        go_big_quiet (fail)
        go_wp2_with fail
        go_meet
        exact ⟨j, [], G, rfl, .inl rfl, HI.out, ⟨HJ.out, HUQ.out⟩, HPT.out, HS.out.below (below_draws _ _ _)⟩
      · rw [List.concat_eq_append] at *
        simp only [List.length_append, List.length_cons, List.length_nil] at hl hja hlen
        have hd1 : decide ((i : Int) ≤ (j : Int)) = true := decide_eq_true (by omega)
        have hd2 : decide (i ≤ j) = true := decide_eq_true (by omega)
        have hd3 : (i : Int) ≤ (j : Int) := by omega
        have hin : (j : Int) < (n : Int) := by omega
        have hj1 : 1 ≤ j := by omega
        have hjs : ((j - 1 : Nat) : Int) = (j : Int) - 1 := by omega
        have HJS := Lib.hid hjs
        clear hl hlen hia hja haA hSM hjs
        have hxg : (rowP A p L (U ++ [u]) G C)[j]? = some u := by rw [HJ.out, HA.out, List.length_append]; exact rowP_last
        have hpg : (rowP A p L (U ++ [u]) G C)[a]? = some p := by rw [HA.out]; exact rowP_p
        have huN := HR.out u (HPT.out.perm.mem_iff.1 (by simp))
        have hpN := HR.out p (HPT.out.perm.mem_iff.1 (by simp))
        have kx := HS.out.cell hxg
        have kp := HS.out.cell hpg
        have hor := order_calls HS.out.drew.i u p huN hpN
        have HNEG := Lib.hid (cfW_neg D u p)
        generalize cfW D u p = r at hor HNEG
        have HOR := Lib.hid hor
        have HX := Lib.hid hxg
        have HPP := Lib.hid hpg
        clear hxg hpg huN hpN hor
        by_cases hneg : r < 0
        · have hd : decide (r < 0) = true := decide_eq_true hneg
          have HLT := Lib.hid (HNEG.out.1 hneg)
          go_wp2_with fail
          go_region_held3 (fun w' => w'.cell? ⟨bv, j, none⟩ = some (.int .i64 u) ∧ w'.cell? ⟨bv, a, none⟩ = some (.int .i64 p)) (first | go_keep | exact ⟨kx, kp⟩ | exact hkk)
            ((go_at_call 28; refine HOR.out.mono ?_; rintro e w4 ⟨rfl, hb4⟩; have HS4 := Lib.hid (HS.out.drew.below hb4); have hkk := And.intro (HS4.out.cell HX.out) (HS4.out.cell HPP.out); clear hb4))
          all_goals go_wp2_with fail
          all_goals clear kx kp hkk
          all_goals go_meet
          all_goals refine ⟨j, U ++ [u], G, rfl, ?_, HI.out, ⟨HJ.out, HUQ.out⟩, HPT.out, HS4.out⟩
          rcases HST.out with h | ⟨u', U', h, hw⟩
          · simp at h
          · cases U with
            | nil =>
              simp only [List.nil_append, List.cons.injEq] at h
              exact absurd (h.1 ▸ HLT.out) hw
            | cons z U =>
              simp only [List.cons_append, List.cons.injEq] at h
              exact .inr ⟨z, U, u, rfl, by rw [h.1]; exact hw, HLT.out⟩
        · have hd : decide (r < 0) = false := decide_eq_false hneg
          have HLT := Lib.hid (fun e => hneg (HNEG.out.2 e))
          go_wp2_with fail
          go_region_held3 (fun w' => w'.cell? ⟨bv, j, none⟩ = some (.int .i64 u) ∧ w'.cell? ⟨bv, a, none⟩ = some (.int .i64 p)) (first | go_keep | exact ⟨kx, kp⟩ | exact hkk)
            ((go_at_call 28; refine HOR.out.mono ?_; rintro e w4 ⟨rfl, hb4⟩; have HS4 := Lib.hid (HS.out.drew.below hb4); have hkk := And.intro (HS4.out.cell HX.out) (HS4.out.cell HPP.out); clear hb4))
          all_goals go_wp2_with fail
          all_goals clear kx kp hkk
          all_goals go_roundw
          case rel =>
            refine ⟨j - 1, U, u :: G, by rw [HJS.out], ?_, HI.out, ⟨by have := HJ.out; simp at this; omega, by have := HUQ.out; simp at this; omega⟩, HPT.out.right HLT.out, by have := HS4.out; simpa [rowP] using this⟩
            rcases HST.out with h | ⟨u', U', h, hw⟩
            · simp at h
            · cases U with
              | nil => exact .inl rfl
              | cons z U =>
                simp only [List.cons_append, List.cons.injEq] at h
                exact .inr ⟨z, U, rfl, by rw [h.1]; exact hw⟩
          case measure => simp [intOf]; omega
  case rest =>
  clear HI HJ HUQ HPT HS HST
  obtain ⟨j, U, G, rfl, hst, hi, hj, hpt, hS⟩ := hcut
  have HST := Lib.hid hst
  clear hst
  have HI := Lib.hid hi
  obtain ⟨hj, hq⟩ := hj
  have HJ := Lib.hid hj
  have HUQ := Lib.hid hq
  clear hq
  have HPT := Lib.hid hpt
  have HS := Lib.hid hS
  have hiz : (0 : Int) ≤ (i : Int) := Int.natCast_nonneg _
  have hjz : (0 : Int) ≤ (j : Int) := Int.natCast_nonneg _
  clear hi hj hpt hS
  rcases HST.out with rfl | ⟨u, U', v, rfl, hnu, hwv⟩
  · as_aux_lemma =>
    have hl := HPT.out.len
    have hlen := HS.out.len
    rw [rowP_len] at hlen
    have hia := HI.out
    have hja := HJ.out
    have haA := HA.out
    simp only [List.length_nil] at hl hja hlen
    have hgt : (j : Int) < (i : Int) := by omega
    have hjn : (j : Int) < (n : Int) := by omega
    have fj := HS.out.o.frozenAt j
    have fa := HS.out.o.frozenAt a
    have hpa : (rowP A p L [] G C)[a]? = some p := by rw [HA.out]; exact rowP_p
    have ka := HS.out.cell hpa
    rcases List.eq_nil_or_concat L with rfl | ⟨L, y, rfl⟩
    · simp only [List.length_nil] at hja
      obtain rfl : j = a := by omega
      have k2 := (HS.out.set j p).cell (i := j) (x := p) (by rw [List.getElem?_set_self (by rw [rowP_len]; simp only [List.length_nil]; omega)])
      have hfin := HPT.out.fin0
      have HFIN := Lib.hid hfin
      have hS2 := ((HS.out.set j p).set j p).drew
      have hset : ((rowP A p [] [] G C).set j p).set j p = A ++ ([] ++ p :: G) ++ C := by
        rw [List.set_set]
        obtain ⟨h9, e9⟩ := List.getElem?_eq_some_iff.1 hpa
        have : (rowP A p [] [] G C).set j p = rowP A p [] [] G C := by
          have h10 := List.set_getElem_self h9
          rw [e9] at h10
          exact h10
        rw [this]
        simp [rowP]
      rw [hset] at hS2
      have HS2 := Lib.hid hS2
      clear hfin hS2 hset hpa hl hlen hia hja haA
      go_wp2_with fail
      go_big_region
      go_wp2_with fail
      go_ret2
      exact ⟨[], G, j, true, rfl, by simp, HFIN.out.1, HFIN.out.2.1, HFIN.out.2.2, HS2.out⟩
    · rw [List.concat_eq_append] at *
      simp only [List.length_append, List.length_cons, List.length_nil] at hl hja hlen hia
      have hyj : (rowP A p (L ++ [y]) [] G C)[j]? = some y := by rw [show j = A.length + (L.length + 1) by omega]; exact rowP_y
      have ky := HS.out.cell hyj
      have hne : j ≠ a := by omega
      have k2 := (HS.out.set j p).cell (i := a) (x := p) (by rw [List.getElem?_set_ne hne]; exact hpa)
      have hfin := HPT.out.fin
      have HFIN := Lib.hid hfin
      have hS2 := ((HS.out.set j p).set a y).drew
      have hset : ((rowP A p (L ++ [y]) [] G C).set j p).set a y = A ++ ((y :: L) ++ p :: G) ++ C := by
        rw [show j = A.length + (L.length + 1) by omega, haA]
        exact rowP_fin
      rw [hset] at hS2
      have HS2 := Lib.hid hS2
      have HJJ := Lib.hid (show j = a + (y :: L).length by simp; omega)
      clear hfin hS2 hset hpa hl hlen hia hja haA hyj
      go_wp2_with fail
      go_big_region
      go_wp2_with fail
      go_ret2
      exact ⟨y :: L, G, j, true, rfl, HJJ.out, HFIN.out.1, HFIN.out.2.1, HFIN.out.2.2, HS2.out⟩
  · skip
    have hl := HPT.out.len
    have hlen := HS.out.len
    rw [rowP_len] at hlen
    have hia := HI.out
    have hja := HJ.out
    have haA := HA.out
    have hSM := HM.out
    have huq := HUQ.out
    simp only [List.length_cons, List.length_append, List.length_nil] at hl hja hlen huq
    have hui : (rowP A p L (u :: (U' ++ [v])) G C)[i]? = some u := by rw [hia, haA]; exact rowP_first
    have hvj : (rowP A p L (u :: (U' ++ [v])) G C)[j]? = some v := by
      rw [show j = A.length + L.length + ((u :: U').length + 1) by simp; omega]
      exact rowP_last (U := u :: U')
    have ki := HS.out.cell hui
    have kj := HS.out.cell hvj
    have fi := HS.out.o.frozenAt i
    have fj := HS.out.o.frozenAt j
    have hne : i ≠ j := by omega
    have k2 := (HS.out.set i v).cell (i := j) (x := v) (by rw [List.getElem?_set_ne hne]; exact hvj)
    have hS2 := ((HS.out.set i v).set j u).drew
    have hset : ((rowP A p L (u :: (U' ++ [v])) G C).set i v).set j u = rowP A p (L ++ [v]) U' (u :: G) C := by
      rw [hia, haA, show j = A.length + 1 + L.length + (U'.length + 1) by omega]
      exact rowP_swap
    rw [hset] at hS2
    have HS2 := Lib.hid hS2
    have HPT2 := Lib.hid (HPT.out.swap hnu hwv)
    have hgt : ¬ (j : Int) < (i : Int) := by omega
    have hin : (i : Int) < (n : Int) := by omega
    have hjn : (j : Int) < (n : Int) := by omega
    have HI2 := Lib.hid (show i + 1 = a + 1 + (L ++ [v]).length by simp; omega)
    have HJ2 := Lib.hid (show ((j - 1 : Nat) : Int) = (j : Int) - 1 by omega)
    have HJ3 := Lib.hid (show j - 1 = a + (L ++ [v]).length + U'.length by simp; omega)
    have HU2 := Lib.hid (show U'.length + 2 ≤ q ∧ U'.length ≤ q by omega)
    have HIN := Lib.hid (show j + 1 = i + (U'.length + 2) by omega)
    clear hl hlen hia hja haA hSM huq hui hvj hS2 hset hnu hwv hne
    go_wp2_with fail
    go_big_region
    clear ki kj fi fj k2
    go_wp2_with fail
    clear hgt hin hjn
    go_loopw [12, 13] (fun u12 u13 wv => ∃ (i j : Nat) (L U G : List Nat), u12 = .int .i64 i ∧ u13 = .int .i64 j ∧ i = a + 1 + L.length ∧ (j = a + L.length + U.length ∧ U.length ≤ q) ∧ Pt D S0 p L U G ∧ SR w0 wv b D N bv n c (rowP A p L U G C)) (fun u12 u13 _ => (intOf u13 + 2 - intOf u12).toNat)
    case atStart => exact ⟨i + 1, j - 1, L ++ [v], U', u :: G, by go_num, by rw [HJ2.out], HI2.out, ⟨HJ3.out, HU2.out.2⟩, HPT2.out, HS2.out⟩
    case round =>
      clear HS2 HPT2 HI2 HJ2 HJ3 HU2 HIN HI HJ HUQ HPT HS
      obtain ⟨i, j, L, U, G, rfl, rfl, hi, hj, hpt, hS⟩ := hrel
      obtain ⟨i0, hi0⟩ : ∃ i0, i0 = i := ⟨_, rfl⟩
      obtain ⟨j0, hj0⟩ : ∃ j0, j0 = j := ⟨_, rfl⟩
      have HQ0 := Lib.hid hj.2
      have HMEA := Lib.hid (show j0 + 1 = i0 + U.length ∧ i0 = i ∧ j0 = j by rw [hi0, hj0]; omega)
      clear hi0 hj0
      obtain ⟨q2, hq2⟩ : ∃ q2, q2 = U.length := ⟨_, rfl⟩
      replace hj := And.intro hj.1 (show U.length ≤ q2 by rw [hq2]; exact Nat.le_refl _)
      rw [← hq2] at HMEA
      have HQ2 := Lib.hid (show q2 ≤ q by rw [hq2]; exact HQ0.out)
      clear hq2 HQ0
      have HI := Lib.hid hi
      obtain ⟨hj, hq⟩ := hj
      have HJ := Lib.hid hj
      have HUQ := Lib.hid hq
      clear hq
      have HPT := Lib.hid hpt
      have HS := Lib.hid hS
      have hiz : (0 : Int) ≤ (i : Int) := Int.natCast_nonneg _
      have hjz : (0 : Int) ≤ (j : Int) := Int.natCast_nonneg _
      clear hi hj hpt hS
      go_upto_block 6 with (fail)
      go_cut [12] (fun u12 wv => ∃ (i : Nat) (L U : List Nat), u12 = .int .i64 i ∧ (U = [] ∨ ∃ u U', U = u :: U' ∧ ¬ wl D u p) ∧ i = a + 1 + L.length ∧ (j = a + L.length + U.length ∧ U.length ≤ q2) ∧ Pt D S0 p L U G ∧ SR w0 wv b D N bv n c (rowP A p L U G C))
      case first => as_aux_lemma =>
        go_wp2_with fail
        go_loopw [12] (fun u12 wv => ∃ (i : Nat) (L U : List Nat), u12 = .int .i64 i ∧ i = a + 1 + L.length ∧ (j = a + L.length + U.length ∧ U.length ≤ q2) ∧ Pt D S0 p L U G ∧ SR w0 wv b D N bv n c (rowP A p L U G C)) (fun u _ => m + 1 - (intOf u).toNat)
        case atStart => exact ⟨i, L, U, rfl, HI.out, ⟨HJ.out, HUQ.out⟩, HPT.out, HS.out⟩
        case round =>
          clear HI HJ HUQ HPT HS
          obtain ⟨i, L, U, rfl, hi, hj, hpt, hS⟩ := hrel
          have HI := Lib.hid hi
          obtain ⟨hj, hq⟩ := hj
          have HJ := Lib.hid hj
          have HUQ := Lib.hid hq
          clear hq
          have HPT := Lib.hid hpt
          have HS := Lib.hid hS
          have hiz : (0 : Int) ≤ (i : Int) := Int.natCast_nonneg _
          have hjz : (0 : Int) ≤ (j : Int) := Int.natCast_nonneg _
          clear hi hj hpt hS
          have hl := HPT.out.len
          have hlen := HS.out.len
          rw [rowP_len] at hlen
          have hia := HI.out
          have hja := HJ.out
          have haA := HA.out
          have hSM := HM.out
          cases U with
          | nil =>
            simp only [List.length_nil] at hl hja
            have hd1 : decide ((i : Int) ≤ (j : Int)) = false := decide_eq_false (by omega)
            have hd2 : decide (i ≤ j) = false := decide_eq_false (by omega)
            have hd3 : ¬ (i : Int) ≤ (j : Int) := by omega
            clear hl hlen hia hja haA hSM
            go_wp2_with fail
            go_big_quiet (fail)
            go_wp2_with fail
            go_meet
            exact ⟨i, L, [], rfl, .inl rfl, HI.out, ⟨HJ.out, HUQ.out⟩, HPT.out, HS.out.below (below_draws _ _ _)⟩
          | cons u U =>
            simp only [List.length_cons] at hl hja hlen
            have hd1 : decide ((i : Int) ≤ (j : Int)) = true := decide_eq_true (by omega)
            have hd2 : decide (i ≤ j) = true := decide_eq_true (by omega)
            have hd3 : (i : Int) ≤ (j : Int) := by omega
            have hin : (i : Int) < (n : Int) := by omega
            have him : i < m := by omega
            clear hl hlen hia hja haA hSM
            have hxg : (rowP A p L (u :: U) G C)[i]? = some u := by rw [HI.out, HA.out]; exact rowP_first
            have hpg : (rowP A p L (u :: U) G C)[a]? = some p := by rw [HA.out]; exact rowP_p
            have huN := HR.out u (HPT.out.perm.mem_iff.1 (by simp))
            have hpN := HR.out p (HPT.out.perm.mem_iff.1 (by simp))
            have kx := HS.out.cell hxg
            have kp := HS.out.cell hpg
            have hor := order_calls HS.out.drew.i u p huN hpN
            have HNEG := Lib.hid (cfW_neg D u p)
            generalize cfW D u p = r at hor HNEG
            have HOR := Lib.hid hor
            have HX := Lib.hid hxg
            have HPP := Lib.hid hpg
            clear hxg hpg huN hpN hor
            by_cases hneg : r < 0
            · have hd : decide (r < 0) = true := decide_eq_true hneg
              have HLT := Lib.hid (HNEG.out.1 hneg)
              go_wp2_with fail
              go_region_held3 (fun w' => w'.cell? ⟨bv, i, none⟩ = some (.int .i64 u) ∧ w'.cell? ⟨bv, a, none⟩ = some (.int .i64 p)) (first | go_keep | exact ⟨kx, kp⟩ | exact hkk)
                ((go_at_call 28; refine HOR.out.mono ?_; rintro e w4 ⟨rfl, hb4⟩; have HS4 := Lib.hid (HS.out.drew.below hb4); have hkk := And.intro (HS4.out.cell HX.out) (HS4.out.cell HPP.out); clear hb4))
              all_goals go_wp2_with fail
              all_goals clear kx kp hkk
              all_goals go_roundw
              case rel => exact ⟨i + 1, L ++ [u], U, by go_num, by have := HI.out; simp; omega, ⟨by have := HJ.out; simp at this ⊢; omega, by have := HUQ.out; simp at this; omega⟩, HPT.out.left HLT.out, by have := HS4.out; simpa [rowP] using this⟩
              case measure => simp [intOf]; omega
            · have hd : decide (r < 0) = false := decide_eq_false hneg
              have HLT := Lib.hid (fun e => hneg (HNEG.out.2 e))
              go_wp2_with fail
              go_region_held3 (fun w' => w'.cell? ⟨bv, i, none⟩ = some (.int .i64 u) ∧ w'.cell? ⟨bv, a, none⟩ = some (.int .i64 p)) (first | go_keep | exact ⟨kx, kp⟩ | exact hkk)
                ((go_at_call 28; refine HOR.out.mono ?_; rintro e w4 ⟨rfl, hb4⟩; have HS4 := Lib.hid (HS.out.drew.below hb4); have hkk := And.intro (HS4.out.cell HX.out) (HS4.out.cell HPP.out); clear hb4))
              all_goals go_wp2_with fail
              all_goals clear kx kp hkk
              all_goals go_meet
              all_goals exact ⟨i, L, u :: U, rfl, .inr ⟨u, U, rfl, HLT.out⟩, HI.out, ⟨HJ.out, HUQ.out⟩, HPT.out, HS4.out⟩
      case rest =>
      clear HI HJ HUQ HPT HS
      obtain ⟨i, L, U, rfl, hst, hi, hj, hpt, hS⟩ := hcut
      have HST := Lib.hid hst
      clear hst
      have HI := Lib.hid hi
      obtain ⟨hj, hq⟩ := hj
      have HJ := Lib.hid hj
      have HUQ := Lib.hid hq
      clear hq
      have HPT := Lib.hid hpt
      have HS := Lib.hid hS
      have hiz : (0 : Int) ≤ (i : Int) := Int.natCast_nonneg _
      have hjz : (0 : Int) ≤ (j : Int) := Int.natCast_nonneg _
      clear hi hj hpt hS
      go_upto_block 8 with (fail)
      go_cut [13] (fun u13 wv => ∃ (j : Nat) (U G : List Nat), u13 = .int .i64 j ∧ (U = [] ∨ ∃ u U' v, U = u :: (U' ++ [v]) ∧ ¬ wl D u p ∧ wl D v p) ∧ i = a + 1 + L.length ∧ (j = a + L.length + U.length ∧ U.length ≤ q2) ∧ Pt D S0 p L U G ∧ SR w0 wv b D N bv n c (rowP A p L U G C))
      case first => as_aux_lemma =>
        go_wp2_with fail
        go_loopw [13] (fun u13 wv => ∃ (j : Nat) (U G : List Nat), u13 = .int .i64 j ∧ (U = [] ∨ ∃ u U', U = u :: U' ∧ ¬ wl D u p) ∧ i = a + 1 + L.length ∧ (j = a + L.length + U.length ∧ U.length ≤ q2) ∧ Pt D S0 p L U G ∧ SR w0 wv b D N bv n c (rowP A p L U G C)) (fun u _ => (intOf u).toNat)
        case atStart => exact ⟨j, U, G, rfl, HST.out, HI.out, ⟨HJ.out, HUQ.out⟩, HPT.out, HS.out⟩
        case round =>
          clear HI HJ HUQ HPT HS HST
          obtain ⟨j, U, G, rfl, hst, hi, hj, hpt, hS⟩ := hrel
          have HST := Lib.hid hst
          clear hst
          have HI := Lib.hid hi
          obtain ⟨hj, hq⟩ := hj
          have HJ := Lib.hid hj
          have HUQ := Lib.hid hq
          clear hq
          have HPT := Lib.hid hpt
          have HS := Lib.hid hS
          have hiz : (0 : Int) ≤ (i : Int) := Int.natCast_nonneg _
          have hjz : (0 : Int) ≤ (j : Int) := Int.natCast_nonneg _
          clear hi hj hpt hS
          have hl := HPT.out.len
          have hlen := HS.out.len
          rw [rowP_len] at hlen
          have hia := HI.out
          have hja := HJ.out
          have haA := HA.out
          have hSM := HM.out
          rcases List.eq_nil_or_concat U with rfl | ⟨U, u, rfl⟩
          · simp only [List.length_nil] at hl hja
            have hd1 : decide ((i : Int) ≤ (j : Int)) = false := decide_eq_false (by omega)
            have hd2 : decide (i ≤ j) = false := decide_eq_false (by omega)
            have hd3 : ¬ (i : Int) ≤ (j : Int) := by omega
            clear hl hlen hia hja haA hSM
            go_wp2_with fail
            go_big_quiet (fail)
            go_wp2_with fail
            go_meet
            exact ⟨j, [], G, rfl, .inl rfl, HI.out, ⟨HJ.out, HUQ.out⟩, HPT.out, HS.out.below (below_draws _ _ _)⟩
          · rw [List.concat_eq_append] at *
            simp only [List.length_append, List.length_cons, List.length_nil] at hl hja hlen
            have hd1 : decide ((i : Int) ≤ (j : Int)) = true := decide_eq_true (by omega)
            have hd2 : decide (i ≤ j) = true := decide_eq_true (by omega)
            have hd3 : (i : Int) ≤ (j : Int) := by omega
            have hin : (j : Int) < (n : Int) := by omega
            have hj1 : 1 ≤ j := by omega
            have hjs : ((j - 1 : Nat) : Int) = (j : Int) - 1 := by omega
            have HJS := Lib.hid hjs
            clear hl hlen hia hja haA hSM hjs
            have hxg : (rowP A p L (U ++ [u]) G C)[j]? = some u := by rw [HJ.out, HA.out, List.length_append]; exact rowP_last
            have hpg : (rowP A p L (U ++ [u]) G C)[a]? = some p := by rw [HA.out]; exact rowP_p
            have huN := HR.out u (HPT.out.perm.mem_iff.1 (by simp))
            have hpN := HR.out p (HPT.out.perm.mem_iff.1 (by simp))
            have kx := HS.out.cell hxg
            have kp := HS.out.cell hpg
            have hor := order_calls HS.out.drew.i u p huN hpN
            have HNEG := Lib.hid (cfW_neg D u p)
            generalize cfW D u p = r at hor HNEG
            have HOR := Lib.hid hor
            have HX := Lib.hid hxg
            have HPP := Lib.hid hpg
            clear hxg hpg huN hpN hor
            by_cases hneg : r < 0
            · have hd : decide (r < 0) = true := decide_eq_true hneg
              have HLT := Lib.hid (HNEG.out.1 hneg)
              go_wp2_with fail
              go_region_held3 (fun w' => w'.cell? ⟨bv, j, none⟩ = some (.int .i64 u) ∧ w'.cell? ⟨bv, a, none⟩ = some (.int .i64 p)) (first | go_keep | exact ⟨kx, kp⟩ | exact hkk)
                ((go_at_call 28; refine HOR.out.mono ?_; rintro e w4 ⟨rfl, hb4⟩; have HS4 := Lib.hid (HS.out.drew.below hb4); have hkk := And.intro (HS4.out.cell HX.out) (HS4.out.cell HPP.out); clear hb4))
              all_goals go_wp2_with fail
              all_goals clear kx kp hkk
              all_goals go_meet
              all_goals refine ⟨j, U ++ [u], G, rfl, ?_, HI.out, ⟨HJ.out, HUQ.out⟩, HPT.out, HS4.out⟩
              rcases HST.out with h | ⟨u', U', h, hw⟩
              · simp at h
              · cases U with
                | nil =>
                  simp only [List.nil_append, List.cons.injEq] at h
                  exact absurd (h.1 ▸ HLT.out) hw
                | cons z U =>
                  simp only [List.cons_append, List.cons.injEq] at h
                  exact .inr ⟨z, U, u, rfl, by rw [h.1]; exact hw, HLT.out⟩
            · have hd : decide (r < 0) = false := decide_eq_false hneg
              have HLT := Lib.hid (fun e => hneg (HNEG.out.2 e))
              go_wp2_with fail
              go_region_held3 (fun w' => w'.cell? ⟨bv, j, none⟩ = some (.int .i64 u) ∧ w'.cell? ⟨bv, a, none⟩ = some (.int .i64 p)) (first | go_keep | exact ⟨kx, kp⟩ | exact hkk)
                ((go_at_call 28; refine HOR.out.mono ?_; rintro e w4 ⟨rfl, hb4⟩; have HS4 := Lib.hid (HS.out.drew.below hb4); have hkk := And.intro (HS4.out.cell HX.out) (HS4.out.cell HPP.out); clear hb4))
              all_goals go_wp2_with fail
              all_goals clear kx kp hkk
              all_goals go_roundw
              case rel =>
                refine ⟨j - 1, U, u :: G, by rw [HJS.out], ?_, HI.out, ⟨by have := HJ.out; simp at this; omega, by have := HUQ.out; simp at this; omega⟩, HPT.out.right HLT.out, by have := HS4.out; simpa [rowP] using this⟩
                rcases HST.out with h | ⟨u', U', h, hw⟩
                · simp at h
                · cases U with
                  | nil => exact .inl rfl
                  | cons z U =>
                    simp only [List.cons_append, List.cons.injEq] at h
                    exact .inr ⟨z, U, rfl, by rw [h.1]; exact hw⟩
              case measure => simp [intOf]; omega
      case rest =>
      clear HI HJ HUQ HPT HS HST
      obtain ⟨j, U, G, rfl, hst, hi, hj, hpt, hS⟩ := hcut
      have HST := Lib.hid hst
      clear hst
      have HI := Lib.hid hi
      obtain ⟨hj, hq⟩ := hj
      have HJ := Lib.hid hj
      have HUQ := Lib.hid hq
      clear hq
      have HPT := Lib.hid hpt
      have HS := Lib.hid hS
      have hiz : (0 : Int) ≤ (i : Int) := Int.natCast_nonneg _
      have hjz : (0 : Int) ≤ (j : Int) := Int.natCast_nonneg _
      clear hi hj hpt hS
      rcases HST.out with rfl | ⟨u, U', v, rfl, hnu, hwv⟩
      · as_aux_lemma =>
        have hl := HPT.out.len
        have hlen := HS.out.len
        rw [rowP_len] at hlen
        have hia := HI.out
        have hja := HJ.out
        have haA := HA.out
        simp only [List.length_nil] at hl hja hlen
        have hgt : (j : Int) < (i : Int) := by omega
        have hjn : (j : Int) < (n : Int) := by omega
        have fj := HS.out.o.frozenAt j
        have fa := HS.out.o.frozenAt a
        have hpa : (rowP A p L [] G C)[a]? = some p := by rw [HA.out]; exact rowP_p
        have ka := HS.out.cell hpa
        rcases List.eq_nil_or_concat L with rfl | ⟨L, y, rfl⟩
        · simp only [List.length_nil] at hja
          obtain rfl : j = a := by omega
          have k2 := (HS.out.set j p).cell (i := j) (x := p) (by rw [List.getElem?_set_self (by rw [rowP_len]; simp only [List.length_nil]; omega)])
          have hfin := HPT.out.fin0
          have HFIN := Lib.hid hfin
          have hS2 := ((HS.out.set j p).set j p).drew
          have hset : ((rowP A p [] [] G C).set j p).set j p = A ++ ([] ++ p :: G) ++ C := by
            rw [List.set_set]
            obtain ⟨h9, e9⟩ := List.getElem?_eq_some_iff.1 hpa
            have : (rowP A p [] [] G C).set j p = rowP A p [] [] G C := by
              have h10 := List.set_getElem_self h9
              rw [e9] at h10
              exact h10
            rw [this]
            simp [rowP]
          rw [hset] at hS2
          have HS2 := Lib.hid hS2
          clear hfin hS2 hset hpa hl hlen hia hja haA
          go_wp2_with fail
          go_big_region
          go_wp2_with fail
          go_ret2
          exact ⟨[], G, j, false, rfl, by simp, HFIN.out.1, HFIN.out.2.1, HFIN.out.2.2, HS2.out⟩
        · rw [List.concat_eq_append] at *
          simp only [List.length_append, List.length_cons, List.length_nil] at hl hja hlen hia
          have hyj : (rowP A p (L ++ [y]) [] G C)[j]? = some y := by rw [show j = A.length + (L.length + 1) by omega]; exact rowP_y
          have ky := HS.out.cell hyj
          have hne : j ≠ a := by omega
          have k2 := (HS.out.set j p).cell (i := a) (x := p) (by rw [List.getElem?_set_ne hne]; exact hpa)
          have hfin := HPT.out.fin
          have HFIN := Lib.hid hfin
          have hS2 := ((HS.out.set j p).set a y).drew
          have hset : ((rowP A p (L ++ [y]) [] G C).set j p).set a y = A ++ ((y :: L) ++ p :: G) ++ C := by
            rw [show j = A.length + (L.length + 1) by omega, haA]
            exact rowP_fin
          rw [hset] at hS2
          have HS2 := Lib.hid hS2
          have HJJ := Lib.hid (show j = a + (y :: L).length by simp; omega)
          clear hfin hS2 hset hpa hl hlen hia hja haA hyj
          go_wp2_with fail
          go_big_region
          go_wp2_with fail
          go_ret2
          exact ⟨y :: L, G, j, false, rfl, HJJ.out, HFIN.out.1, HFIN.out.2.1, HFIN.out.2.2, HS2.out⟩
      · skip
        have hl := HPT.out.len
        have hlen := HS.out.len
        rw [rowP_len] at hlen
        have hia := HI.out
        have hja := HJ.out
        have haA := HA.out
        have hSM := HM.out
        have huq := HUQ.out
        simp only [List.length_cons, List.length_append, List.length_nil] at hl hja hlen huq
        have hui : (rowP A p L (u :: (U' ++ [v])) G C)[i]? = some u := by rw [hia, haA]; exact rowP_first
        have hvj : (rowP A p L (u :: (U' ++ [v])) G C)[j]? = some v := by
          rw [show j = A.length + L.length + ((u :: U').length + 1) by simp; omega]
          exact rowP_last (U := u :: U')
        have ki := HS.out.cell hui
        have kj := HS.out.cell hvj
        have fi := HS.out.o.frozenAt i
        have fj := HS.out.o.frozenAt j
        have hne : i ≠ j := by omega
        have k2 := (HS.out.set i v).cell (i := j) (x := v) (by rw [List.getElem?_set_ne hne]; exact hvj)
        have hS2 := ((HS.out.set i v).set j u).drew
        have hset : ((rowP A p L (u :: (U' ++ [v])) G C).set i v).set j u = rowP A p (L ++ [v]) U' (u :: G) C := by
          rw [hia, haA, show j = A.length + 1 + L.length + (U'.length + 1) by omega]
          exact rowP_swap
        rw [hset] at hS2
        have HS2 := Lib.hid hS2
        have HPT2 := Lib.hid (HPT.out.swap hnu hwv)
        have hgt : ¬ (j : Int) < (i : Int) := by omega
        have hin : (i : Int) < (n : Int) := by omega
        have hjn : (j : Int) < (n : Int) := by omega
        have HI2 := Lib.hid (show i + 1 = a + 1 + (L ++ [v]).length by simp; omega)
        have HJ2 := Lib.hid (show ((j - 1 : Nat) : Int) = (j : Int) - 1 by omega)
        have HJ3 := Lib.hid (show j - 1 = a + (L ++ [v]).length + U'.length by simp; omega)
        have HU2 := Lib.hid (show U'.length + 2 ≤ q2 ∧ U'.length ≤ q2 by omega)
        have HIN := Lib.hid (show j + 1 = i + (U'.length + 2) by omega)
        clear hl hlen hia hja haA hSM huq hui hvj hS2 hset hnu hwv hne
        go_wp2_with fail
        go_big_region
        clear ki kj fi fj k2
        go_wp2_with fail
        go_roundw
        case rel => exact ⟨i + 1, j - 1, L ++ [v], U', u :: G, by go_num, by rw [HJ2.out], HI2.out, ⟨HJ3.out, Nat.le_trans HU2.out.2 HQ2.out⟩, HPT2.out, HS2.out⟩
        case measure =>
          have m1 := HMEA.out
          have m2 := HIN.out
          have m3 := HU2.out
          have m4 := HJ2.out
          simp [intOf]
          omega
end
end Go.Proofs.Ytajhfjgndkdbnaa
