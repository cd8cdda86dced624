/- The walk of the statement WheelOrder: it returns true. Conditions: the slice can be read as data, the number fits its kind. -/
import Derived.Test.YtajhfjgndkdbnaaWheelOne
import Derived.Test.YtajhfjgndkdbnaaBig6
import Derived.Test.YtajhfjgndkdbnaaWheel9
import Derived.Test.YtajhfjgndkdbnaaView2
namespace Go.Proofs.Ytajhfjgndkdbnaa
open Go.RowKit BigFrame

theorem reads_kind {κ : IntKind} {w : World} {v : Value} {n : Nat} {l : List Int} (h : Reads w 1 v n (l.map (Value.int κ))) : n = l.length ∧ ∃ a cap, v = .slice a n cap ∧ n ≤ cap ∧ cap ≤ maxLen ∧ (0 < n → ∃ b o, a = some ⟨b, o, none⟩ ∧ b < w.heap.size ∧ ∀ (i : Nat) (x : Int), l[i]? = some x → w.cell? ⟨b, o + i, none⟩ = some (.int κ x)) := by
  have hlt := h.lt
  obtain ⟨h1, a, cap, rfl, h2, h3, h4⟩ := h
  rw [List.length_map, Nat.mul_one] at h1
  refine ⟨h1.symm, a, cap, rfl, h2, h3, fun hn => ?_⟩
  obtain ⟨b, o, e, hc⟩ := h4 hn
  refine ⟨b, o, e, hlt hn (by omega) b (by rw [e]; rfl), fun i x hx => hc i _ (by simp [hx])⟩
theorem byte_in {l : List Int} (h : ∀ x ∈ l, (Lit.int .u8 x).wf = true) {i : Nat} {x : Int} (hx : l[i]? = some x) : 0 ≤ x ∧ x ≤ 255 := by
  have := bounds_u8 (h x (List.mem_of_getElem? hx))
  exact this
theorem held_small {t : Int} (h0 : 0 ≤ t) (h1 : t ≤ 4611686018427387904) : heldT t = t := by unfold heldT; omega
theorem below_cell {B : Nat} {w w' : World} (h : Below B w w') {b o : Nat} (hb : b < B) {v : Value} (hc : w.cell? ⟨b, o, none⟩ = some v) : w'.cell? ⟨b, o, none⟩ = some v := (h.cell (p := ⟨b, o, none⟩) hb).trans hc
set_option maxRecDepth 100000 in
set_option maxHeartbeats 16000000 in
theorem wheelOrder_walk (w : World) (va : Value) (na : Nat) (xs : List Int) (_ : xs.length = na) (ra : Reads w 1 va na (xs.map (Value.int .u8))) (ba : ∀ x ∈ xs, (Lit.int .u8 x).wf = true) (_ : na * Try.prog.bytesOf 5 ≤ 140737488351232) (q : Int) (q0 : 0 ≤ q) (q1 : q ≤ 255) :
    Calls Try.prog 3 #[va, .int .u8 q] w fun e w' => e = .returned (.bool true) ∧ Below w.heap.size w w' := by
  obtain ⟨ha, aa, ca, rfl, ha1, ha2, ha3⟩ := reads_kind ra
  unfold maxLen at ha2
  have HA := Lib.hid ha
  have HA3 := Lib.hid ha3
  have HBA := Lib.hid (fun i x h => byte_in ba (i := i) (x := x) h)
  obtain ⟨T, hT⟩ : ∃ T : Nat → Int, ∀ (i : Nat) (x : Int), xs[i]? = some x → T i = x % 8 := ⟨fun i => xs.getD i 0 % 8, fun i x h => by simp [List.getD_eq_getElem?_getD, h]⟩
  have HT := Lib.hid hT
  clear ha ha3 ra ba hT
  go_enter Try.func3, Try.ntmps3
  go_wp2_with fail
  refine (wnew_any 16 _ (by omega) (by omega) (N := 16) (by decide)).mono ?_
  rintro e w1 ⟨b, rfl, h, hF⟩
  have HF := Lib.hid hF
  have H1 := Lib.hid h
  clear h hF
  go_upto_block 0 with (fail)
  go_cut [6] (fun _ wc => ∃ (k : Nat) (M : List (Int × Nat)), k ≤ na ∧ k ≤ 16 ∧ MS T k (-1) M ∧ Wm w wc b 16 M k)
  case first => as_aux_lemma =>
    go_wp2_with fail
    go_loopw [6] (fun u wr => ∃ (i : Nat) (M : List (Int × Nat)), u = .int .i64 i ∧ i ≤ na ∧ i ≤ 16 ∧ MS T i (-1) M ∧ Wm w wr b 16 M i) (fun u _ => na - (intOf u).toNat)
    case atStart => exact ⟨0, [], rfl, Nat.zero_le _, by omega, MS.start _ _, H1.out⟩
    case round =>
      clear H1
      obtain ⟨i, M, rfl, hin, hi16, hM, hW⟩ := hrel
      have iz : (0 : Int) ≤ (i : Int) := Int.natCast_nonneg _
      have HM := Lib.hid hM
      have HW := Lib.hid hW
      clear hM hW
      by_cases hc1 : i < na
      · have hc1' : (i : Int) < (na : Int) := by omega
        by_cases hc2 : i < 16
        · have hc2' : (i : Int) < 16 := by omega
          obtain ⟨bA, oA, rfl, hbA, hcA⟩ := HA3.out (by omega)
          obtain ⟨x, hx⟩ : ∃ x, xs[i]? = some x := ⟨_, List.getElem?_eq_getElem (by rw [← HA.out]; exact hc1)⟩
          have hxr := HBA.out i x hx
          have cx := below_cell HW.out.2 hbA (hcA i x hx)
          obtain ⟨p, hp⟩ : ∃ p : Nat, (p : Int) = x % 8 := ⟨(x % 8).toNat, by omega⟩
          have hp8 : p < 8 := by omega
          have hp2 : x % 8 = (p : Int) := hp.symm
          have HTI := Lib.hid (show T i = (p : Int) by rw [HT.out i x hx, hp2])
          have hM2 := HM.out.set (by rw [HTI.out]; omega)
          rw [HTI.out] at hM2
          have HM2 := Lib.hid hM2
          have HSET := Lib.hid (HW.out.set HF.out i hc2 (p : Int) (by omega) (by omega) (M' := insM M p i) (by rw [held_small (by omega) (by omega)]))
          clear hx hcA hp hM2
          go_wp2_with fail
          refine HSET.out.mono ?_
          rintro e w2 ⟨rfl, h2, -⟩
          have H2 := Lib.hid h2
          clear h2 cx
          go_wp2_with fail
          go_roundw
          case rel => exact ⟨i + 1, _, by go_num, by omega, by omega, HM2.out, H2.out⟩
          case measure => simp [intOf]; omega
        · have hc2' : ¬ (i : Int) < 16 := by omega
          go_wp2_with fail
          go_meet
          exact ⟨i, M, hin, hi16, HM.out, HW.out⟩
      · have hc1' : ¬ (i : Int) < (na : Int) := by omega
        go_wp2_with fail
        go_meet
        exact ⟨i, M, hin, hi16, HM.out, HW.out⟩
  case rest =>
  clear H1
  obtain ⟨K, M, hK, hK16, hM, hW⟩ := hcut
  have HM := Lib.hid hM
  have HW := Lib.hid hW
  obtain ⟨z, hz⟩ : ∃ z : Nat, (z : Int) = q % 10 := ⟨(q % 10).toNat, by omega⟩
  have hz10 : z < 10 := by omega
  have hz2 : q % 10 = (z : Int) := hz.symm
  have hdl := hM.due_len z
  have HD := Lib.hid (hM.due_ord z)
  have HDM := Lib.hid (hM.due_mem z)
  have HM2 := Lib.hid (hM.rest (t := z) (by omega))
  have HDUE := Lib.hid (HW.out.due HF.out (sorts_all b 16) (z : Int) (by omega) (l := asInts (dueM M z)) (M' := restM M z) (by rw [held_small (by omega) (by omega)]) (by rw [held_small (by omega) (by omega)]))
  generalize dueM M z = D at HDUE HD HDM hdl
  clear hz hM hW
  go_wp2_with fail
  refine HDUE.out.mono ?_
  rintro e w2 ⟨v, rfl, hv, h2, -⟩
  obtain ⟨⟨hvl, av, cv, rfl, hv1, hv2, hv3⟩, hv4⟩ := hv
  have HVL := Lib.hid (show (asInts D).length = D.length by simp [asInts])
  obtain ⟨nl, hnl⟩ : ∃ nl, nl = (asInts D).length := ⟨_, rfl⟩
  rw [← hnl] at hv1 hv3 ⊢
  have HNL := Lib.hid (show nl = D.length by rw [hnl]; exact HVL.out)
  have hnl16 : nl ≤ 16 := by rw [HNL.out]; omega
  have HV3 := Lib.hid (fun h : 0 < nl => show ∃ bv o, av = some ⟨bv, o, none⟩ ∧ bv < w2.heap.size ∧ ∀ (i d : Nat), D[i]? = some d → w2.cell? ⟨bv, o + i, none⟩ = some (.int .i64 d) from by
    obtain ⟨bv, o, e, hc⟩ := hv3 h
    refine ⟨bv, o, e, (hv4 bv (by rw [e]; rfl) (fun e0 => by rw [e0] at hnl; simp at hnl; omega)).1, fun i d hd => hc i _ (by simp [ints, asInts, hd])⟩)
  have H2 := Lib.hid h2
  unfold maxLen at hv2
  clear hvl hv3 hv4 hnl h2 hdl HDUE HW HM
  go_upto_block 2 with (fail)
  go_cut [8, 9, 10] (fun _ _ _ wc => Below w2.heap.size w2 wc)
  case first => as_aux_lemma =>
    go_wp2_with fail
    go_loopw [8] (fun u wr => ∃ (k : Nat), u = .int .i64 k ∧ k ≤ nl ∧ Below w2.heap.size w2 wr) (fun u _ => nl - (intOf u).toNat)
    case atStart => exact ⟨0, rfl, Nat.zero_le _, Below.refl _ _⟩
    case round =>
      obtain ⟨k, rfl, hk, hB⟩ := hrel
      have HB := Lib.hid hB
      have kz : (0 : Int) ≤ (k : Int) := Int.natCast_nonneg _
      clear hB
      by_cases hkn : k < nl
      · have hkn' : (k : Int) < (nl : Int) := by omega
        obtain ⟨bv, ov, rfl, hbv, hcv⟩ := HV3.out (by omega)
        obtain ⟨d, hd⟩ : ∃ d, D[k]? = some d := ⟨_, List.getElem?_eq_getElem (by rw [← HNL.out]; exact hkn)⟩
        have hdm := (HDM.out d).1 (List.mem_of_getElem? hd)
        have cd := below_cell HB.out hbv (hcv k d hd)
        have dz : (0 : Int) ≤ (d : Int) := Int.natCast_nonneg _
        have dn : (d : Int) < (na : Int) := by omega
        by_cases hk0 : k = 0
        · have hk0' : ¬ (0 : Int) < (k : Int) := by omega
          have hk0d : decide ((0 : Int) < (k : Int)) = false := decide_eq_false hk0'
          have hk0e : decide (0 < k) = false := decide_eq_false (by omega)
          clear hdm hd hcv hk0
          go_wp2_with fail
          go_roundw
          case rel => exact ⟨k + 1, by go_num, by omega, HB.out⟩
          case measure => simp [intOf]; omega
        · obtain ⟨kp, rfl⟩ : ∃ kp, k = kp + 1 := ⟨k - 1, by omega⟩
          have kpz : (0 : Int) ≤ (kp : Int) := Int.natCast_nonneg _
          obtain ⟨e, he⟩ : ∃ e, D[kp]? = some e := ⟨_, List.getElem?_eq_getElem (by rw [← HNL.out]; omega)⟩
          have hem := (HDM.out e).1 (List.mem_of_getElem? he)
          have ce := below_cell HB.out hbv (hcv kp e he)
          have ez : (0 : Int) ≤ (e : Int) := Int.natCast_nonneg _
          have en : (e : Int) < (na : Int) := by omega
          have hord : T e < T d ∨ (T e = T d ∧ e < d) := by
            obtain ⟨i1, rfl⟩ := List.getElem?_eq_some_iff.1 he
            obtain ⟨i2, rfl⟩ := List.getElem?_eq_some_iff.1 hd
            exact (List.pairwise_iff_getElem.1 HD.out) kp (kp + 1) i1 i2 (by omega)
          obtain ⟨bA, oA, rfl, hbA, hcA⟩ := HA3.out (by omega)
          obtain ⟨xe, hxe⟩ : ∃ x, xs[e]? = some x := ⟨_, List.getElem?_eq_getElem (by rw [← HA.out]; omega)⟩
          obtain ⟨xd, hxd⟩ : ∃ x, xs[d]? = some x := ⟨_, List.getElem?_eq_getElem (by rw [← HA.out]; omega)⟩
          have hre := HBA.out e xe hxe
          have hrd := HBA.out d xd hxd
          have cxe := below_cell HB.out (Nat.lt_of_lt_of_le hbA H2.out.2.size) (below_cell H2.out.2 hbA (hcA e xe hxe))
          have cxd := below_cell HB.out (Nat.lt_of_lt_of_le hbA H2.out.2.size) (below_cell H2.out.2 hbA (hcA d xd hxd))
          rw [HT.out e xe hxe, HT.out d xd hxd] at hord
          obtain ⟨te, hte⟩ : ∃ t : Nat, (t : Int) = xe % 8 := ⟨(xe % 8).toNat, by omega⟩
          obtain ⟨td, htd⟩ : ∃ t : Nat, (t : Int) = xd % 8 := ⟨(xd % 8).toNat, by omega⟩
          rw [← hte, ← htd] at hord
          have hte2 : xe % 8 = (te : Int) := hte.symm
          have htd2 : xd % 8 = (td : Int) := htd.symm
          have htd8 : td < 8 := by omega
          have hte8 : te < 8 := by omega
          have h0k : (0 : Int) < (kp : Int) + 1 := by omega
          have hkp : (kp : Int) < (nl : Int) := by omega
          clear hte htd hxe hxd hcA hcv he hd hem hdm
          by_cases hlt : (te : Int) < (td : Int)
          · have n1 : ¬ (td : Int) < (te : Int) := by omega
            have n2 : ((te : Int) == (td : Int)) = false := by simp; omega
            have n3 : (te == td) = false := by simp; omega
            have d1 : decide ((td : Int) < (te : Int)) = false := decide_eq_false n1
            have d2 : decide (td < te) = false := decide_eq_false (by omega)
            clear hord
            go_wp2_with fail
            go_big_region
            go_wp2_with fail
            go_big_region
            go_wp2_with fail
            go_roundw
            case rel => exact ⟨kp + 1 + 1, by go_num, by omega, by first | exact HB.out.trans (below_draws _ _ _) | exact (HB.out.trans (below_draws _ _ 1)).trans (below_draws _ _ 1)⟩
            case measure => simp [intOf]; omega
          · obtain ⟨h1, h2⟩ : (te : Int) = td ∧ e < d := by omega
            obtain rfl : te = td := by omega
            have n1 : ¬ (te : Int) < (te : Int) := by omega
            have n4 : ¬ (d : Int) ≤ (e : Int) := by omega
            have d1 : decide ((d : Int) ≤ (e : Int)) = false := decide_eq_false n4
            have d2 : decide (d ≤ e) = false := decide_eq_false (by omega)
            clear hord h1
            go_wp2_with fail
            go_big_region
            go_wp2_with fail
            go_big_region
            go_wp2_with fail
            go_roundw
            case rel => exact ⟨kp + 1 + 1, by go_num, by omega, by first | exact HB.out.trans (below_draws _ _ _) | exact (HB.out.trans (below_draws _ _ 1)).trans (below_draws _ _ 1)⟩
            case measure => simp [intOf]; omega
      · have hkn' : ¬ (k : Int) < (nl : Int) := by omega
        go_wp2_with fail
        go_meet
        exact HB.out
  case rest =>
  have H3 := Lib.hid (H2.out.plus hcut)
  clear hcut
  have HNX := Lib.hid (H3.out.next (a := (nextM (restM M z)).1) (ok := (nextM (restM M z)).2) rfl)
  have hnx := HM2.out.next
  generalize (nextM (restM M z)).1 = nx at HNX hnx
  generalize (nextM (restM M z)).2 = ok at HNX hnx
  cases ok with
  | true =>
    have hnz : (z : Int) < nx := hnx rfl
    clear hnx
    go_wp2_with fail
    refine HNX.out.mono ?_
    rintro e w4 ⟨rfl, h4, -⟩
    have H4 := Lib.hid h4
    clear h4
    go_wp2_with fail
    refine (awake8_calls _).mono ?_
    rintro e w5 ⟨rfl, hb⟩
    have H5 := Lib.hid (H4.out.plus hb)
    clear hb
    go_wp2_with fail
    go_ret
    exact ⟨rfl, H5.out.2⟩
  | false =>
    clear hnx
    go_wp2_with fail
    refine HNX.out.mono ?_
    rintro e w4 ⟨rfl, h4, -⟩
    have H4 := Lib.hid h4
    clear h4
    go_wp2_with fail
    refine (awake8_calls _).mono ?_
    rintro e w5 ⟨rfl, hb⟩
    have H5 := Lib.hid (H4.out.plus hb)
    clear hb
    go_wp2_with fail
    go_ret
    exact ⟨rfl, H5.out.2⟩
end Go.Proofs.Ytajhfjgndkdbnaa
