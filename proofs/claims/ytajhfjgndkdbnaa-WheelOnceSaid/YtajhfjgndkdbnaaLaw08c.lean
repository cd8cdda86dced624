/- The walk of the statement WheelOnce: it returns true. Conditions: both slices can be read as data. -/
import Derived.Test.YtajhfjgndkdbnaaOnce16
namespace Go.Proofs.Ytajhfjgndkdbnaa
open Go.RowKit BigFrame

theorem word_in {l : List Int} (h : ∀ x ∈ l, (Lit.int .u16 x).wf = true) {i : Nat} {x : Int} (hx : l[i]? = some x) : 0 ≤ x ∧ x ≤ 65535 := by
  have := bounds_u16 (h x (List.mem_of_getElem? hx))
  exact this
/-- Those that were met: once each, just those that are due by now. -/
def Mt (T : Nat → Int) (K : Nat) (low : Int) (P : List Nat) : Prop := P.Nodup ∧ ∀ j, j ∈ P ↔ j < K ∧ T j ≤ low
theorem Mt.more {T : Nat → Int} {K : Nat} {low t : Int} {P D : List Nat} (h : Mt T K low P) (ht : low ≤ t) (hD : D.Nodup) (hm : ∀ i, i ∈ D ↔ i < K ∧ low < T i ∧ T i ≤ t) : Mt T K t (P ++ D) := by
  refine ⟨List.nodup_append.2 ⟨h.1, hD, fun x hx y hy e => ?_⟩, fun j => ?_⟩
  · subst e
    have h1 := (h.2 x).1 hx
    have h2 := (hm x).1 hy
    omega
  · rw [List.mem_append, h.2 j, hm j]
    constructor
    · rintro (⟨h1, h2⟩ | ⟨h1, h2, h3⟩)
      · exact ⟨h1, by omega⟩
      · exact ⟨h1, h3⟩
    · rintro ⟨h1, h2⟩
      by_cases hc : T j ≤ low
      · exact .inl ⟨h1, hc⟩
      · exact .inr ⟨h1, by omega, h2⟩
theorem Mt.len {T : Nat → Int} {K : Nat} {low : Int} {P : List Nat} (h : Mt T K low P) : P.length ≤ K := short_nodup K P h.1 (fun x hx => ((h.2 x).1 hx).1)
theorem Mt.count {T : Nat → Int} {K : Nat} {low : Int} {P : List Nat} (h : Mt T K low P) {i : Nat} (hi : i < K) : P.count i = if T i ≤ low then 1 else 0 := by
  by_cases hc : T i ≤ low
  · rw [if_pos hc]
    have h1 := List.nodup_iff_count.1 h.1 i
    have h2 := List.count_pos_iff.2 ((h.2 i).2 ⟨hi, hc⟩)
    omega
  · rw [if_neg hc]
    exact List.count_eq_zero.2 (fun hm => hc ((h.2 i).1 hm).2)
set_option maxRecDepth 100000 in
set_option maxHeartbeats 16000000 in
theorem wheelOnce_walk (w : World) (va : Value) (na : Nat) (xs : List Int) (_ : xs.length = na) (ra : Reads w 1 va na (xs.map (Value.int .u16))) (ba : ∀ x ∈ xs, (Lit.int .u16 x).wf = true) (_ : na * Try.prog.bytesOf 49 ≤ 140737488351232)
    (vb : Value) (nb : Nat) (ys : List Int) (_ : ys.length = nb) (rb : Reads w 1 vb nb (ys.map (Value.int .u8))) (bb : ∀ x ∈ ys, (Lit.int .u8 x).wf = true) (_ : nb * Try.prog.bytesOf 5 ≤ 140737488351232) :
    Calls Try.prog 6 #[va, vb] w fun e w' => e = .returned (.bool true) ∧ Below w.heap.size w w' := by
  obtain ⟨ha, aa, ca, rfl, ha1, ha2, ha3⟩ := reads_kind ra
  obtain ⟨hb, ab, cb, rfl, hb1, hb2, hb3⟩ := reads_kind rb
  unfold maxLen at ha2 hb2
  obtain ⟨i0, hi, hz0, hz1, hz2⟩ := info_parts Try.info_int
  have HI0 := Lib.hid hi
  have HA := Lib.hid ha
  have HB := Lib.hid hb
  have HA3 := Lib.hid ha3
  have HB3 := Lib.hid hb3
  have HBA := Lib.hid (fun i x h => word_in ba (i := i) (x := x) h)
  have HBB := Lib.hid (fun i x h => byte_in bb (i := i) (x := x) h)
  obtain ⟨T, hT⟩ : ∃ T : Nat → Int, ∀ (i : Nat) (x : Int), xs[i]? = some x → T i = x % 300 := ⟨fun i => xs.getD i 0 % 300, fun i x h => by simp [List.getD_eq_getElem?_getD, h]⟩
  have HT := Lib.hid hT
  clear hi ha hb ha3 hb3 ra rb ba bb hT
  go_enter Try.func6, Try.ntmps6
  go_wp2_with fail
  refine (wnew_any 16 _ (by omega) (by omega) (N := 16) (by decide)).mono ?_
  rintro e w1 ⟨b, rfl, h, hF⟩
  have HF := Lib.hid hF
  have H1 := Lib.hid h
  clear h hF
  go_upto_block 0 with (fail)
  go_cut [6] (fun _ wc => ∃ (k : Nat) (M : List (Int × Nat)), (k = na ∨ k = 16) ∧ k ≤ na ∧ k ≤ 16 ∧ MS T k (-1) M ∧ Wm w wc b 16 M k)
  case first => as_aux_lemma =>
    go_wp2_with fail
    go_loopw [6] (fun u wr => ∃ (i : Nat) (M : List (Int × Nat)), u = .int .i64 i ∧ i ≤ na ∧ i ≤ 16 ∧ MS T i (-1) M ∧ Wm w wr b 16 M i) (fun u _ => na - (intOf u).toNat)
    case atStart => exact ⟨0, [], rfl, Nat.zero_le _, by omega, MS.start _ _, H1.out⟩
    case round =>
      clear H1
      obtain ⟨i, M, rfl, hin, hi16, hM, hW⟩ := hrel
      have iz : (0 : Int) ≤ (i : Int) := Int.natCast_nonneg _
      have HM := Lib.hid hM
      have HW := Lib.hid hW
      clear hM hW
      by_cases hc1 : i < na
      · have hc1' : (i : Int) < (na : Int) := by omega
        by_cases hc2 : i < 16
        · have hc2' : (i : Int) < 16 := by omega
          obtain ⟨bA, oA, rfl, hbA, hcA⟩ := HA3.out (by omega)
          obtain ⟨x, hx⟩ : ∃ x, xs[i]? = some x := ⟨_, List.getElem?_eq_getElem (by rw [← HA.out]; exact hc1)⟩
          have hxr := HBA.out i x hx
          have cx := below_cell HW.out.2 hbA (hcA i x hx)
          obtain ⟨p, hp⟩ : ∃ p : Nat, (p : Int) = x % 300 := ⟨(x % 300).toNat, by omega⟩
          have hp8 : p < 300 := by omega
          have hp2 : x % 300 = (p : Int) := hp.symm
          have HTI := Lib.hid (show T i = (p : Int) by rw [HT.out i x hx, hp2])
          have hM2 := HM.out.set (by rw [HTI.out]; omega)
          rw [HTI.out] at hM2
          have HM2 := Lib.hid hM2
          have HSET := Lib.hid (HW.out.set HF.out i hc2 (p : Int) (by omega) (by omega) (M' := insM M p i) (by rw [held_small (by omega) (by omega)]))
          clear hx hcA hp hM2
          go_wp2_with fail
          refine HSET.out.mono ?_
          rintro e w2 ⟨rfl, h2, -⟩
          have H2 := Lib.hid h2
          clear h2 cx
          go_wp2_with fail
          go_roundw
          case rel => exact ⟨i + 1, _, by go_num, by omega, by omega, HM2.out, H2.out⟩
          case measure => simp [intOf]; omega
        · have hc2' : ¬ (i : Int) < 16 := by omega
          go_wp2_with fail
          go_meet
          exact ⟨i, M, .inr (by omega), hin, hi16, HM.out, HW.out⟩
      · have hc1' : ¬ (i : Int) < (na : Int) := by omega
        go_wp2_with fail
        go_meet
        exact ⟨i, M, .inl (by omega), hin, hi16, HM.out, HW.out⟩
  case rest =>
  clear H1
  obtain ⟨K, M, hKe, hK, hK16, hM, hW⟩ := hcut
  have hbs := hW.2.size
  have hfr := hW.1.lt
  have HFR := Lib.hid hfr
  have HMW := Lib.hid (And.intro hM hW)
  have HKE := Lib.hid hKe
  clear hM hW hKe hfr
  go_wp2_with (refine wpList_make_full _ rfl _ _ 26 rfl w.heap.size 3 i0 (.int .i64 0) 1 Try.underlying26 HI0.out hz0 hz1 .i64 .i64 16 16 16 rfl rfl rfl rfl (by rw [hz2]; omega) (by unfold maxLen; omega) hbs ?_)
  intro w2 hown hgr
  have hFO : FO w w2 b wc.heap.size K T (-1) [] := by
    refine ⟨⟨M, HMW.out.1, ?_, ?_⟩, ?_, fun k hk e => by have := HFR.out k hk; omega⟩
    · obtain ⟨D, g1, g2⟩ := HMW.out.2.1
      exact ⟨D, g1.frame (fun k hk => hgr.block k (HFR.out k hk) (by simp)), g2⟩
    · exact HMW.out.2.2.grown hgr HMW.out.2.2.size (fun _ h => by cases h)
    · rw [cnt16_nil]
      have h : ints (List.replicate 16 0) = (madeCells #[Value.int .i64 0] 16).toList := by rw [toList_madeCells_one, ints, List.map_replicate]
      rw [h]
      exact hown
  have HFO := Lib.hid hFO
  have HMT := Lib.hid (show Mt T K (-1) [] from ⟨List.nodup_nil, fun j => by
    constructor
    · intro h
      cases h
    · rintro ⟨h1, h2⟩
      exfalso
      obtain ⟨x, hx⟩ : ∃ x, xs[j]? = some x := ⟨_, List.getElem?_eq_getElem (by have := HA.out; omega)⟩
      have h3 := HT.out j x hx
      have := HBA.out j x hx
      omega⟩)
  obtain ⟨bm, hbm⟩ : ∃ bm, bm = wc.heap.size := ⟨_, rfl⟩
  rw [← hbm] at HFO ⊢
  clear hown hgr hFO hbs HFR HMW hbm
  go_upto_block 2 with (fail)
  go_cut [8] (fun u8 wc => ∃ (now : Nat) (low : Int) (P : List Nat), u8 = .int .i64 now ∧ now ≤ 1600 ∧ ((nb = 0 ∧ low = -1) ∨ (0 < nb ∧ low = (now : Int))) ∧ Mt T K low P ∧ FO w wc b bm K T low P)
  case first => as_aux_lemma =>
    go_wp2_with fail
    go_loopw [8, 9] (fun u8 u9 wr => ∃ (i now : Nat) (low : Int) (P : List Nat), u8 = .int .i64 now ∧ u9 = .int .i64 i ∧ i ≤ nb ∧ i ≤ 40 ∧ now ≤ 40 * i ∧ ((i = 0 ∧ low = -1 ∧ now = 0) ∨ (0 < i ∧ low = (now : Int))) ∧ Mt T K low P ∧ FO w wr b bm K T low P) (fun _ u _ => nb - (intOf u).toNat)
    case atStart => exact ⟨0, 0, -1, [], rfl, rfl, Nat.zero_le _, by omega, by omega, .inl ⟨rfl, rfl, rfl⟩, HMT.out, HFO.out⟩
    case round =>
      clear HFO HMT
      obtain ⟨i, now, low, P, rfl, rfl, hin, hi40, hnow, hlow, hmt, hfo⟩ := hrel
      have iz : (0 : Int) ≤ (i : Int) := Int.natCast_nonneg _
      have nz : (0 : Int) ≤ (now : Int) := Int.natCast_nonneg _
      have HFO := Lib.hid hfo
      have HMT := Lib.hid hmt
      have HLOW := Lib.hid hlow
      clear hfo hmt hlow
      by_cases hc1 : i < nb
      · have hc1' : (i : Int) < (nb : Int) := by omega
        by_cases hc2 : i < 40
        · have hc2' : (i : Int) < 40 := by omega
          obtain ⟨bB, oB, rfl, hbB, hcB⟩ := HB3.out (by omega)
          obtain ⟨y, hy⟩ : ∃ y, ys[i]? = some y := ⟨_, List.getElem?_eq_getElem (by rw [← HB.out]; exact hc1)⟩
          have hyr := HBB.out i y hy
          have cy := below_cell HFO.out.base hbB (hcB i y hy)
          obtain ⟨s, hs⟩ : ∃ s : Nat, (s : Int) = y % 40 := ⟨(y % 40).toNat, by omega⟩
          have hs40 : s < 40 := by omega
          have hs2 : y % 40 = (s : Int) := hs.symm
          have hlo : low ≤ (now : Int) := by have := HLOW.out; omega
          have hdue := HFO.out.due HF.out (now + s) (by omega) (by omega)
          rw [Int.natCast_add] at hdue
          have HDUE := Lib.hid hdue
          have hsz : (0 : Int) ≤ (s : Int) := Int.natCast_nonneg _
          have hn1600 : (now : Int) ≤ 1600 := by omega
          have HLO := Lib.hid hlo
          clear hy hcB hs hdue HFO hlo
          go_wp2_with fail
          refine HDUE.out.mono ?_
          rintro e w3 ⟨v, D, rfl, hrd, hvb, hnd, hmem, hfo⟩
          obtain ⟨hvl, av, cv, rfl, hv1, hv2, hv3⟩ := hrd
          have HRD := Lib.hid (show Reads w3 1 (.slice av D.length cv) D.length (ints (asInts D)) from ⟨hvl, av, cv, rfl, hv1, hv2, hv3⟩)
          have HFO := Lib.hid hfo
          have HVB := Lib.hid hvb
          have HMEM := Lib.hid hmem
          have HMT2 := Lib.hid (HMT.out.more (t := (now : Int) + (s : Int)) (by have := HLO.out; omega) hnd hmem)
          obtain ⟨nl, hnl⟩ : ∃ nl, nl = D.length := ⟨_, rfl⟩
          have hD16 : D.length ≤ 16 := Nat.le_trans (short_nodup K D hnd (fun x hx => ((hmem x).1 hx).1)) hK16
          have HPL := Lib.hid HMT.out.len
          rw [← hnl] at HRD hv1 hD16 ⊢
          have HNL := Lib.hid hnl
          unfold maxLen at hv2
          clear hvl hv3 hfo hvb hmem hnd hnl HDUE HMT cy
          go_wp2_with fail
          go_loopw [12] (fun u12 wr => ∃ k : Nat, u12 = .int .i64 k ∧ k ≤ nl ∧ FO w wr b bm K T ((now : Int) + (s : Int)) (P ++ D.take k) ∧ Reads wr 1 (.slice av nl cv) nl (ints (asInts D))) (fun u _ => nl - (intOf u).toNat)
          case atStart => exact ⟨0, rfl, Nat.zero_le _, by rw [List.take_zero, List.append_nil]; exact HFO.out, HRD.out⟩
          case round =>
            clear HFO HRD
            obtain ⟨k, rfl, hkn, hfo, hrd⟩ := hrel
            have kz : (0 : Int) ≤ (k : Int) := Int.natCast_nonneg _
            have HFO := Lib.hid hfo
            have HRD := Lib.hid hrd
            by_cases hkl : k < nl
            · have hkl' : (k : Int) < (nl : Int) := by omega
              obtain ⟨_, a9, c9, he9, _, _, q5⟩ := hrd
              injection he9 with e1 _ e3
              subst e1 e3
              obtain ⟨bv, ov, rfl, hcell⟩ := q5 (by omega)
              obtain ⟨d, hd⟩ : ∃ d, D[k]? = some d := ⟨_, List.getElem?_eq_getElem (by rw [← HNL.out]; exact hkl)⟩
              have hdm := (HMEM.out d).1 (List.mem_of_getElem? hd)
              have cd : wr.cell? ⟨bv, ov + k, none⟩ = some (.int .i64 d) := hcell k _ (by simp [ints, asInts, hd])
              have d0 : (0 : Int) ≤ (d : Int) := Int.natCast_nonneg _
              have dneg : ¬ (d : Int) < 0 := by omega
              have d16 : (d : Int) < 16 := by omega
              have dna : (d : Int) < (na : Int) := by omega
              have dn16 : d < 16 := by omega
              obtain ⟨bA, oA, rfl, hbA, hcA⟩ := HA3.out (by omega)
              obtain ⟨x, hx⟩ : ∃ x, xs[d]? = some x := ⟨_, List.getElem?_eq_getElem (by rw [← HA.out]; omega)⟩
              have hxr := HBA.out d x hx
              have cx := below_cell HFO.out.base hbA (hcA d x hx)
              have hTd := HT.out d x hx
              obtain ⟨p, hp⟩ : ∃ p : Nat, (p : Int) = x % 300 := ⟨(x % 300).toNat, by omega⟩
              have hp2 : x % 300 = (p : Int) := hp.symm
              rw [hTd, hp2] at hdm
              have hle : ¬ (now : Int) + (s : Int) < (p : Int) := by omega
              have hlow := HLOW.out
              have HLT := Lib.hid (show 0 < i → ¬ (p : Int) ≤ (now : Int) by omega)
              have hpz : (0 : Int) ≤ (p : Int) := Int.natCast_nonneg _
              obtain ⟨c, hc⟩ : ∃ c, c = (P ++ D.take k).count d := ⟨_, rfl⟩
              have hc40 : (c : Int) ≤ 40 := by
                have h1 : c ≤ (P ++ D.take k).length := by rw [hc]; exact List.count_le_length
                rw [List.length_append, List.length_take] at h1
                have := HPL.out
                have := HNL.out
                omega
              have cc := HFO.out.cell dn16
              have cf := HFO.out.r.frozenAt d
              have hset := HFO.out.set dn16
              rw [← hc] at cc hset
              have hbv : bv ≠ bm := HVB.out bv rfl
              have HRD2 := Lib.hid (show Reads (wr.setCell ⟨bm, d, none⟩ (.int .i64 ((c : Int) + 1))) 1 (.slice (some ⟨bv, ov, none⟩) nl cv) nl (ints (asInts D)) from
                HRD.out.frame (fun k hk => Below.heap_setCell _ _ _ _ (by simp only [Value.ownBlock, Option.some.injEq] at hk; subst hk; exact fun e => hbv e)))
              rw [show P ++ D.take k ++ [d] = P ++ D.take (k + 1) by rw [List.take_add_one, hd, List.append_assoc]; rfl] at hset
              have HSET := Lib.hid hset
              have cz : (0 : Int) ≤ (c : Int) := Int.natCast_nonneg _
              clear hfo hx hcA hTd hp hdm hlow hc hset hcell q5 hd
              by_cases hi0 : i = 0
              · have hi0' : ¬ (0 : Int) < (i : Int) := by omega
                have hi0d : decide ((0 : Int) < (i : Int)) = false := decide_eq_false hi0'
                have hi0e : decide (0 < i) = false := decide_eq_false (by omega)
                clear hi0
                go_wp2_with fail
                go_roundw
                case rel => exact ⟨k + 1, by go_num, by omega, HSET.out, HRD2.out⟩
                case measure => simp [intOf]; omega
              · have hi0' : (0 : Int) < (i : Int) := by omega
                have hnle : ¬ (p : Int) ≤ (now : Int) := HLT.out (by omega)
                clear hi0
                go_wp2_with fail
                go_roundw
                case rel => exact ⟨k + 1, by go_num, by omega, HSET.out, HRD2.out⟩
                case measure => simp [intOf]; omega
            · have hkl' : ¬ (k : Int) < (nl : Int) := by omega
              have HFO2 := Lib.hid (show FO w wr b bm K T ((now : Int) + (s : Int)) (P ++ D) by
                have h := hfo
                rwa [List.take_of_length_le (by rw [← HNL.out]; omega)] at h)
              clear hfo hrd
              go_wp2_with fail
              go_roundw
              case rel => exact ⟨i + 1, now + s, (now : Int) + (s : Int), P ++ D, by go_num, by go_num, by omega, by omega, by omega, .inr ⟨by omega, by omega⟩, HMT2.out, HFO2.out⟩
              case measure => simp [intOf]; omega
        · have hc2' : ¬ (i : Int) < 40 := by omega
          go_wp2_with fail
          go_meet
          exact ⟨now, low, P, rfl, by omega, .inr ⟨by omega, by have := HLOW.out; omega⟩, HMT.out, HFO.out⟩
      · have hc1' : ¬ (i : Int) < (nb : Int) := by omega
        go_wp2_with fail
        go_meet
        exact ⟨now, low, P, rfl, by omega, by have := HLOW.out; omega, HMT.out, HFO.out⟩
  case rest =>
  clear HFO HMT
  obtain ⟨now, low, P, rfl, hnow, hlow, hmt, hfo⟩ := hcut
  have HFO := Lib.hid hfo
  have HMT := Lib.hid hmt
  have HLOW := Lib.hid hlow
  have nz : (0 : Int) ≤ (now : Int) := Int.natCast_nonneg _
  clear hfo hmt hlow
  go_upto_block 6 with (fail)
  go_cut [14] (fun _ wc => FO w wc b bm K T low P)
  case first => as_aux_lemma =>
    go_wp2_with fail
    go_loopw [14] (fun u wr => ∃ (i : Nat), u = .int .i64 i ∧ i ≤ na ∧ i ≤ 16 ∧ FO w wr b bm K T low P) (fun u _ => na - (intOf u).toNat)
    case atStart => exact ⟨0, rfl, Nat.zero_le _, by omega, HFO.out⟩
    case round =>
      clear HFO
      obtain ⟨i, rfl, hin, hi16, hfo⟩ := hrel
      have iz : (0 : Int) ≤ (i : Int) := Int.natCast_nonneg _
      have HFO := Lib.hid hfo
      clear hfo
      by_cases hc1 : i < na
      · have hc1' : (i : Int) < (na : Int) := by omega
        by_cases hc2 : i < 16
        · have hc2' : (i : Int) < 16 := by omega
          have hiK : i < K := by have := HKE.out; omega
          obtain ⟨bA, oA, rfl, hbA, hcA⟩ := HA3.out (by omega)
          obtain ⟨x, hx⟩ : ∃ x, xs[i]? = some x := ⟨_, List.getElem?_eq_getElem (by rw [← HA.out]; exact hc1)⟩
          have hxr := HBA.out i x hx
          have cx := below_cell HFO.out.base hbA (hcA i x hx)
          obtain ⟨p, hp⟩ : ∃ p : Nat, (p : Int) = x % 300 := ⟨(x % 300).toNat, by omega⟩
          have hp2 : x % 300 = (p : Int) := hp.symm
          have hTi : T i = (p : Int) := by rw [HT.out i x hx, hp2]
          have hcnt := HMT.out.count hiK
          have cc := HFO.out.cell hc2
          have hat := HFO.out.at_ hiK
          rw [hTi] at hcnt hat
          have hlow := HLOW.out
          by_cases hnb : nb = 0
          · have hnb0 : ¬ (0 : Int) < (nb : Int) := by omega
            have hlow2 : low = -1 := by omega
            rw [if_neg (by omega)] at hcnt
            rw [decide_eq_true (show low < (p : Int) by omega)] at hat
            rw [hcnt] at cc
            have HAT := Lib.hid hat
            clear hcnt hat hx hcA hp hTi hlow hnb hlow2
            go_wp2_with fail
            refine HAT.out.mono ?_
            rintro e w' ⟨a, rfl, rfl⟩
            go_wp2_with fail
            go_roundw
            case rel => exact ⟨i + 1, by go_num, by omega, by omega, HFO.out⟩
            case measure => simp [intOf]; omega
          · have hnb0 : (0 : Int) < (nb : Int) := by omega
            have hlow2 : low = (now : Int) := by omega
            by_cases hle : (p : Int) ≤ (now : Int)
            · rw [if_pos (by omega)] at hcnt
              rw [decide_eq_false (show ¬ low < (p : Int) by omega)] at hat
              rw [hcnt] at cc
              have HAT := Lib.hid hat
              clear hcnt hat hx hcA hp hTi hlow hnb hlow2
              go_wp2_with fail
              refine HAT.out.mono ?_
              rintro e w' ⟨a, rfl, rfl⟩
              go_wp2_with fail
              go_roundw
              case rel => exact ⟨i + 1, by go_num, by omega, by omega, HFO.out⟩
              case measure => simp [intOf]; omega
            · rw [if_neg (by omega)] at hcnt
              rw [decide_eq_true (show low < (p : Int) by omega)] at hat
              rw [hcnt] at cc
              have HAT := Lib.hid hat
              clear hcnt hat hx hcA hp hTi hlow hnb hlow2
              go_wp2_with fail
              refine HAT.out.mono ?_
              rintro e w' ⟨a, rfl, rfl⟩
              go_wp2_with fail
              go_roundw
              case rel => exact ⟨i + 1, by go_num, by omega, by omega, HFO.out⟩
              case measure => simp [intOf]; omega
        · have hc2' : ¬ (i : Int) < 16 := by omega
          go_wp2_with fail
          go_meet
          exact HFO.out
      · have hc1' : ¬ (i : Int) < (na : Int) := by omega
        go_wp2_with fail
        go_meet
        exact HFO.out
  case rest =>
  have H5 := Lib.hid hcut
  clear hcut HFO
  go_wp2_with fail
  refine (awake8_calls _).mono ?_
  rintro e w6 ⟨rfl, hb⟩
  have H6 := Lib.hid (H5.out.plus hb)
  clear hb
  go_wp2_with fail
  go_ret
  exact ⟨rfl, H6.out.base⟩
end Go.Proofs.Ytajhfjgndkdbnaa
