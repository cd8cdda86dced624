/- What policy.slots does. Conditions: the list can be read; one to eight domains. -/
import Derived.Test.YtbgpniepgbmkaaaDoorPol3
namespace Go.Proofs.YtbgpniepgbmkaaaDoor
open Go.RowKit BigFrame

theorem Tryd.info_bool1 : (Tryd.prog.info? 4).map (fun i => (i.zero, i.size, i.bytes)) = some (some (.bool false), 1, 1) := by kernel_rfl
def slCells (s : Int × Int) : List Value := [.int .i64 s.1, .int .i64 s.2]
def slotErr (many : Nat) (s : Int × Int) : Int := if (inB s.1 0 ((many : Int) - 1) && inB s.2 1 16) = false then 1 else 0
/-- Which domains have one of the first slots. -/
def hasL (many : Nat) (S : List (Int × Int)) : List Bool := (List.range many).map (fun (i : Nat) => S.any (fun s => decide (s.1 = (i : Int))))
def slotsM (S : List (Int × Int)) (many : Nat) : Int := if firstE (S.map (slotErr many)) = 0 then (if hasF (hasL many S) = true then 5 else 0) else firstE (S.map (slotErr many))
theorem hasL_len (many : Nat) (S : List (Int × Int)) : (hasL many S).length = many := by simp [hasL]
theorem hasL_nil (many : Nat) : hasL many [] = List.replicate many false := by
  unfold hasL
  apply List.ext_getElem
  · simp
  · intro i h1 h2
    simp
theorem hasL_set {many : Nat} {S : List (Int × Int)} {s : Int × Int} {k : Nat} (hk : s.1 = (k : Int)) : (hasL many S).set k true = hasL many (S ++ [s]) := by
  apply List.ext_getElem
  · simp [hasL]
  · intro i h1 h2
    rw [List.getElem_set]
    unfold hasL
    simp only [List.getElem_map, List.getElem_range, List.any_append, List.any_cons, List.any_nil, Bool.or_false]
    by_cases h : k = i
    · rw [if_pos h]
      have : decide (s.1 = (i : Int)) = true := decide_eq_true (by omega)
      rw [this, Bool.or_true]
    · rw [if_neg h]
      have : decide (s.1 = (i : Int)) = false := decide_eq_false (by omega)
      rw [this, Bool.or_false]
theorem rows_open {α : Type} {f : α → List Value} {k : Nat} {w : World} {v : Value} {n : Nat} {xs : List α} (h : Reads w k v n (xs.flatMap f)) (hf : ∀ x, (f x).length = k) (hk : 0 < k) : xs.length = n ∧ ∃ a c, v = .slice a n c ∧ n ≤ c ∧ c ≤ maxLen ∧ (0 < n → ∃ bl o, a = some ⟨bl, o, none⟩ ∧ bl < w.heap.size ∧ ∀ (i : Nat) (x : α), xs[i]? = some x → ∀ (j : Nat) (u : Value), (f x)[j]? = some u → w.cell? ⟨bl, o + i * k + j, none⟩ = some u) := by
  have h' := h
  obtain ⟨h1, a, c, rfl, h2, h3, h4⟩ := h
  have hl : ∀ ys : List α, (ys.flatMap f).length = ys.length * k := by
    intro ys
    induction ys with
    | nil => simp
    | cons x ys ih => rw [List.flatMap_cons, List.length_append, ih, hf x, List.length_cons, Nat.add_mul]; omega
  have hD : xs.length = n := by
    have := hl xs
    rw [h1] at this
    exact (Nat.eq_of_mul_eq_mul_right hk this).symm
  refine ⟨hD, a, c, rfl, h2, h3, fun hn => ?_⟩
  obtain ⟨bl, o, rfl, _⟩ := h4 hn
  refine ⟨bl, o, rfl, h'.lt hn hk bl rfl, fun i x hx j u hj => ?_⟩
  have hi : i < n := by have := (List.getElem?_eq_some_iff.1 hx).1; omega
  exact rows_at h' (fun x _ => hf x) hx hi hj
set_option maxRecDepth 100000 in
set_option maxHeartbeats 16000000 in
theorem slots_calls {w : World} {v : Value} {n : Nat} {S : List (Int × Int)} (h : Reads w 2 v n (S.flatMap slCells)) (many : Nat) (hm1 : 1 ≤ many) (hm8 : many ≤ 8) :
    Calls Tryd.prog 29 #[v, .int .i64 many] w fun e w' => e = .returned (.int .i64 (slotsM S many)) ∧ Below w.heap.size w w' := by
  obtain ⟨hl, a, c, rfl, h2, h3, h4⟩ := rows_open h (fun _ => rfl) (by omega)
  obtain ⟨i0, hi, hz0, hz1, hz2⟩ := info_parts Tryd.info_bool1
  have HI0 := Lib.hid hi
  unfold maxLen at h3
  have HL := Lib.hid hl
  have H4 := Lib.hid h4
  have hmz : (0 : Int) ≤ (many : Int) := Int.natCast_nonneg _
  have hm8' : (many : Int) ≤ 8 := by omega
  clear h hl h4 hi
  go_enter Tryd.func29, Tryd.ntmps29
  go_wp2_with (refine wpList_make_full _ rfl _ _ 108 rfl w.heap.size 4 i0 (.bool false) 1 Tryd.underlying108 HI0.out hz0 hz1 .i64 .i64 many many many rfl rfl rfl rfl (by rw [hz2]; omega) (by unfold maxLen; omega) (Nat.le_refl _) ?_)
  intro w2 hown hgr
  have hown2 : w2.ownsRow w.heap.size 4 1 (.slice (some ⟨w.heap.size, 0, none⟩) many many) many (bools (hasL many (S.take 0))) := by
    rw [List.take_zero, hasL_nil]
    have h : bools (List.replicate many false) = (madeCells #[Value.bool false] many).toList := by rw [toList_madeCells_one, bools, List.map_replicate]
    rw [h]
    exact hown
  have HO2 := Lib.hid hown2
  have HB2 := Lib.hid (show Below w.heap.size w w2 from (Below.refl _ _).grown hgr (Nat.le_refl _) (fun _ h => by cases h))
  clear hown hown2 hgr
  obtain ⟨bh, hbh⟩ : ∃ bh, bh = w.heap.size := ⟨_, rfl⟩
  have hbg : w.heap.size ≤ bh := by omega
  go_wp2_with fail
  rw [← hbh] at HO2 ⊢
  have HBH := Lib.hid hbh
  clear hbh
  go_loopw [12] (fun u wr => ∃ j : Nat, u = .int .i64 j ∧ j ≤ n ∧ (∀ e ∈ (S.map (slotErr many)).take j, e = 0) ∧ wr.ownsRow bh 4 1 (.slice (some ⟨bh, 0, none⟩) many many) many (bools (hasL many (S.take j))) ∧ Below bh w wr) (fun u _ => n - (intOf u).toNat)
  case atStart => exact ⟨0, rfl, Nat.zero_le _, by simp, HO2.out, by rw [HBH.out]; exact HB2.out⟩
  case round =>
    clear HO2 HB2
    obtain ⟨j, rfl, hj, hno, hown, hb⟩ := hrel
    have HNO := Lib.hid hno
    have HO := Lib.hid hown
    have HB := Lib.hid hb
    have hsz : bh ≤ wr.heap.size := by have := hb.size; rw [HBH.out]; exact this
    have hjz : (0 : Int) ≤ (j : Int) := Int.natCast_nonneg _
    clear hno hown hb
    by_cases hc : j < n
    · have hc' : (j : Int) < (n : Int) := by omega
      obtain ⟨s, hs⟩ : ∃ s, S[j]? = some s := ⟨_, List.getElem?_eq_getElem (by rw [HL.out]; exact hc)⟩
      obtain ⟨bl, o, rfl, hbl, hcx⟩ := H4.out (by omega)
      have k0 := below_cell1 HB.out (by rw [HBH.out]; exact hbl) (hcx j s hs 0 _ rfl)
      have k1 := below_cell1 HB.out (by rw [HBH.out]; exact hbl) (hcx j s hs 1 _ rfl)
      rw [Nat.add_zero] at k0
      have HE := Lib.hid (show (S.map (slotErr many))[j]? = some (slotErr many s) by rw [List.getElem?_map, hs]; rfl)
      have HDE := Lib.hid (show slotErr many s = if (inB s.1 0 ((many : Int) - 1) && inB s.2 1 16) = false then 1 else 0 from rfl)
      have HT := Lib.hid (show S.take (j + 1) = S.take j ++ [s] by rw [List.take_add_one, hs]; rfl)
      generalize slotErr many s = de at HE HDE
      have H1 := Lib.hid (fun w => in_calls s.1 0 ((many : Int) - 1) w)
      have H2 := Lib.hid (fun w => in_calls s.2 1 16 w)
      have hin : inB s.1 0 ((many : Int) - 1) = true → 0 ≤ s.1 ∧ s.1 < many := fun h => by have := of_decide_eq_true h; omega
      have HIN := Lib.hid hin
      obtain ⟨sd, sl⟩ := s
      simp only at H1 H2 HDE HIN k0 k1
      generalize inB sd 0 ((many : Int) - 1) = t1 at H1 HDE HIN
      generalize inB sl 1 16 = t2 at H2 HDE
      clear hcx hs hin
      cases t1 with
      | false =>
        have HV := Lib.hid (show slotsM S many = 1 from by
          have h1 := HE.out
          rw [HDE.out] at h1
          unfold slotsM
          rw [firstE_hit HNO.out h1 (by simp)]
          rfl)
        go_wp2_with fail
        refine (H1.out _).mono ?_
        rintro e w5 ⟨rfl, rfl⟩
        go_wp2_with fail
        go_ret
        rw [HV.out]
        exact ⟨rfl, by rw [← HBH.out]; exact HB.out.alloc hsz _⟩
      | true =>
        cases t2 with
        | false =>
          have HV := Lib.hid (show slotsM S many = 1 from by
            have h1 := HE.out
            rw [HDE.out] at h1
            unfold slotsM
            rw [firstE_hit HNO.out h1 (by decide)]
            rfl)
          go_wp2_with fail
          refine (H1.out _).mono ?_
          rintro e w5 ⟨rfl, rfl⟩
          go_wp2_with fail
          refine (H2.out _).mono ?_
          rintro e w5 ⟨rfl, rfl⟩
          go_wp2_with fail
          go_ret
          rw [HV.out]
          exact ⟨rfl, by rw [← HBH.out]; exact HB.out.alloc hsz _⟩
        | true =>
          obtain ⟨sd0, sd1⟩ := HIN.out rfl
          obtain ⟨sk, rfl⟩ : ∃ sk : Nat, sd = sk := ⟨sd.toNat, by omega⟩
          have HZ := Lib.hid (show ∀ e ∈ (S.map (slotErr many)).take (j + 1), e = 0 from by
            have h1 := HE.out
            rw [HDE.out] at h1
            exact take_zero HNO.out h1)
          have hoa := HO.out.alloc (.cells #[.int .i64 sk, .int .i64 sl] 57)
          have fz := hoa.frozenAt sk
          obtain ⟨old, hold⟩ : ∃ old, (hasL many (S.take j))[sk]? = some old := ⟨_, List.getElem?_eq_getElem (by rw [hasL_len]; omega)⟩
          have cz := bools_at (Reads.of_owns hoa) hold (by omega)
          rw [Nat.zero_add] at cz
          have hst := (hoa.stored sk (.bool true)).1
          rw [← bools_set, hasL_set (s := ((sk : Int), sl)) rfl, ← HT.out] at hst
          have HST := Lib.hid hst
          have HBA := Lib.hid ((HB.out.alloc hsz (.cells #[.int .i64 sk, .int .i64 sl] 57)).setCell (p := ⟨bh, sk, none⟩) (Nat.le_refl _) (.bool true))
          clear hst hoa hold
          go_wp2_with fail
          refine (H1.out _).mono ?_
          rintro e w5 ⟨rfl, rfl⟩
          go_wp2_with fail
          refine (H2.out _).mono ?_
          rintro e w5 ⟨rfl, rfl⟩
          go_wp2_with fail
          go_roundw
          case rel => exact ⟨j + 1, by go_num, by omega, HZ.out, HST.out, HBA.out⟩
          case measure => simp [intOf]; omega
    · obtain rfl : j = n := by omega
      have hc' : ¬ (j : Int) < (j : Int) := by omega
      have hfull : S.take j = S := List.take_of_length_le (by rw [HL.out]; exact Nat.le_refl _)
      have HZ := Lib.hid (show firstE (S.map (slotErr many)) = 0 from firstE_zero (by
        have := HNO.out
        rwa [List.take_of_length_le (by rw [List.length_map, HL.out]; exact Nat.le_refl _)] at this))
      have HCO := Lib.hid (contains_calls (Reads.of_owns HO.out))
      rw [hfull] at HCO
      have HV := Lib.hid (show slotsM S many = if hasF (hasL many S) = true then 5 else 0 by unfold slotsM; rw [if_pos HZ.out])
      generalize hasF (hasL many S) = f at HCO HV
      clear hfull
      cases f with
      | true =>
        go_wp2_with fail
        refine HCO.out.mono ?_
        rintro e w5 ⟨rfl, rfl⟩
        go_wp2_with fail
        go_ret
        rw [HV.out]
        exact ⟨rfl, by rw [← HBH.out]; exact HB.out⟩
      | false =>
        go_wp2_with fail
        refine HCO.out.mono ?_
        rintro e w5 ⟨rfl, rfl⟩
        go_wp2_with fail
        go_ret
        rw [HV.out]
        exact ⟨rfl, by rw [← HBH.out]; exact HB.out⟩
end Go.Proofs.YtbgpniepgbmkaaaDoor
