/- What the document's Check of a policy answers (parcloseref04.Check): what policy.Check does. Conditions: the lists can be read, the names are not too long, the labels' sets are int64s. -/
import Derived.Test.YtbgpniepgbmkaaaDoorPol6
import Derived.Test.YtbgpniepgbmkaaaDoorSignRef
namespace Go.Proofs.YtbgpniepgbmkaaaDoor
open Go.RowKit BigFrame

theorem bitU_lsb (x : Int) (j : Nat) : bitU x j = (BitVec.ofInt 64 x).getLsbD j := by
  obtain ⟨N, hN⟩ : ∃ N : Nat, x % 18446744073709551616 = N := ⟨(x % 18446744073709551616).toNat, by omega⟩
  unfold bitU
  rw [hN]
  have hb : (BitVec.ofInt 64 x).toNat = N := by
    rw [BitVec.toNat_ofInt]
    show (x % 18446744073709551616).toNat = N
    omega
  rw [BitVec.getLsbD, hb, Nat.testBit_eq_decide_div_mod_eq]
  have : (N : Int) / 2 ^ j % 2 = ((N / 2 ^ j % 2 : Nat) : Int) := by simp
  rw [this]
  congr 1
  exact propext ⟨fun h => by omega, fun h => by omega⟩
theorem andNot_zero (x y : Int) : bits .andNot .i64 x y = 0 ↔ ∀ j : Nat, j < 64 → bitU x j = true → bitU y j = true := by
  have e : bits .andNot .i64 x y = IntKind.i64.wrap ((BitVec.ofInt 64 x &&& ~~~(BitVec.ofInt 64 y)).toNat : Int) := rfl
  obtain ⟨r, hr⟩ : ∃ r : BitVec 64, r = BitVec.ofInt 64 x &&& ~~~(BitVec.ofInt 64 y) := ⟨_, rfl⟩
  rw [e, ← hr, IntKind.wrap_i64]
  have hlt : r.toNat < 2 ^ 64 := r.isLt
  constructor
  · intro h j hj hx
    have h0 : r = 0#64 := BitVec.eq_of_toNat_eq (by rw [BitVec.toNat_ofNat]; omega)
    have h1 : r.getLsbD j = false := by rw [h0]; simp
    rw [hr, BitVec.getLsbD_and, BitVec.getLsbD_not, ← bitU_lsb, ← bitU_lsb, hx, decide_eq_true hj] at h1
    simpa using h1
  · intro h
    have h0 : r = 0#64 := by
      apply BitVec.eq_of_getLsbD_eq
      intro j hj
      rw [hr, BitVec.getLsbD_and, BitVec.getLsbD_not, ← bitU_lsb, ← bitU_lsb, decide_eq_true hj, BitVec.getLsbD_zero]
      cases hx : bitU x j with
      | false => rfl
      | true => rw [h j hj hx]; rfl
    rw [h0, show (0#64 : BitVec 64).toNat = 0 from rfl]
    decide
set_option maxRecDepth 100000 in
set_option maxHeartbeats 4000000 in
theorem rleq_calls (l1 c1 l2 c2 : Int) (x0 : -9223372036854775808 ≤ c1) (x1 : c1 ≤ 9223372036854775807) (y0 : -9223372036854775808 ≤ c2) (y1 : c2 ≤ 9223372036854775807) (w : World) :
    Calls Tryd.prog 39 #[lab l1 c1, lab l2 c2] w fun e w' => e = .returned (.bool (leqB l1 c1 l2 c2)) ∧ Below w.heap.size w w' := by
  unfold lab
  have H := Lib.hid (show leqB l1 c1 l2 c2 = (decide (l1 ≤ l2) && (bits .andNot .i64 c1 c2 == 0)) from rfl)
  have HA := Lib.hid (andNot_zero c1 c2)
  have HW := Lib.hid (((plus_one1 w (.cells #[.int .i64 l1, .int .i64 c1] 49))).trans ((plus_one1 (w.alloc (.cells #[.int .i64 l1, .int .i64 c1] 49)) (.cells #[.int .i64 l2, .int .i64 c2] 49)).mono (by simp)))
  go_enter Tryd.func39, Tryd.ntmps39
  go_wp2_with fail
  go_loopw [5] (fun v wr => ∃ n : Nat, v = .int .i64 n ∧ n ≤ 64 ∧ wr = (w.alloc (.cells #[.int .i64 l1, .int .i64 c1] 49)).alloc (.cells #[.int .i64 l2, .int .i64 c2] 49) ∧ ∀ j : Nat, j < n → bitU c1 j = true → bitU c2 j = true) (fun v _ => 64 - (intOf v).toNat)
  case atStart => exact ⟨0, rfl, by omega, rfl, fun j h => by omega⟩
  case round =>
    obtain ⟨n, rfl, h64, rfl, hall⟩ := hrel
    have HAL := Lib.hid hall
    clear hall
    by_cases hn : n < 64
    · have hn1 : (n : Int) < 64 := by omega
      have hn0 : (0 : Int) ≤ (n : Int) := Int.natCast_nonneg _
      have hb1 := fun u : World => bit_calls c1 n x0 x1 hn u
      have hb2 := fun u : World => bit_calls c2 n y0 y1 hn u
      obtain ⟨t1, ht1⟩ : ∃ t, t = bitU c1 n := ⟨_, rfl⟩
      obtain ⟨t2, ht2⟩ : ∃ t, t = bitU c2 n := ⟨_, rfl⟩
      rw [← ht1] at hb1
      rw [← ht2] at hb2
      have HB1 := Lib.hid hb1
      have HB2 := Lib.hid hb2
      have HT1 := Lib.hid ht1
      have HT2 := Lib.hid ht2
      clear ht1 ht2 hb1 hb2 x0 x1 y0 y1
      cases t1
      · go_wp2_with fail
        refine (HB1.out _).mono ?_
        rintro e w' ⟨rfl, rfl⟩
        go_wp2_with fail
        go_roundw
        case rel =>
          refine ⟨n + 1, by go_num, by omega, by first | rfl | trivial, fun j h1 h2 => ?_⟩
          by_cases hj : j = n
          · rw [hj, ← HT1.out] at h2; cases h2
          · exact HAL.out j (by omega) h2
        case measure => simp [intOf]; omega
      · cases t2
        · have HV := Lib.hid (show leqB l1 c1 l2 c2 = false by
            rw [H.out, Bool.and_eq_false_iff]
            refine Or.inr ?_
            rw [beq_eq_false_iff_ne]
            intro h0
            have h1 := HA.out.1 h0 n hn HT1.out.symm
            rw [← HT2.out] at h1
            cases h1)
          go_wp2_with fail
          refine (HB1.out _).mono ?_
          rintro e w' ⟨rfl, rfl⟩
          go_wp2_with fail
          refine (HB2.out _).mono ?_
          rintro e w' ⟨rfl, rfl⟩
          go_wp2_with fail
          go_ret
          rw [HV.out]
          exact ⟨rfl, HW.out⟩
        · go_wp2_with fail
          refine (HB1.out _).mono ?_
          rintro e w' ⟨rfl, rfl⟩
          go_wp2_with fail
          refine (HB2.out _).mono ?_
          rintro e w' ⟨rfl, rfl⟩
          go_wp2_with fail
          go_roundw
          case rel =>
            refine ⟨n + 1, by go_num, by omega, by first | rfl | trivial, fun j h1 h2 => ?_⟩
            by_cases hj : j = n
            · rw [hj]; exact HT2.out.symm
            · exact HAL.out j (by omega) h2
          case measure => simp [intOf]; omega
    · have hn1 : ¬ (n : Int) < 64 := by omega
      have HV := Lib.hid (show leqB l1 c1 l2 c2 = decide (l1 ≤ l2) by
        have h0 : bits .andNot .i64 c1 c2 = 0 := HA.out.2 fun j hj => HAL.out j (by omega)
        rw [H.out, h0]
        exact Bool.and_true _)
      clear x0 x1 y0 y1
      by_cases a : l2 < l1
      · go_wp2_with fail
        go_ret
        rw [HV.out, decide_eq_false (by omega)]
        exact ⟨rfl, HW.out⟩
      · go_wp2_with fail
        go_ret
        rw [HV.out, decide_eq_true (by omega)]
        exact ⟨rfl, HW.out⟩
theorem findD_le {D : List Dm} {j : Nat} {d : Dm} (hd : D[j]? = some d) : findD D d.nm < (j : Int) ↔ 0 ≤ findD (D.take j) d.nm := by
  by_cases hx : ∃ x ∈ D.take j, x.nm = d.nm
  · obtain ⟨x, hx, he⟩ := hx
    have h1 : ((D.take j).findIdx? (fun x => decide (x.nm = d.nm))).isSome := by
      rw [List.findIdx?_isSome, List.any_eq_true]
      exact ⟨x, hx, decide_eq_true he⟩
    obtain ⟨i, hi⟩ := Option.isSome_iff_exists.1 h1
    have h2 : D.findIdx? (fun x => decide (x.nm = d.nm)) = some i := by
      have h0 : (D.take j ++ D.drop j).findIdx? (fun x => decide (x.nm = d.nm)) = some i := by
        rw [List.findIdx?_append, hi]
        rfl
      rwa [List.take_append_drop] at h0
    have h3 : i < (D.take j).length := by
      rw [List.findIdx?_eq_some_iff_getElem] at hi
      exact hi.1
    rw [List.length_take] at h3
    unfold findD
    rw [hi, h2]
    simp only
    constructor
    · intro _; omega
    · intro _; omega
  · have h1 : findD (D.take j) d.nm = -1 := findD_none (fun x hx' => decide_eq_false fun e => hx ⟨x, hx', e⟩)
    have h2 : findD D d.nm = j := findD_hit (fun x hx' => decide_eq_false fun e => hx ⟨x, hx', e⟩) hd (decide_eq_true rfl)
    rw [h1, h2]
    omega
theorem checkM_arg {D : List Dm} {S : List (Int × Int)} {K : List Lk} (h : (inB D.length 1 8 && (inB S.length 1 16 && decide (K.length ≤ 8))) = false) : checkM D S K = 1 := by
  unfold checkM
  rw [if_pos h]
theorem checkM_dom {D : List Dm} {S : List (Int × Int)} {K : List Lk} {e : Int} (h : (inB D.length 1 8 && (inB S.length 1 16 && decide (K.length ≤ 8))) = true) (he : domsM D = e) (h0 : e ≠ 0) : checkM D S K = e := by
  unfold checkM
  rw [if_neg (by rw [h]; simp), he, if_neg h0]
theorem checkM_slot {D : List Dm} {S : List (Int × Int)} {K : List Lk} {e : Int} (h : (inB D.length 1 8 && (inB S.length 1 16 && decide (K.length ≤ 8))) = true) (hd : domsM D = 0) (he : slotsM S D.length = e) (h0 : e ≠ 0) : checkM D S K = e := by
  unfold checkM
  rw [if_neg (by rw [h]; simp), hd, if_pos rfl, he, if_neg h0]
theorem checkM_link {D : List Dm} {S : List (Int × Int)} {K : List Lk} (h : (inB D.length 1 8 && (inB S.length 1 16 && decide (K.length ≤ 8))) = true) (hd : domsM D = 0) (he : slotsM S D.length = 0) : checkM D S K = linksM D K := by
  unfold checkM
  rw [if_neg (by rw [h]; simp), hd, if_pos rfl, he, if_pos rfl]
theorem slotsM_arg {S : List (Int × Int)} {many : Nat} {i : Nat} (h0 : ∀ e ∈ (S.map (slotErr many)).take i, e = 0) (h : (S.map (slotErr many))[i]? = some 1) : slotsM S many = 1 := by
  have h1 := firstE_hit h0 h (by decide)
  unfold slotsM
  rw [h1]
  rfl
theorem slotsM_no {S : List (Int × Int)} {many : Nat} (h0 : ∀ e ∈ S.map (slotErr many), e = 0) {i : Nat} (hi : i < many) (h : S.any (fun s => decide (s.1 = (i : Int))) = false) : slotsM S many = 5 := by
  unfold slotsM
  rw [if_pos (firstE_zero h0), if_pos]
  unfold hasF
  rw [List.any_eq_true]
  refine ⟨false, ?_, rfl⟩
  unfold hasL
  exact List.mem_map.2 ⟨i, by simpa using hi, h⟩
theorem slotsM_ok {S : List (Int × Int)} {many : Nat} (h0 : ∀ e ∈ S.map (slotErr many), e = 0) (h : ∀ i : Nat, i < many → S.any (fun s => decide (s.1 = (i : Int))) = true) : slotsM S many = 0 := by
  unfold slotsM
  rw [if_pos (firstE_zero h0), if_neg]
  unfold hasF
  rw [Bool.not_eq_true, List.any_eq_false]
  intro b hb
  unfold hasL at hb
  obtain ⟨i, hi, rfl⟩ := List.mem_map.1 hb
  rw [h i (by simpa using hi)]
  simp
theorem any_take {α : Type} {l : List α} {p : α → Bool} {i : Nat} {x : α} (hx : l[i]? = some x) : (l.take (i + 1)).any p = ((l.take i).any p || p x) := by
  rw [List.take_add_one, hx, Option.toList_some, List.any_append]
  simp
/-- What is wrong with a link, in the document's order. -/
theorem link_open {D : List Dm} {nd : Nat} {l : Lk} (hn : D.length = nd) : linkErr D l = if (inB l.kd 1 2 && (inB l.fr 0 ((nd : Int) - 1) && (inB l.tt 0 ((nd : Int) - 1) && (!(l.fr == l.tt) && inB l.sz 1 (if l.kd = 2 then 8 else 4))))) = false then 1 else if leqAt D l.fr.toNat l.tt.toNat = false then 10 else 0 := by
  have h : linkBad D.length l = !(inB l.kd 1 2 && (inB l.fr 0 ((nd : Int) - 1) && (inB l.tt 0 ((nd : Int) - 1) && (!(l.fr == l.tt) && inB l.sz 1 (if l.kd = 2 then 8 else 4))))) := by
    unfold linkBad
    rw [hn]
    congr 1
    by_cases h1 : l.kd = 1
    · have a : inB l.kd 1 2 = true := by rw [h1]; rfl
      have b : mostM l.kd = 4 := by unfold mostM; rw [if_pos h1]
      rw [a, b, if_neg (by omega), Bool.true_and]
    · by_cases h2 : l.kd = 2
      · have a : inB l.kd 1 2 = true := by rw [h2]; rfl
        have b : mostM l.kd = 8 := by unfold mostM; rw [if_neg h1, if_pos h2]
        rw [a, b, if_pos h2, Bool.true_and]
      · have a : inB l.kd 1 2 = false := by unfold inB; exact decide_eq_false (by omega)
        have b : mostM l.kd = 0 := by unfold mostM; rw [if_neg h1, if_neg h2]
        have c : inB l.sz 1 0 = false := by unfold inB; exact decide_eq_false (by omega)
        rw [a, b, c]
        simp
  unfold linkErr
  rw [h]
  cases (inB l.kd 1 2 && (inB l.fr 0 ((nd : Int) - 1) && (inB l.tt 0 ((nd : Int) - 1) && (!(l.fr == l.tt) && inB l.sz 1 (if l.kd = 2 then 8 else 4))))) <;> rfl
theorem all_take {l : List Int} {n : Nat} (hn : l.length ≤ n) (h : ∀ e ∈ l.take n, e = 0) : ∀ e ∈ l, e = 0 := by
  rwa [List.take_of_length_le hn] at h
end Go.Proofs.YtbgpniepgbmkaaaDoor
