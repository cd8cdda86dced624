/- What the document's arena does on Place, Live and Free's search: its loops. Condition of each: it lies in memory (IsRf). -/
import Derived.Test.YtkiogbenbicghaaRef06
namespace Go.Proofs.Ytkiogbenbicghaa
open Go.RowKit

/-- Looked for from place i on. -/
def findFrom (l : List Int) (h : Int) (i : Nat) : Int :=
  if 0 < h then (match (l.drop i).findIdx? (fun x => x == h) with | some j => ((i + j : Nat) : Int) | none => -1) else -1
theorem findFrom_end {l : List Int} {h : Int} {i : Nat} (hi : l.length ≤ i) : findFrom l h i = -1 := by
  unfold findFrom
  rw [List.drop_eq_nil_of_le hi]
  simp
theorem findFrom_hit {l : List Int} {h : Int} {i : Nat} (h0 : 0 < h) (hi : l[i]? = some h) : findFrom l h i = i := by
  unfold findFrom
  obtain ⟨hl, e⟩ := List.getElem?_eq_some_iff.1 hi
  rw [if_pos h0, List.drop_eq_getElem_cons hl, e, List.findIdx?_cons]
  simp
theorem findFrom_miss {l : List Int} {h : Int} {i : Nat} {x : Int} (hi : l[i]? = some x) (hx : 0 < h → x ≠ h) : findFrom l h i = findFrom l h (i + 1) := by
  unfold findFrom
  obtain ⟨hl, e⟩ := List.getElem?_eq_some_iff.1 hi
  by_cases h0 : 0 < h
  · rw [if_pos h0, if_pos h0, List.drop_eq_getElem_cons hl, e, List.findIdx?_cons]
    have : (x == h) = false := by simpa using hx h0
    rw [this]
    simp only [Bool.false_eq_true, if_false]
    cases (List.drop (i + 1) l).findIdx? (fun x => x == h) with
    | none => simp
    | some j => simp; omega
  · rw [if_neg h0, if_neg h0]

set_option maxHeartbeats 4000000 in
theorem rplace_calls {w : World} {g : Nat} {R : Rf} {vs : List Value} (hR : IsRf w g R vs) (h : Int) :
    Calls Try.prog 47 #[.pointer (some ⟨g, 0, none⟩), .int .i64 h] w fun e w' => e = .returned (.int .i64 (findFrom R.now h 0)) ∧ w = w' := by
  obtain ⟨a, c, a', c', a'', c'', rfl, hc1, hc2, hc3, hc4⟩ := hR.open
  obtain ⟨ok, ho⟩ := hR
  have d1 := ho.cell 1 _ rfl
  have hr1 := ho.row 1 _ rfl rfl
  have hsz := ok.size
  have hsm := ok.same
  obtain ⟨n, hn⟩ : ∃ n, n = R.now.length := ⟨_, rfl⟩
  rw [← hn] at d1 hr1
  have HN := Lib.hid hn
  have hn16 : n ≤ 16 := by omega
  have HR1 := Lib.hid hr1
  clear ho hn hsm hsz hc1 hc2 hc3 hc4 hr1
  go_enter Try.func47, Try.ntmps47
  go_wp2_with fail
  go_loop [5] (fun i => ∃ k : Nat, k ≤ n ∧ i = .int .i64 k ∧ findFrom R.now h 0 = findFrom R.now h k) (fun i => n - (intOf i).toNat)
  case atStart => exact ⟨0, Nat.zero_le _, by go_num, rfl⟩
  case round =>
    obtain ⟨k, hk, rfl, hf⟩ := hrel
    have HF := Lib.hid hf
    clear hf
    by_cases hkn : k < n
    · obtain ⟨b, rfl⟩ : ∃ b, a' = some ⟨b, 0, none⟩ := by
        obtain ⟨a1, c1, he, _, _, h3⟩ := owns_shape HR1.out
        injection he with he _ _
        rw [he]
        exact h3 (by omega)
      obtain ⟨x, hx⟩ : ∃ x, R.now[k]? = some x := ⟨_, List.getElem?_eq_getElem (by rw [← HN.out]; exact hkn)⟩
      have c1 := owns_int HR1.out hx
      have HX := Lib.hid hx
      clear hx
      by_cases h0 : 0 < h
      · by_cases hxh : x = h
        · have hb : (x == h) = true := by simpa using hxh
          have HE := Lib.hid hxh
          clear hxh
          go_wp2
          go_ret
          rw [HF.out, findFrom_hit h0 (by rw [← HE.out]; exact HX.out)]
          exact ⟨rfl, rfl⟩
        · have hb : (x == h) = false := by simpa using hxh
          have HE := Lib.hid hxh
          clear hxh
          go_wp2
          go_round
          case rel => exact ⟨k + 1, by omega, by go_num, by rw [HF.out, findFrom_miss HX.out (fun _ => HE.out)]⟩
          case measure => simp [intOf]; omega
      · go_wp2
        go_round
        case rel => exact ⟨k + 1, by omega, by go_num, by rw [HF.out, findFrom_miss HX.out (fun h1 => absurd h1 h0)]⟩
        case measure => simp [intOf]; omega
    · obtain rfl : k = n := by omega
      go_wp2
      go_ret
      rw [HF.out, findFrom_end (by rw [← HN.out]; exact Nat.le_refl _)]
      exact ⟨rfl, rfl⟩

def rliveTo (l : List Int) (k : Nat) : List Int := (l.take k).filter (fun x => decide (0 < x))
theorem rliveTo_skip {l : List Int} {k : Nat} {x : Int} (h : l[k]? = some x) (hx : ¬ 0 < x) : rliveTo l (k + 1) = rliveTo l k := by
  unfold rliveTo; rw [List.take_add_one, h]; simp [List.filter_append, hx]
theorem rliveTo_take {l : List Int} {k : Nat} {x : Int} (h : l[k]? = some x) (hx : 0 < x) : rliveTo l (k + 1) = rliveTo l k ++ [x] := by
  unfold rliveTo; rw [List.take_add_one, h]; simp [List.filter_append, hx]
theorem rliveTo_len (l : List Int) (k : Nat) : (rliveTo l k).length ≤ l.length := by
  unfold rliveTo
  exact Nat.le_trans (List.length_filter_le _ _) (by simp; exact Nat.min_le_right _ _)
def Rf.live (R : Rf) : List Int := R.now.filter (fun x => decide (0 < x))

set_option maxHeartbeats 4000000 in
theorem rlive_calls {w : World} {g : Nat} {R : Rf} {vs : List Value} (hR : IsRf w g R vs) :
    Calls Try.prog 39 #[.pointer (some ⟨g, 0, none⟩)] w fun e w' => ∃ v, e = .returned v ∧ Reads w' 1 v R.live.length (ints R.live) ∧ (∀ k, v.ownBlock = some k → w.heap.size ≤ k) ∧ Below w.heap.size w w' := by
  have hlt := hR.2.lt
  obtain ⟨a, c, a', c', a'', c'', rfl, hc1, hc2, hc3, hc4⟩ := hR.open
  obtain ⟨ok, ho⟩ := hR
  have hgl := hlt g (.inl rfl)
  have d1 := ho.cell 1 _ rfl
  have hr1 := ho.row 1 _ rfl rfl
  have hsz := ok.size
  have hsm := ok.same
  obtain ⟨n, hn⟩ : ∃ n, n = R.now.length := ⟨_, rfl⟩
  rw [← hn] at d1 hr1
  have HN := Lib.hid hn
  have hn16 : n ≤ 16 := by omega
  have HR1 := Lib.hid hr1
  have HA := Lib.hid (show rliveTo R.now n = R.live by rw [hn, rliveTo, List.take_length]; rfl)
  obtain ⟨i0, hi, hz0, hz1, hz2⟩ := info_parts Try.info_int
  have HI := Lib.hid hi
  clear ho hn hsm hsz hc1 hc2 hc3 hc4 hr1 hlt hi
  go_enter Try.func39, Try.ntmps39
  go_wp2_with fail
  go_loopw [3, 4] (fun v i wr => ∃ k : Nat, k ≤ n ∧ i = .int .i64 k ∧ wr.ownsRow w.heap.size 3 1 v (rliveTo R.now k).length (ints (rliveTo R.now k)) ∧ Below w.heap.size w wr) (fun _ i _ => n - (intOf i).toNat)
  case atStart => exact ⟨0, Nat.zero_le _, by go_num, World.ownsRow_made w #[] 0 (Nat.le_refl _) (by unfold maxLen; omega) rfl, plus_one _ _⟩
  case round =>
    obtain ⟨k, hk, rfl, hown, hbel⟩ := hrel
    have hs := hbel.size
    have e1 := (hbel.cell (p := ⟨g, 1, none⟩) hgl).trans d1
    by_cases hkn : k < n
    · obtain ⟨b, rfl⟩ : ∃ b, a' = some ⟨b, 0, none⟩ := by
        obtain ⟨a1, c1, he, _, _, h3⟩ := owns_shape HR1.out
        injection he with he _ _
        rw [he]
        exact h3 (by omega)
      have hbl := (HR1.out.lt b rfl).2
      obtain ⟨x, hx⟩ : ∃ x, R.now[k]? = some x := ⟨_, List.getElem?_eq_getElem (by rw [← HN.out]; exact hkn)⟩
      have c1 := (hbel.cell (p := ⟨b, k, none⟩) hbl).trans (owns_int HR1.out hx)
      have hll := rliveTo_len R.now k
      rw [← HN.out] at hll
      by_cases h0 : 0 < x
      · have HS := Lib.hid (rliveTo_take hx h0)
        clear hx
        go_wp2_with (at_builtin; refine wpList_append_lies _ rfl (.tmp 23) (.tmp 31) 37 rfl w.heap.size 3 i0 (.int .i64 0) 1 8 Try.underlying37 HI.out hz0 hz1 hz2 rfl (by decide) _ _ _ rfl (hown.alloc _) _ 1 1 [.int .i64 x] rfl rfl ?_ ?_ (by omega) ?_ ?_ ?_ _ rfl ?_; exact news_at _ _ _ _ (by simp); exact news_int _; (unfold maxLen; omega); omega; (simp; omega))
        intro g' cap' w1 hown' hgrow _ _
        go_wp2
        go_roundw
        case rel =>
          refine ⟨k + 1, by omega, by go_num, by rw [HS.out, ints_snoc, List.length_append]; exact hown', ?_⟩
          exact (hbel.alloc (by omega) _).grown hgrow (by simp; omega) (fun j hj => (hown.lt j hj).1)
        case measure => simp [intOf]; omega
      · have HS := Lib.hid (rliveTo_skip hx h0)
        clear hx
        go_wp2
        go_roundw
        case rel => exact ⟨k + 1, by omega, by go_num, by rw [HS.out]; exact hown, hbel⟩
        case measure => simp [intOf]; omega
    · obtain rfl : k = n := by omega
      rw [HA.out] at hown
      go_wp2
      go_ret
      exact ⟨_, rfl, Reads.of_owns hown, fun j hj => (hown.lt j hj).1, hbel⟩
end Go.Proofs.Ytkiogbenbicghaa
