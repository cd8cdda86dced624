/- What wheel's Due does. Condition: the timers lie in memory (IsM); what is due at once can be sorted (hs: proved for twelve or fewer). -/
import Derived.Test.YtajhfjgndkdbnaaWheel6
namespace Go.Proofs.Ytajhfjgndkdbnaa
open Go.RowKit BigFrame

section
variable {w wr : World} {b : WB} {N n : Nat} {M : List (Int × Nat)}
theorem insertion_nil (f : Value) (w : World) : Calls Try.prog 45 #[.slice none 0 0, .int .i64 0, .int .i64 0, f] w fun e w' => e = .returned (.tuple #[]) ∧ w = w' := by
  go_enter Try.func45, Try.ntmps45
  go_wp2_with fail
  refine wp_loop_rounds 1 ?_
  rw [rounds_succ]
  go_wp2_with fail
  go_end0
  exact ⟨rfl, rfl⟩
theorem pdq_nil (lim : Int) (f : Value) (w : World) : Calls Try.prog 38 #[.slice none 0 0, .int .i64 0, .int .i64 0, .int .i64 lim, f] w fun e w' => e = .returned (.tuple #[]) ∧ w = w' := by
  go_enter Try.func38, Try.ntmps38
  go_wp2_with fail
  refine wp_loop_rounds 1 ?_
  rw [rounds_succ]
  go_wp2_with fail
  refine (insertion_nil f _).mono ?_
  rintro e w1 ⟨rfl, rfl⟩
  go_wp2_with fail
  (try simp only [Exit.inBlock, Exit.then])
  refine bodyPost_ret (results_none rfl _ _ _) rfl ?_
  exact ⟨rfl, rfl⟩
theorem sort_nil (f : Value) (w : World) : Calls Try.prog 27 #[.slice none 0 0, f] w fun e w' => e = .returned (.tuple #[]) ∧ w = w' := by
  go_enter Try.func27, Try.ntmps27
  go_wp2_with fail
  refine (Try.bits_Len 0 _ (by omega) (by omega)).mono ?_
  rintro e w' ⟨rfl, rfl⟩
  go_wp2_with fail
  refine (pdq_nil _ f _).mono ?_
  rintro e w1 ⟨rfl, rfl⟩
  go_wp2_with fail
  go_end0
  exact ⟨rfl, rfl⟩
/-- No two of them stand alike in the order. -/
def Parted (D : WD) (R : List Nat) : Prop := ∃ R', R.Perm R' ∧ R'.Pairwise (wl D)
/-- What it takes that what is due can be sorted. -/
def Sorts (b : WB) (N m : Nat) : Prop := ∀ (w0 wr : World) (D : WD) (bv n c : Nat) (R : List Nat), SR w0 wr b D N bv n c R → Parted D R → (∀ x ∈ R, x < N) → n ≤ m → n ≤ c → c ≤ maxLen →
  Calls Try.prog 27 #[.slice (some ⟨bv, 0, none⟩) n c, .func (.func 28) #[.pointer (some ⟨b.s, 0, none⟩)] #[]] wr fun e w' => e = .returned (.tuple #[]) ∧ ∃ R', R'.Perm R ∧ R'.Pairwise (wle D) ∧ SR w0 w' b D N bv n c R'
theorem sorts_small (b : WB) (N m : Nat) (hm : m ≤ 12) : Sorts b N m := fun _ _ _ _ _ _ _ h _ hR hn hc hcm => sort_small h hR (by omega) hc hcm

theorem cut_remove {L : List (List Nat)} {S : List Nat} {x : Nat} (hf : L.flatten.Nodup) (hx : x ∈ L.flatten) (hS : x ∉ S) : (removeL (cutL L S) x).2 = cutL L (S ++ [x]) := by
  have hh : hasL (cutL L S) x = true := by
    rw [hasL_flat, cut_flat, List.mem_filter]
    exact ⟨hx, by simpa using hS⟩
  unfold removeL
  rw [if_pos ⟨by omega, by rw [Int.toNat_natCast]; exact hh⟩]
  show (cutL L S).map _ = _
  unfold cutL
  rw [List.map_map]
  refine List.map_congr_left (fun l hl => ?_)
  have hnl : l.Nodup := List.Nodup.sublist (List.sublist_flatten_of_mem hl) hf
  show (l.filter _).erase _ = _
  rw [Int.toNat_natCast, List.Nodup.erase_eq_filter (List.Nodup.sublist List.filter_sublist hnl), List.filter_filter]
  refine List.filter_congr (fun y _ => ?_)
  by_cases h1 : y = x <;> by_cases h2 : y ∈ S <;> simp [h1, h2]
theorem cut_all {L : List (List Nat)} {S : List Nat} {k : Nat} {l : List Nat} (hl : L[k]? = some l) (hS : ∀ x ∈ l, x ∉ S) : allL (cutL L S) k = l := by
  refine allL_get ?_
  unfold cutL
  rw [List.getElem?_map, hl]
  simp only [Option.map_some, Option.some.injEq]
  rw [List.filter_eq_self]
  intro x hx
  simpa using hS x hx
theorem cut_nil (L : List (List Nat)) : cutL L [] = L := by
  unfold cutL
  have : ∀ l : List Nat, l.filter (fun x => decide (x ∉ ([] : List Nat))) = l := fun l => by rw [List.filter_eq_self]; intro x _; simp
  simp only [this, List.map_id']
/-- Those that were met and are due: of the first queues, and of so many of the next. -/
def metS (D : WD) (nw : Int) (k : Nat) (l : List Nat) (j : Nat) : List Nat := ((D.L.take k).flatten ++ l.take j).filter (fun x => decide (D.at_.getD x 0 ≤ nw))
theorem metS_next {D : WD} {nw : Int} {k : Nat} {l : List Nat} (hl : D.L[k]? = some l) : metS D nw k l l.length = metS D nw (k + 1) [] 0 := by
  unfold metS
  rw [List.take_length, take_flat hl]
  simp
theorem metS_all {D : WD} {nw : Int} (h : D.L.length = 16) : metS D nw 16 [] 0 = dueS D nw := by
  unfold metS dueS
  rw [List.take_of_length_le (by omega)]
  simp
theorem metS_hit {D : WD} {nw : Int} {k j x : Nat} {l : List Nat} (hx : l[j]? = some x) (h : D.at_.getD x 0 ≤ nw) : metS D nw k l (j + 1) = metS D nw k l j ++ [x] := by
  unfold metS
  rw [List.take_add_one, hx, Option.toList_some, ← List.append_assoc, List.filter_append, List.filter_cons, if_pos (decide_eq_true h)]
  rfl
theorem metS_miss {D : WD} {nw : Int} {k j x : Nat} {l : List Nat} (hx : l[j]? = some x) (h : ¬ D.at_.getD x 0 ≤ nw) : metS D nw k l (j + 1) = metS D nw k l j := by
  unfold metS
  rw [List.take_add_one, hx, Option.toList_some, ← List.append_assoc, List.filter_append, List.filter_cons, if_neg (by rw [decide_eq_true_eq]; exact h)]
  simp
theorem flat_apart {L : List (List Nat)} (hf : L.flatten.Nodup) {k : Nat} {l : List Nat} (hl : L[k]? = some l) : ((L.take k).flatten ++ l).Nodup := by
  rw [← take_flat hl]
  have e : L.flatten = (L.take (k + 1)).flatten ++ (L.drop (k + 1)).flatten := by rw [← List.flatten_append, List.take_append_drop]
  rw [e] at hf
  exact (List.nodup_append.1 hf).1
theorem metS_not {D : WD} (hf : D.L.flatten.Nodup) {nw : Int} {k j x : Nat} {l : List Nat} (hl : D.L[k]? = some l) (hx : l[j]? = some x) : x ∉ metS D nw k l j := by
  have h := flat_apart hf hl
  intro hm
  have hm := (List.mem_filter.1 hm).1
  have hj := (List.getElem?_eq_some_iff.1 hx).1
  have e : (D.L.take k).flatten ++ l = ((D.L.take k).flatten ++ l.take j) ++ l.drop j := by rw [List.append_assoc, List.take_append_drop]
  rw [e, List.nodup_append] at h
  refine h.2.2 x hm x ?_ rfl
  rw [List.drop_eq_getElem_cons hj]
  have := (List.getElem?_eq_some_iff.1 hx).2
  rw [this]
  simp
theorem metS_apart {D : WD} (hf : D.L.flatten.Nodup) {nw : Int} {k : Nat} {l : List Nat} (hl : D.L[k]? = some l) : ∀ x ∈ l, x ∉ metS D nw k [] 0 := by
  intro x hx hm
  have h := flat_apart hf hl
  have hm := (List.mem_filter.1 hm).1
  rw [List.nodup_append] at h
  simp only [List.take_nil, List.append_nil] at hm
  exact h.2.2 x hm x hx rfl
end
end Go.Proofs.Ytajhfjgndkdbnaa
