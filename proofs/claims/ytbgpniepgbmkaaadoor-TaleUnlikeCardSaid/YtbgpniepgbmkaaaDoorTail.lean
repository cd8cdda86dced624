/- A region that draws its order, whose first operations only read (and whose callees there lay nothing but blocks of their own), and whose last ones do as they like: the first are walked once, in the order of the text. No condition. -/
import Derived.Test.YtbgpniepgbmkaaaDoorOrd
import Derived.Test.YtbgpniepgbmkaaaDoorQuietB
namespace Go.Proofs.YtbgpniepgbmkaaaDoor
open Go.RowKit
section
variable {P : Program} {ops : Array Oper} {Q : Exit → Act → World → Prop} {C : World → Prop} {m s : Nat}

/-- Operation i comes ahead of operation j, whatever order is drawn. -/
inductive Anc (ops : Array Oper) : Nat → Nat → Prop
  | one {j : Nat} {o : Oper} {e : Edge} (hj : ops[j]? = some o) (he : e ∈ o.after) (hb : Region.binds .any e = true) : Anc ops j e.on
  | step {j i : Nat} {o : Oper} {e : Edge} (hj : ops[j]? = some o) (he : e ∈ o.after) (hb : Region.binds .any e = true) (h : Anc ops e.on i) : Anc ops j i
def ancB (ops : Array Oper) : Nat → Nat → Nat → Bool
  | 0, _, _ => false
  | f + 1, j, i => match ops[j]? with
    | some o => o.after.any fun e => Region.binds .any e && (e.on == i || ancB ops f e.on i)
    | none => false
theorem anc_of : ∀ {f j i : Nat}, ancB ops f j i = true → Anc ops j i
  | 0, _, _, h => by cases h
  | f + 1, j, i, h => by
    rw [ancB] at h
    cases hj : ops[j]? with
    | none => rw [hj] at h; cases h
    | some o =>
      rw [hj] at h
      simp only [Array.any_eq_true, Bool.and_eq_true, Bool.or_eq_true, beq_iff_eq] at h
      obtain ⟨k, hk, hb, h⟩ := h
      rcases h with rfl | h
      · exact .one hj (Array.getElem_mem hk) hb
      · exact .step hj (Array.getElem_mem hk) hb (anc_of h)
/-- Whatever came up, what it waits for has come up. -/
def ClosedL (ops : Array Oper) (listed : Array Bool) : Prop := ∀ (k : Nat) (o : Oper), listed.getD k false = true → ops[k]? = some o → ∀ e ∈ o.after, Region.binds .any e = true → listed.getD e.on false = true
theorem ClosedL.set {listed : Array Bool} {j : Nat} (h : ClosedL ops listed) (hj : j ∈ Region.ready .any ops listed) : ClosedL ops (listed.setIfInBounds j true) := by
  intro k o hk ho e he hb
  by_cases hjk : j = k
  · subst hjk
    obtain ⟨_, o', ho', hall⟩ := mem_ready.1 hj
    obtain rfl := Option.some.inj (ho.symm.trans ho')
    exact getD_set_true (hall e he hb)
  · rw [getD_set_ne false hjk] at hk
    exact getD_set_true (h k o hk ho e he hb)
theorem anc_listed {listed : Array Bool} (hc : ClosedL ops listed) {j i : Nat} (h : Anc ops j i) : ∀ {o : Oper}, ops[j]? = some o → (∀ e ∈ o.after, Region.binds .any e = true → listed.getD e.on false = true) → listed.getD i false = true := by
  induction h with
  | one hj he hb =>
    intro o ho hall
    obtain rfl := Option.some.inj (ho.symm.trans hj)
    exact hall _ he hb
  | @step j i o' e hj he hb h ih =>
    intro o ho hall
    obtain rfl := Option.some.inj (ho.symm.trans hj)
    have h1 := hall _ he hb
    cases hn : ops[e.on]? with
    | none =>
      cases h with
      | one hj' _ _ => rw [hn] at hj'; cases hj'
      | step hj' _ _ _ => rw [hn] at hj'; cases hj'
    | some o' => exact ih hn (hc _ _ h1 hn)
theorem ready_no {listed : Array Bool} {i : Nat} (hc : ClosedL ops listed) (hi : i ∈ Region.ready .any ops listed) (ha : Anc ops m i) : m ∉ Region.ready .any ops listed := by
  intro hm
  obtain ⟨_, o, ho, hall⟩ := mem_ready.1 hm
  exact unlisted_not (mem_ready.1 hi).1 (anc_listed hc ha ho hall) rfl
def HallL (ops : Array Oper) (m : Nat) (listed : Array Bool) : Prop := ∀ (j : Nat) (o : Oper), ops[j]? = some o → j ≠ m → Anc ops m j ∨ Anc ops j m ∨ listed.getD j false = true
theorem HallL.set {listed : Array Bool} (h : HallL ops m listed) (i : Nat) : HallL ops m (listed.setIfInBounds i true) := by
  intro j o ho hj
  rcases h j o ho hj with h | h | h
  · exact .inl h
  · exact .inr (.inl h)
  · exact .inr (.inr (getD_set_true h))
theorem lone {listed : Array Bool} {j : Nat} (hc : ClosedL ops listed) (hh : HallL ops m listed) (hm : m ∈ Region.ready .any ops listed) (hj : j ∈ Region.ready .any ops listed) : j = m := by
  rcases Nat.decEq j m with hne | he
  · obtain ⟨hju, o, ho, hall⟩ := mem_ready.1 hj
    rcases hh j o ho hne with h | h | h
    · exact absurd hm (ready_no hc hj h)
    · exact absurd rfl (unlisted_not (mem_ready.1 hm).1 (anc_listed hc h ho hall))
    · exact absurd rfl (unlisted_not hju h)
  · exact he
/-- Whatever order is drawn, till operation m may come up; then R. -/
def wpAnyP (P : Program) (ops : Array Oper) (C : World → Prop) (m : Nat) (R : Nat → Array Bool → Act → Prop) : Nat → Array Bool → Act → Prop
  | 0, listed, a => R 0 listed a
  | fuel + 1, listed, a => (m ∈ Region.ready .any ops listed → R (fuel + 1) listed a) ∧ (Region.ready .any ops listed = [] → R (fuel + 1) listed a) ∧
    (m ∉ Region.ready .any ops listed → ∀ i ∈ Region.ready .any ops listed, qOp P ops C i (wpAnyP P ops C m R fuel (listed.setIfInBounds i true)) a)
def RW (P : Program) (ops : Array Oper) (Q : Exit → Act → World → Prop) (C : World → Prop) (s fuel : Nat) (listed : Array Bool) (a : Act) : Prop := ∀ w, C w → wpAnyW P .any ops Q (fun _ => True) s fuel listed a w
theorem wpAnyW_of_P : ∀ (fuel : Nat) (listed : Array Bool) (a : Act), wpAnyP P ops C m (RW P ops Q C s) fuel listed a → ∀ w, C w → wpAnyW P .any ops Q (fun _ => True) s fuel listed a w
  | 0, _, _, h, w, hw => h w hw
  | fuel + 1, listed, a, h, w, hw => by
    by_cases hm : m ∈ Region.ready .any ops listed
    · exact h.1 hm w hw
    · exact ⟨fun h0 => (h.2.1 h0 w hw).1 h0, fun i hi => wpOp_of_qOp hw (fun a' w' hw' hK => ⟨.inr trivial, wpAnyW_of_P fuel _ a' hK w' hw'⟩) (h.2.2 hm i hi)⟩
theorem wpAnyP_first {i : Nat} {oi : Oper} {v : Value} (hi : ops[i]? = some oi) (hC : ∃ w, C w) (hsel : ∀ (j : Nat) (o : Oper) cs b, ops[j]? = some o → o.op ≠ .select cs b) (ha : Anc ops m i) :
    ∀ (fuel : Nat) (listed : Array Bool) (a : Act), ClosedL ops listed → HallL ops m listed →
      (∀ j oj, ops[j]? = some oj → j ≠ i → listed.getD j true = false → (∀ e ∈ oj.after, Region.binds .any e = true → e.on ≠ i) → oi.apart ops oj = true) →
      i ∈ Region.ready .any ops listed → YieldsIn P ops C oi v a →
      wpAnyP P ops C m (RW P ops Q C s) fuel (listed.setIfInBounds i true) (a.put oi.dst v) → wpAnyP P ops C m (RW P ops Q C s) (fuel + 1) listed a := by
  intro fuel
  induction fuel with
  | zero =>
    intro listed a hc hh _ hr hy H
    refine ⟨fun h => absurd h (ready_no hc hr ha), fun h => (by rw [h] at hr; cases hr), fun _ j hj => ?_⟩
    by_cases hji : j = i
    · subst hji; exact hy.qOp hi H
    · have h1 := ready_mono hj hji
      obtain ⟨w, hw⟩ := hC
      have h2 := (H w hw).1
      rw [h2] at h1
      cases h1
  | succ fuel ih =>
    intro listed a hc hh hfree hr hy H
    refine ⟨fun h => absurd h (ready_no hc hr ha), fun h => (by rw [h] at hr; cases hr), fun hnm j hj => ?_⟩
    by_cases hji : j = i
    · subst hji; exact hy.qOp hi H
    · have hj' := ready_mono hj hji
      have hnm' : m ∉ Region.ready .any ops (listed.setIfInBounds i true) := fun hm' => by
        have := lone (hc.set hr) (hh.set i) hm' hj'
        subst this
        exact hnm hj
      have h1 := H.2.2 hnm' j hj'
      obtain ⟨hjun, oj, hoj, hall⟩ := mem_ready.1 hj
      have hnot : ∀ e ∈ oj.after, Region.binds .any e = true → e.on ≠ i := fun e he hb => unlisted_not (mem_ready.1 hr).1 (hall e he hb)
      have h2 := qOp_put hoj (hfree j oj hoj hji hjun hnot) (fun cs b => hsel i oi cs b hi) (fun cs b => hsel j oj cs b hoj) hy h1
      have hfree' : ∀ k ok, ops[k]? = some ok → k ≠ i → (listed.setIfInBounds j true).getD k true = false →
          (∀ e ∈ ok.after, Region.binds .any e = true → e.on ≠ i) → oi.apart ops ok = true := fun k ok hk hki hun hno => by
        refine hfree k ok hk hki ?_ hno
        by_cases hjk : j = k
        · subst hjk; exact hjun
        · rw [getD_set_ne true hjk] at hun; exact hun
      refine qOp_mono (fun a' h3 => ih (listed.setIfInBounds j true) a' (hc.set hj) (hh.set j) hfree' (ready_mono hr (Ne.symm hji)) h3.1 ?_) h2
      rw [Array.setIfInBounds_comm _ _ hji]
      exact h3.2
/-- The operations from k on, one behind the other: each may come up, is apart from what may come up beside it, and comes ahead of m; then m may come up. -/
def lexQ (ops : Array Oper) (m : Nat) : Nat → Nat → Array Bool → Bool
  | 0, _, listed => (Region.ready .any ops listed).contains m
  | n + 1, k, listed => (Region.ready .any ops listed).contains k && Region.free .any ops listed k && ancB ops ops.size m k && lexQ ops m n (k + 1) (listed.setIfInBounds k true)
def setFrom : Nat → Nat → Array Bool → Array Bool
  | 0, _, listed => listed
  | n + 1, k, listed => setFrom n (k + 1) (listed.setIfInBounds k true)
theorem wpAnyP_lex (hs : Region.noSelect ops = true) (hC : ∃ w, C w) (fuel : Nat) : ∀ (l : List Oper) (k : Nat) (listed : Array Bool) (a : Act), (∀ j, j < l.length → l[j]? = ops[k + j]?) → ClosedL ops listed → HallL ops m listed →
    lexQ ops m l.length k listed = true → wpQuiet P ops C (fun a' => RW P ops Q C s (fuel + 1) (setFrom l.length k listed) a') l a → wpAnyP P ops C m (RW P ops Q C s) (l.length + (fuel + 1)) listed a
  | [], k, listed, a, _, _, _, hB, h => by
    have hm : m ∈ Region.ready .any ops listed := by simpa [lexQ] using hB
    rw [List.length_nil, Nat.zero_add]
    exact ⟨fun _ => h, fun _ => h, fun h0 => absurd hm h0⟩
  | o :: l, k, listed, a, hl, hc, hh, hB, h => by
    have h0 : ops[k]? = some o := by simpa using (hl 0 (by simp)).symm
    simp only [List.length_cons, lexQ, Bool.and_eq_true] at hB
    obtain ⟨⟨⟨hr, hf⟩, hab⟩, hB'⟩ := hB
    have hr' : k ∈ Region.ready .any ops listed := by simpa using hr
    have hst : qOp P ops C k (wpQuiet P ops C (fun a' => RW P ops Q C s (fuel + 1) (setFrom (o :: l).length k listed) a') l) a := by unfold qOp; simp only [h0]; exact h
    obtain ⟨v, hy, hK⟩ := yieldsIn_of_qOp h0 hst
    rw [List.length_cons, Nat.add_right_comm]
    exact wpAnyP_first h0 hC (Region.noSelect_spec hs) (anc_of hab) _ listed a hc hh (Region.free_spec h0 hf) hr' hy
      (wpAnyP_lex hs hC fuel l (k + 1) _ _ (fun j hj => by have := hl (j + 1) (by simpa using hj); simpa [Nat.add_assoc, Nat.add_comm 1 j] using this) (hc.set hr') (hh.set k) hB' hK)
def closedB (ops : Array Oper) (listed : Array Bool) : Bool := (List.range ops.size).all fun k => match ops[k]? with
  | some o => !(listed.getD k false) || o.after.all fun e => !(Region.binds .any e) || listed.getD e.on false
  | none => true
theorem closed_of {listed : Array Bool} (h : closedB ops listed = true) : ClosedL ops listed := by
  intro k o hk ho e he hb
  have hlt : k < ops.size := (Array.getElem?_eq_some_iff.1 ho).1
  have h1 := List.all_eq_true.1 h k (List.mem_range.2 hlt)
  rw [ho] at h1
  simp only [hk, Bool.not_true, Bool.false_or] at h1
  obtain ⟨i, hi, rfl⟩ := Array.mem_iff_getElem.1 he
  have h2 := Array.all_eq_true.1 h1 i hi
  simpa [hb] using h2
def hallB (ops : Array Oper) (m : Nat) (listed : Array Bool) : Bool := (List.range ops.size).all fun j => j == m || ancB ops ops.size m j || ancB ops ops.size j m || listed.getD j false
theorem hall_of {listed : Array Bool} (h : hallB ops m listed = true) : HallL ops m listed := by
  intro j o ho hj
  have hlt : j < ops.size := (Array.getElem?_eq_some_iff.1 ho).1
  have h1 := List.all_eq_true.1 h j (List.mem_range.2 hlt)
  simp only [Bool.or_eq_true, beq_iff_eq] at h1
  rcases h1 with ((h1 | h1) | h1) | h1
  · exact absurd h1 hj
  · exact .inl (anc_of h1)
  · exact .inr (.inl (anc_of h1))
  · exact .inr (.inr h1)
end
/-- THE LAW: operations k .. k + n - 1 of the region are walked in their order, in the class of the worlds that keep what w holds; then operation m may come up. -/
theorem wpAnyW_phase {P : Program} {lo : List Oper} {Q : Exit → Act → World → Prop} {s fuel : Nat} (k n m : Nat) {F : Nat} {listed : Array Bool} {a : Act} {w w0 : World} (hF : (F == n + (fuel + 1)) = true) (hn : (((lo.drop k).take n).length == n) = true)
    (hs : Region.noSelect lo.toArray = true) (hc : closedB lo.toArray listed = true) (hh : hallB lo.toArray m listed = true) (hB : lexQ lo.toArray m n k listed = true) (hw : Below w0.heap.size w0 w)
    (h : wpQuiet P lo.toArray (fun w' => ∃ t : BW w0, w' = t.at_) (fun a' => ∀ w', (∃ t : BW w0, w' = t.at_) → wpAnyW P .any lo.toArray Q (fun _ => True) s (fuel + 1) (setFrom n k listed) a' w') ((lo.drop k).take n) a) :
    wpAnyW P .any lo.toArray Q (fun _ => True) s F listed a w := by
  have hF : F = n + (fuel + 1) := by simpa using hF
  have hn : ((lo.drop k).take n).length = n := by simpa using hn
  subst hF
  have hx := wpAnyP_lex (P := P) (Q := Q) (s := s) (C := fun w' => ∃ t : BW w0, w' = t.at_) (m := m) hs ⟨w, ⟨w, hw⟩, rfl⟩ fuel ((lo.drop k).take n) k listed a (fun j hj => by
    rw [hn] at hj
    rw [List.getElem?_take_of_lt hj, List.getElem?_drop, List.getElem?_toArray]) (closed_of hc) (hall_of hh) (by rw [hn]; exact hB) (by rw [hn]; exact h)
  rw [hn] at hx
  exact wpAnyW_of_P _ _ _ hx w ⟨⟨w, hw⟩, rfl⟩
end Go.Proofs.YtbgpniepgbmkaaaDoor
