/- A region that draws its order, walked with its loads first: what the loads read is owed behind each operation only until the region's first store has come up. No condition. -/
import Derived.Test.YtbgpniepgbmkaaaDoorBase
import Derived.Deep.RegionHeld3
namespace Go.Proofs.YtbgpniepgbmkaaaDoor
section
variable {P : Program} {ops : Array Oper} {Q : Exit → Act → World → Prop} {md : Region.Mode} {T : World → Prop} {s : Nat}

/-- What is owed: T, while operation s has not come up. -/
def Owed (T : World → Prop) (s : Nat) (listed : Array Bool) (w : World) : Prop := listed.getD s false = true ∨ T w
def wpAnyW (P : Program) (md : Region.Mode) (ops : Array Oper) (Q : Exit → Act → World → Prop) (T : World → Prop) (s : Nat) : Nat → Array Bool → Act → World → Prop
  | 0, listed, a, w => Region.ready md ops listed = [] ∧ Q .normal a w
  | fuel + 1, listed, a, w =>
    (Region.ready md ops listed = [] → Q .normal a w) ∧
    ∀ i ∈ Region.ready md ops listed, wpOp P ops Q i (fun a' w' => Owed T s (listed.setIfInBounds i true) w' ∧ wpAnyW P md ops Q T s fuel (listed.setIfInBounds i true) a' w') a w
theorem wpAny_of_W : ∀ (fuel : Nat) (listed : Array Bool) (a : Act) (w : World), wpAnyW P md ops Q T s fuel listed a w → wpAny P md ops Q fuel listed a w
  | 0, _, _, _, h => h
  | fuel + 1, _, _, _, h => ⟨h.1, fun i hi => wpOp_mono (fun a' w' h' => wpAny_of_W fuel _ a' w' h'.2) (h.2 i hi)⟩
theorem wp_region_W {id : Nat} {a : Act} {w : World} (n s : Nat) (T : World → Prop) (hm : P.follows .mixedOrders = true) (hn : (ops.size == n) = true) (h0 : T w.drew)
    (h : T w.drew → wpAnyW P .any ops Q T s n (Array.replicate n false) a w.drew) : (Code.region id ops true).wp P Q a w := by
  have hn : ops.size = n := by simpa using hn
  subst hn
  exact wp_region_any hm (wpAny_of_W _ _ _ _ (h h0))
theorem unlisted_not {i : Nat} {listed : Array Bool} {e : Nat} (hr : listed.getD i true = false) (h1 : listed.getD e false = true) : e ≠ i := by
  rintro rfl
  rcases Nat.lt_or_ge e listed.size with h' | h'
  · simp [h'] at hr h1; rw [hr] at h1; cases h1
  · simp [Array.getElem?_eq_none h'] at h1
/-- An operation that yields its value while T holds may be taken first, if the region's operation s waits for it. -/
theorem wpAnyW_first {i : Nat} {oi os : Oper} {v : Value} (hi : ops[i]? = some oi) (hso : ops[s]? = some os) (hsw : ∃ e ∈ os.after, Region.binds md e = true ∧ e.on = i) (his : i ≠ s)
    (hsel : ∀ (j : Nat) (o : Oper) cs b, ops[j]? = some o → o.op ≠ .select cs b) (hQ : ∀ c a w, Q (.panic c) (a.put oi.dst v) w → Q (.panic c) a w) :
    ∀ (fuel : Nat) (listed : Array Bool) (a : Act) (w : World),
      (∀ j oj, ops[j]? = some oj → j ≠ i → listed.getD j true = false → (∀ e ∈ oj.after, Region.binds md e = true → e.on ≠ i) → oi.apart ops oj = true) →
      i ∈ Region.ready md ops listed → listed.getD s false = false → YieldsIf P ops T oi v a → T w →
      wpAnyW P md ops Q T s fuel (listed.setIfInBounds i true) (a.put oi.dst v) w → wpAnyW P md ops Q T s (fuel + 1) listed a w := by
  intro fuel
  induction fuel with
  | zero =>
    intro listed a w _ hr hs hy hT H
    refine ⟨fun h => (by rw [h] at hr; cases hr), fun j hj => ?_⟩
    by_cases hji : j = i
    · subst hji; exact hy.wpOp hi hT ⟨.inr hT, H⟩
    · have := ready_mono hj hji
      rw [H.1] at this
      cases this
  | succ fuel ih =>
    intro listed a w hfree hr hs hy hT H
    refine ⟨fun h => (by rw [h] at hr; cases hr), fun j hj => ?_⟩
    by_cases hji : j = i
    · subst hji; exact hy.wpOp hi hT ⟨.inr hT, H⟩
    · have h1 := H.2 j (ready_mono hj hji)
      obtain ⟨hjun, oj, hoj, hall⟩ := mem_ready.1 hj
      have hnot : ∀ e ∈ oj.after, Region.binds md e = true → e.on ≠ i := fun e he hb => unlisted_not (mem_ready.1 hr).1 (hall e he hb)
      have hjs : j ≠ s := by
        rintro rfl
        rw [hoj] at hso
        injection hso with hso
        subst hso
        obtain ⟨e, he, hb, hei⟩ := hsw
        exact hnot e he hb hei
      have h2 := wpOp_putIf hoj (hfree j oj hoj hji hjun hnot) (fun cs b => hsel i oi cs b hi) (fun cs b => hsel j oj cs b hoj) hQ hy h1
      have hfree' : ∀ k ok, ops[k]? = some ok → k ≠ i → (listed.setIfInBounds j true).getD k true = false →
          (∀ e ∈ ok.after, Region.binds md e = true → e.on ≠ i) → oi.apart ops ok = true := fun k ok hk hki hun hno => by
        refine hfree k ok hk hki ?_ hno
        by_cases hjk : j = k
        · subst hjk; exact hjun
        · rw [getD_set_ne true hjk] at hun; exact hun
      have hs' : (listed.setIfInBounds j true).getD s false = false := by rw [getD_set_ne false hjs]; exact hs
      refine wpOp_mono (fun a' w' h3 => ?_) h2
      have hT' : T w' := by
        rcases h3.2.1 with h4 | h4
        · rw [getD_set_ne false hjs, getD_set_ne false his, hs] at h4; cases h4
        · exact h4
      refine ⟨.inr hT', ih (listed.setIfInBounds j true) a' w' hfree' (ready_mono hr (Ne.symm hji)) hs' h3.1 hT' ?_⟩
      rw [Array.setIfInBounds_comm _ _ hji]
      exact h3.2.2
/-- An operation that yields its value in whatever world may be taken first. -/
theorem wpAnyW_any {i : Nat} {oi : Oper} {v : Value} (hi : ops[i]? = some oi) (his : i ≠ s)
    (hsel : ∀ (j : Nat) (o : Oper) cs b, ops[j]? = some o → o.op ≠ .select cs b) (hQ : ∀ c a w, Q (.panic c) (a.put oi.dst v) w → Q (.panic c) a w) :
    ∀ (fuel : Nat) (listed : Array Bool) (a : Act) (w : World),
      (∀ j oj, ops[j]? = some oj → j ≠ i → listed.getD j true = false → (∀ e ∈ oj.after, Region.binds md e = true → e.on ≠ i) → oi.apart ops oj = true) →
      i ∈ Region.ready md ops listed → YieldsIf P ops (fun _ => True) oi v a → Owed T s listed w →
      wpAnyW P md ops Q T s fuel (listed.setIfInBounds i true) (a.put oi.dst v) w → wpAnyW P md ops Q T s (fuel + 1) listed a w := by
  have owed : ∀ (listed : Array Bool) (w : World), Owed T s (listed.setIfInBounds i true) w ↔ Owed T s listed w := fun listed w => by
    unfold Owed; rw [getD_set_ne false his]
  intro fuel
  induction fuel with
  | zero =>
    intro listed a w _ hr hy hT H
    refine ⟨fun h => (by rw [h] at hr; cases hr), fun j hj => ?_⟩
    by_cases hji : j = i
    · subst hji; exact hy.wpOp hi trivial ⟨(owed listed w).2 hT, H⟩
    · have := ready_mono hj hji
      rw [H.1] at this
      cases this
  | succ fuel ih =>
    intro listed a w hfree hr hy hT H
    refine ⟨fun h => (by rw [h] at hr; cases hr), fun j hj => ?_⟩
    by_cases hji : j = i
    · subst hji; exact hy.wpOp hi trivial ⟨(owed listed w).2 hT, H⟩
    · have h1 := H.2 j (ready_mono hj hji)
      obtain ⟨hjun, oj, hoj, hall⟩ := mem_ready.1 hj
      have hnot : ∀ e ∈ oj.after, Region.binds md e = true → e.on ≠ i := fun e he hb => unlisted_not (mem_ready.1 hr).1 (hall e he hb)
      have h2 := wpOp_putIf hoj (hfree j oj hoj hji hjun hnot) (fun cs b => hsel i oi cs b hi) (fun cs b => hsel j oj cs b hoj) hQ hy h1
      have hfree' : ∀ k ok, ops[k]? = some ok → k ≠ i → (listed.setIfInBounds j true).getD k true = false →
          (∀ e ∈ ok.after, Region.binds md e = true → e.on ≠ i) → oi.apart ops ok = true := fun k ok hk hki hun hno => by
        refine hfree k ok hk hki ?_ hno
        by_cases hjk : j = k
        · subst hjk; exact hjun
        · rw [getD_set_ne true hjk] at hun; exact hun
      refine wpOp_mono (fun a' w' h3 => ?_) h2
      have hT' : Owed T s (listed.setIfInBounds j true) w' := by
        have h4 := h3.2.1
        rw [Array.setIfInBounds_comm _ _ (Ne.symm hji)] at h4
        exact (owed _ _).1 h4
      refine ⟨hT', ih (listed.setIfInBounds j true) a' w' hfree' (ready_mono hr (Ne.symm hji)) h3.1 hT' ?_⟩
      rw [Array.setIfInBounds_comm _ _ hji]
      exact h3.2.2

def waitsFor (md : Region.Mode) (ops : Array Oper) (s i : Nat) : Bool :=
  i != s && match ops[s]? with
    | some os => os.after.any fun e => Region.binds md e && e.on == i
    | none => false
theorem wpAnyW_load {i : Nat} {oi : Oper} {v : Value} {fuel : Nat} {listed : Array Bool} {a : Act} {w : World} (d : Option Tmp) (hi : ops[i]? = some oi) (hd : oi.dst = d)
    (hn : Region.noSelect ops = true) (hf : Region.free md ops listed i = true) (hr : (Region.ready md ops listed).contains i = true) (hw : waitsFor md ops s i = true) (hs : listed.getD s false = false)
    (hQ : ∀ c a w, Q (.panic c) (a.put d v) w → Q (.panic c) a w) (hy : YieldsIf P ops T oi v a) (hT : T w)
    (h : wpAnyW P md ops Q T s fuel (listed.setIfInBounds i true) (a.put d v) w) : wpAnyW P md ops Q T s (fuel + 1) listed a w := by
  subst hd
  simp only [waitsFor, Bool.and_eq_true, bne_iff_ne] at hw
  obtain ⟨h1, h2⟩ := hw
  cases hso : ops[s]? with
  | none => rw [hso] at h2; cases h2
  | some os =>
    rw [hso] at h2
    simp only [Array.any_eq_true, Bool.and_eq_true, beq_iff_eq] at h2
    obtain ⟨k, hk, hb, he⟩ := h2
    exact wpAnyW_first hi hso ⟨_, Array.getElem_mem hk, hb, he⟩ h1 (Region.noSelect_spec hn) hQ fuel listed a w (Region.free_spec hi hf) (by simpa using hr) hs hy hT h
theorem wpAnyW_take {i : Nat} {oi : Oper} {v : Value} {fuel : Nat} {listed : Array Bool} {a : Act} {w : World} (d : Option Tmp) (hi : ops[i]? = some oi) (hd : oi.dst = d)
    (hn : Region.noSelect ops = true) (hf : Region.free md ops listed i = true) (hr : (Region.ready md ops listed).contains i = true) (hw : (i != s) = true)
    (hQ : ∀ c a w, Q (.panic c) (a.put d v) w → Q (.panic c) a w) (hy : YieldsIf P ops (fun _ => True) oi v a) (hT : Owed T s listed w)
    (h : wpAnyW P md ops Q T s fuel (listed.setIfInBounds i true) (a.put d v) w) : wpAnyW P md ops Q T s (fuel + 1) listed a w := by
  subst hd
  exact wpAnyW_any hi (by simpa using hw) (Region.noSelect_spec hn) hQ fuel listed a w (Region.free_spec hi hf) (by simpa using hr) hy hT h
/-- One operation alone may come up: it is carried out. -/
theorem wpAnyW_one {i : Nat} {o : Oper} {fuel : Nat} {listed : Array Bool} {a : Act} {w : World} (hr : Region.ready md ops listed = [i]) (ho : ops[i]? = some o)
    (h : ∀ K' : Act → World → Prop, Shut (∀ a w, Owed T s (listed.setIfInBounds i true) w → wpAnyW P md ops Q T s fuel (listed.setIfInBounds i true) a w → K' a w) → if Region.wanted o (yielded ops a.tmps) = true then Oper.wp P o a w K' Q else K' (a.put o.dst undef) w) :
    wpAnyW P md ops Q T s (fuel + 1) listed a w :=
  ⟨(fun h0 => by rw [h0] at hr; cases hr), fun j hj => by
    rw [hr] at hj
    obtain rfl : j = i := by simpa using hj
    exact wpOp_step ho (fun K' hK => h K' (fun a w hS hW => hK a w ⟨hS, hW⟩))⟩
/-- Two may come up. -/
theorem wpAnyW_two {i j : Nat} {oi oj : Oper} {fuel : Nat} {listed : Array Bool} {a : Act} {w : World} (hr : Region.ready md ops listed = [i, j]) (hi : ops[i]? = some oi) (hj : ops[j]? = some oj)
    (h : ∀ K' : Act → World → Prop, Shut (∀ a w, Owed T s (listed.setIfInBounds i true) w → wpAnyW P md ops Q T s fuel (listed.setIfInBounds i true) a w → K' a w) → if Region.wanted oi (yielded ops a.tmps) = true then Oper.wp P oi a w K' Q else K' (a.put oi.dst undef) w)
    (h' : ∀ K' : Act → World → Prop, Shut (∀ a w, Owed T s (listed.setIfInBounds j true) w → wpAnyW P md ops Q T s fuel (listed.setIfInBounds j true) a w → K' a w) → if Region.wanted oj (yielded ops a.tmps) = true then Oper.wp P oj a w K' Q else K' (a.put oj.dst undef) w) :
    wpAnyW P md ops Q T s (fuel + 1) listed a w :=
  ⟨(fun h0 => by rw [h0] at hr; cases hr), fun k hk => by
    rw [hr] at hk
    rcases (show k = i ∨ k = j by simpa using hk) with rfl | rfl
    · exact wpOp_step hi (fun K' hK => h K' (fun a w hS hW => hK a w ⟨hS, hW⟩))
    · exact wpOp_step hj (fun K' hK => h' K' (fun a w hS hW => hK a w ⟨hS, hW⟩))⟩
theorem wpAnyW_done {fuel : Nat} {listed : Array Bool} {a : Act} {w : World} (hr : Region.ready md ops listed = []) (h : Q .normal a w) : wpAnyW P md ops Q T s fuel listed a w := by
  cases fuel with
  | zero => exact ⟨hr, h⟩
  | succ n => exact ⟨fun _ => h, fun i hi => by rw [hr] at hi; cases hi⟩
/-- Behind an operation: T is shown anew; or operation s has come up, and nothing is owed any more. -/
theorem step_owe {K' : Act → World → Prop} {fuel : Nat} {L : Array Bool} {a : Act} {w : World} (hK : Shut (∀ a w, Owed T s L w → wpAnyW P md ops Q T s fuel L a w → K' a w)) (hT : T w) (h : T w → wpAnyW P md ops Q T s fuel L a w) : K' a w :=
  hK.out _ _ (.inr hT) (h hT)
theorem step_paid {K' : Act → World → Prop} {fuel : Nat} {L : Array Bool} {a : Act} {w : World} (hK : Shut (∀ a w, Owed T s L w → wpAnyW P md ops Q T s fuel L a w → K' a w)) (hs : L.getD s false = true) (h : wpAnyW P md ops Q T s fuel L a w) : K' a w :=
  hK.out _ _ (.inl hs) h
end
end Go.Proofs.YtbgpniepgbmkaaaDoor
