/- Timers as plain lists: what lies in memory (WD), and the list of those that are set, by when they are due (M). No program in sight. -/
import Derived.Test.YtajhfjgndkdbnaaOnePure
namespace Go.Proofs.Ytajhfjgndkdbnaa

/-- What lies in memory: the queues, when each is due, when each was set, and the count. -/
structure WD where
  L : List (List Nat)
  at_ : List Int
  turn : List Int
  now : Int
/-- Who is due first. -/
def wlt (turn : List Int) (p q : Int × Nat) : Prop := p.1 < q.1 ∨ (p.1 = q.1 ∧ turn.getD p.2 0 < turn.getD q.2 0)
theorem wlt_trans {turn : List Int} {p q r : Int × Nat} (h : wlt turn p q) (k : wlt turn q r) : wlt turn p r := by
  unfold wlt at *
  omega
theorem wlt_irrefl {turn : List Int} {p : Int × Nat} (h : wlt turn p p) : False := by
  unfold wlt at h
  omega
structure WOk (N : Nat) (D : WD) (M : List (Int × Nat)) : Prop where
  l16 : D.L.length = 16
  flat : D.L.flatten.Nodup
  atl : D.at_.length = N
  tul : D.turn.length = N
  mem : ∀ x ∈ D.L.flatten, ∃ a, (a, x) ∈ M
  ent : ∀ a x, (a, x) ∈ M → x < N ∧ D.at_[x]? = some a ∧ 0 ≤ a ∧ a ≤ 4611686018427387904 ∧ ∃ l, D.L[(a % 16).toNat]? = some l ∧ x ∈ l
  nd : (M.map (·.2)).Nodup
  srt : M.Pairwise (wlt D.turn)
  tb : ∀ p ∈ M, D.turn.getD p.2 0 ≤ D.now
def stopM (M : List (Int × Nat)) (x : Int) : List (Int × Nat) := M.filter (fun p => decide ((p.2 : Int) ≠ x))
def insM (M : List (Int × Nat)) (a : Int) (x : Nat) : List (Int × Nat) := (stopM M x).takeWhile (fun p => decide (p.1 ≤ a)) ++ (a, x) :: (stopM M x).dropWhile (fun p => decide (p.1 ≤ a))
def hasM (M : List (Int × Nat)) (x : Int) : Bool := M.any (fun p => decide ((p.2 : Int) = x))
def heldT (t : Int) : Int := max 0 (min t 4611686018427387904)
theorem heldT_bd (t : Int) : 0 ≤ heldT t ∧ heldT t ≤ 4611686018427387904 := by unfold heldT; omega
theorem hasM_iff {M : List (Int × Nat)} {x : Nat} : hasM M x = true ↔ ∃ a, (a, x) ∈ M := by
  unfold hasM
  rw [List.any_eq_true]
  constructor
  · rintro ⟨⟨a, y⟩, hp, h⟩
    have : y = x := by simp only [decide_eq_true_eq] at h; omega
    subst this
    exact ⟨a, hp⟩
  · rintro ⟨a, h⟩
    exact ⟨_, h, by simp⟩
theorem WOk.new (N : Nat) : WOk N ⟨List.replicate 16 [], List.replicate N 0, List.replicate N 0, 0⟩ [] :=
  ⟨by simp, by simp, by simp, by simp, by simp, by simp, by simp, by simp, by simp⟩
theorem flat_mem {L : List (List Nat)} {q x : Nat} {l : List Nat} (hl : L[q]? = some l) (hx : x ∈ l) : x ∈ L.flatten := List.mem_flatten.2 ⟨l, List.mem_of_getElem? hl, hx⟩
theorem hasL_flat {L : List (List Nat)} {x : Nat} : hasL L x = true ↔ x ∈ L.flatten := by
  rw [hasL_iff, List.mem_flatten]
  constructor
  · rintro ⟨i, l, hl, hx⟩
    exact ⟨l, List.mem_of_getElem? hl, hx⟩
  · rintro ⟨l, hl, hx⟩
    obtain ⟨i, hi, rfl⟩ := List.getElem_of_mem hl
    exact ⟨i, _, List.getElem?_eq_getElem hi, hx⟩
section
variable {N : Nat} {D : WD} {M : List (Int × Nat)}
theorem WOk.has (h : WOk N D M) (x : Nat) : hasL D.L x = hasM M x := by
  rw [Bool.eq_iff_iff, hasL_flat, hasM_iff]
  constructor
  · exact h.mem x
  · rintro ⟨a, ha⟩
    obtain ⟨_, _, _, _, l, hl, hx⟩ := h.ent a x ha
    exact flat_mem hl hx
theorem WOk.one (h : WOk N D M) {a b : Int} {x : Nat} (ha : (a, x) ∈ M) (hb : (b, x) ∈ M) : a = b := by
  have h1 := (h.ent a x ha).2.1
  rw [(h.ent b x hb).2.1] at h1
  injection h1 with h1
  exact h1.symm
theorem flat_erase {L : List (List Nat)} (h : L.flatten.Nodup) (x : Nat) : (L.map (fun l => l.erase x)).flatten = L.flatten.erase x := by
  induction L with
  | nil => rfl
  | cons l L ih =>
    rw [List.flatten_cons] at h
    obtain ⟨h1, h2, h3⟩ := List.nodup_append.1 h
    rw [List.map_cons, List.flatten_cons, ih h2, List.flatten_cons, List.erase_append]
    split
    · rename_i hx
      rw [List.erase_of_not_mem (fun hm => h3 x hx x hm rfl)]
    · rename_i hx
      rw [List.erase_of_not_mem hx]
theorem WOk.stop (h : WOk N D M) (x : Int) : WOk N { D with L := (removeL D.L x).2 } (stopM M x) ∧ (removeL D.L x).1 = hasM M x := by
  unfold removeL
  by_cases hc : 0 ≤ x ∧ hasL D.L x.toNat = true
  · rw [if_pos hc]
    obtain ⟨y, rfl⟩ : ∃ y : Nat, x = y := ⟨x.toNat, by omega⟩
    rw [Int.toNat_natCast] at hc ⊢
    refine ⟨⟨by simpa using h.l16, ?_, h.atl, h.tul, fun z hz => ?_, fun a z hz => ?_, ?_, h.srt.sublist List.filter_sublist, fun p hp => h.tb p ((List.mem_filter.1 hp).1)⟩, by rw [← h.has]; exact hc.2.symm⟩
    · show (List.map _ D.L).flatten.Nodup
      rw [flat_erase h.flat]
      exact h.flat.erase y
    · have hz' : z ∈ D.L.flatten.erase y := by
        rw [← flat_erase h.flat]; exact hz
      obtain ⟨hne, hz'⟩ := (List.Nodup.mem_erase_iff h.flat).1 hz'
      obtain ⟨a, ha⟩ := h.mem z hz'
      exact ⟨a, List.mem_filter.2 ⟨ha, by simp; omega⟩⟩
    · obtain ⟨hm, hne⟩ := List.mem_filter.1 hz
      have hne' : z ≠ y := by simp at hne; omega
      obtain ⟨h1, h2, h3, h4, l, hl, hzl⟩ := h.ent a z hm
      refine ⟨h1, h2, h3, h4, l.erase y, ?_, (List.mem_erase_of_ne hne').2 hzl⟩
      show (List.map _ D.L)[_]? = _
      rw [List.getElem?_map, hl]
      rfl
    · exact List.Nodup.sublist (List.Sublist.map (fun p : Int × Nat => p.2) (List.filter_sublist (p := fun p : Int × Nat => decide ((p.2 : Int) ≠ (y : Int))) (l := M))) h.nd
  · rw [if_neg hc]
    have hno : hasM M x = false := by
      cases hh : hasM M x with
      | false => rfl
      | true =>
        exfalso
        unfold hasM at hh
        rw [List.any_eq_true] at hh
        obtain ⟨⟨a, y⟩, hp, hy⟩ := hh
        have hy' : (y : Int) = x := by simpa using hy
        subst hy'
        refine hc ⟨by omega, ?_⟩
        rw [Int.toNat_natCast, h.has, hasM_iff]
        exact ⟨a, hp⟩
    have hst : stopM M x = M := by
      unfold stopM
      rw [List.filter_eq_self]
      intro p hp
      unfold hasM at hno
      rw [List.any_eq_false] at hno
      have := hno p hp
      simpa using this
    rw [hst]
    exact ⟨h, hno.symm⟩
theorem flat_push_mem {L : List (List Nat)} {m x z : Nat} {l0 : List Nat} (hl : L[m]? = some l0) (hz : z ∈ (L.set m (l0 ++ [x])).flatten) : z = x ∨ z ∈ L.flatten := by
  obtain ⟨l, hl2, hzl⟩ := List.mem_flatten.1 hz
  rcases List.mem_or_eq_of_mem_set hl2 with h | rfl
  · exact .inr (List.mem_flatten.2 ⟨l, h, hzl⟩)
  · rw [List.mem_append, List.mem_singleton] at hzl
    rcases hzl with h | h
    · exact .inr (flat_mem hl h)
    · exact .inl h
theorem flat_push : ∀ {L : List (List Nat)} {m x : Nat} {l0 : List Nat}, L.flatten.Nodup → L[m]? = some l0 → x ∉ L.flatten → (L.set m (l0 ++ [x])).flatten.Nodup
  | [], m, x, l0, _, hl, _ => by simp at hl
  | l :: L, 0, x, l0, h, hl, hx => by
    simp only [List.getElem?_cons_zero, Option.some.injEq] at hl
    subst hl
    rw [List.set_cons_zero, List.flatten_cons]
    rw [List.flatten_cons] at h hx
    obtain ⟨h1, h2, h3⟩ := List.nodup_append.1 h
    rw [List.mem_append] at hx
    rw [List.nodup_append, List.nodup_append]
    refine ⟨⟨h1, by simp, fun a ha b hb e => ?_⟩, h2, fun a ha b hb e => ?_⟩
    · rw [List.mem_singleton] at hb
      subst hb e
      exact hx (.inl ha)
    · rw [List.mem_append, List.mem_singleton] at ha
      rcases ha with ha | rfl
      · exact h3 a ha b hb e
      · subst e
        exact hx (.inr hb)
  | l :: L, m + 1, x, l0, h, hl, hx => by
    rw [List.getElem?_cons_succ] at hl
    rw [List.set_cons_succ, List.flatten_cons]
    rw [List.flatten_cons] at h hx
    obtain ⟨h1, h2, h3⟩ := List.nodup_append.1 h
    rw [List.mem_append] at hx
    rw [List.nodup_append]
    refine ⟨h1, flat_push h2 hl (fun e => hx (.inr e)), fun a ha b hb e => ?_⟩
    rcases flat_push_mem hl hb with rfl | hb
    · subst e
      exact hx (.inl ha)
    · exact h3 a ha b hb e
theorem pairwise_or {α : Type} {R : α → α → Prop} : ∀ {l : List α}, l.Pairwise R → ∀ {x y : α}, x ∈ l → y ∈ l → x ≠ y → R x y ∨ R y x
  | [], _, x, _, hx, _, _ => by cases hx
  | a :: l, h, x, y, hx, hy, hn => by
    rw [List.pairwise_cons] at h
    rcases List.mem_cons.1 hx with e1 | k1
    · rcases List.mem_cons.1 hy with e2 | k2
      · exact absurd (e1.trans e2.symm) hn
      · rw [e1]; exact .inl (h.1 y k2)
    · rcases List.mem_cons.1 hy with e2 | k2
      · rw [e2]; exact .inr (h.1 x k1)
      · exact pairwise_or h.2 k1 k2 hn
theorem split_sorted (a : Int) : ∀ M : List (Int × Nat), M.Pairwise (fun p q => p.1 ≤ q.1) → M.takeWhile (fun p => decide (p.1 ≤ a)) = M.filter (fun p => decide (p.1 ≤ a)) ∧ M.dropWhile (fun p => decide (p.1 ≤ a)) = M.filter (fun p => decide (a < p.1))
  | [], _ => by simp
  | p :: M, h => by
    rw [List.pairwise_cons] at h
    obtain ⟨i1, i2⟩ := split_sorted a M h.2
    by_cases hp : p.1 ≤ a
    · have hp' : ¬ a < p.1 := by omega
      rw [List.takeWhile_cons, List.dropWhile_cons, List.filter_cons, List.filter_cons]
      simp only [hp, hp', decide_true, decide_false, if_true, i1, i2]
      simp
    · have hall : ∀ q ∈ M, a < q.1 := fun q hq => by have := h.1 q hq; omega
      have f1 : M.filter (fun p => decide (p.1 ≤ a)) = [] := by
        rw [List.filter_eq_nil_iff]
        intro q hq
        have := hall q hq
        simp; omega
      have f2 : M.filter (fun p => decide (a < p.1)) = M := by
        rw [List.filter_eq_self]
        intro q hq
        simpa using hall q hq
      have hp' : a < p.1 := by omega
      rw [List.takeWhile_cons, List.dropWhile_cons, List.filter_cons, List.filter_cons, f1, f2]
      simp only [hp, hp', decide_true, decide_false, if_true]
      simp
theorem WOk.le (h : WOk N D M) : M.Pairwise (fun p q => p.1 ≤ q.1) := h.srt.imp (fun {p q} hpq => by unfold wlt at hpq; omega)
theorem hasM_stop (M : List (Int × Nat)) (x : Nat) : hasM (stopM M x) x = false := by
  unfold hasM stopM
  rw [List.any_eq_false]
  intro p hp
  have := (List.mem_filter.1 hp).2
  simpa using this
theorem getD_set_ne {l : List Int} {i j : Nat} {v : Int} (h : i ≠ j) : (l.set i v).getD j 0 = l.getD j 0 := by
  simp only [List.getD_eq_getElem?_getD, List.getElem?_set_ne h]
theorem WOk.set (h : WOk N D M) {x : Nat} (hx : x < N) (t : Int) :
    WOk N ⟨(pushL (removeL D.L x).2 N (heldT t % 16) x).2, D.at_.set x (heldT t), D.turn.set x (D.now + 1), D.now + 1⟩ (insM M (heldT t) x) ∧ (pushL (removeL D.L x).2 N (heldT t % 16) x).1 = true := by
  obtain ⟨h1, h2⟩ := heldT_bd t
  generalize heldT t = a at *
  obtain ⟨hs, _⟩ := h.stop x
  have hno : hasL (removeL D.L x).2 x = false := by rw [hs.has x]; exact hasM_stop M x
  have hl16 := hs.l16
  simp only at hl16
  obtain ⟨m, hm⟩ : ∃ m : Nat, a % 16 = m := ⟨(a % 16).toNat, by omega⟩
  have hm16 : m < 16 := by omega
  obtain ⟨l0, hl0⟩ : ∃ l0, (removeL D.L x).2[m]? = some l0 := ⟨_, List.getElem?_eq_getElem (by omega)⟩
  have hpush : pushL (removeL D.L x).2 N (a % 16) x = (true, (removeL D.L x).2.set m (l0 ++ [x])) := by
    unfold pushL
    rw [hm, if_pos ⟨by omega, by rw [hl16]; omega, by omega, by omega, by simpa using hno⟩]
    simp [hl0]
  rw [hpush]
  refine ⟨?_, rfl⟩
  have hxf : x ∉ (removeL D.L x).2.flatten := fun hm => by rw [← hasL_flat, hno] at hm; cases hm
  have hMx : ∀ p ∈ stopM M x, p.2 ≠ x := fun p hp e => by have := (List.mem_filter.1 hp).2; simp [e] at this
  obtain ⟨st, sd⟩ := split_sorted a (stopM M x) hs.le
  have hmem : ∀ p, p ∈ insM M a x ↔ p = (a, x) ∨ p ∈ stopM M x := by
    intro p
    unfold insM
    rw [List.mem_append, List.mem_cons]
    constructor
    · rintro (h | h | h)
      · exact .inr ((List.takeWhile_sublist _).subset h)
      · exact .inl h
      · exact .inr ((List.dropWhile_sublist _).subset h)
    · rintro (h | h)
      · exact .inr (.inl h)
      · rw [st, sd, List.mem_filter, List.mem_filter]
        by_cases hp : p.1 ≤ a
        · exact .inl ⟨h, by simpa using hp⟩
        · exact .inr (.inr ⟨h, by simp; omega⟩)
  refine ⟨by simpa using hl16, ?_, by simpa using h.atl, by simpa using h.tul, fun z hz => ?_, fun b z hz => ?_, ?_, ?_, fun p hp => ?_⟩
  · show ((removeL D.L x).2.set m (l0 ++ [x])).flatten.Nodup
    exact flat_push hs.flat hl0 hxf
  · have hz' := flat_push_mem hl0 hz
    rcases hz' with rfl | hz'
    · exact ⟨a, (hmem _).2 (.inl rfl)⟩
    · obtain ⟨b, hb⟩ := hs.mem z hz'
      exact ⟨b, (hmem _).2 (.inr hb)⟩
  · rcases (hmem _).1 hz with e | hz
    · injection e with e1 e2
      subst e1 e2
      refine ⟨hx, ?_, h1, h2, l0 ++ [z], ?_, by simp⟩
      · rw [List.getElem?_set_self (by rw [h.atl]; exact hx)]
      · show ((removeL D.L z).2.set m (l0 ++ [z]))[_]? = _
        rw [hm, Int.toNat_natCast, List.getElem?_set_self (by omega)]
    · obtain ⟨q1, q2, q3, q4, l, hl, hzl⟩ := hs.ent b z hz
      have hzx : x ≠ z := fun e => hMx _ hz e.symm
      refine ⟨q1, ?_, q3, q4, ?_⟩
      · show (D.at_.set x a)[z]? = _
        rw [List.getElem?_set_ne hzx]
        exact q2
      · by_cases hq : m = (b % 16).toNat
        · refine ⟨l0 ++ [x], ?_, ?_⟩
          · show ((removeL D.L x).2.set m (l0 ++ [x]))[_]? = _
            rw [← hq, List.getElem?_set_self (by omega)]
          · rw [← hq, hl0] at hl
            injection hl with hl
            subst hl
            simp [hzl]
        · refine ⟨l, ?_, hzl⟩
          show ((removeL D.L x).2.set m (l0 ++ [x]))[_]? = _
          rw [List.getElem?_set_ne hq]
          exact hl
  · unfold insM
    rw [st, sd, List.map_append, List.map_cons, List.nodup_append]
    have hnd := hs.nd
    refine ⟨List.Nodup.sublist (List.Sublist.map _ List.filter_sublist) hnd, List.nodup_cons.2 ⟨fun hm => ?_, List.Nodup.sublist (List.Sublist.map _ List.filter_sublist) hnd⟩, ?_⟩
    · obtain ⟨p, hp, e⟩ := List.mem_map.1 hm
      exact hMx p (List.mem_filter.1 hp).1 e
    · intro y hy z hz e
      subst e
      obtain ⟨p, hp, rfl⟩ := List.mem_map.1 hy
      obtain ⟨hp, hpa⟩ := List.mem_filter.1 hp
      rcases List.mem_cons.1 hz with e | hz
      · exact hMx p hp e
      · obtain ⟨r, hr, e⟩ := List.mem_map.1 hz
        obtain ⟨hr, hra⟩ := List.mem_filter.1 hr
        have : p.1 = r.1 := hs.one (a := p.1) (b := r.1) (x := p.2) hp (by rw [← e]; exact hr)
        simp at hpa hra
        omega
  · have hw : ∀ p q : Int × Nat, p.2 ≠ x → q.2 ≠ x → wlt D.turn p q → wlt (D.turn.set x (D.now + 1)) p q := fun p q e1 e2 hpq => by
      unfold wlt at *
      rw [getD_set_ne (Ne.symm e1), getD_set_ne (Ne.symm e2)]
      exact hpq
    have hs' : (stopM M x).Pairwise (wlt (D.turn.set x (D.now + 1))) := hs.srt.imp_of_mem (fun {p q} hp hq hpq => hw p q (hMx p hp) (hMx q hq) hpq)
    have htx : (D.turn.set x (D.now + 1)).getD x 0 = D.now + 1 := by
      rw [List.getD_eq_getElem?_getD, List.getElem?_set_self (by rw [h.tul]; exact hx)]
      rfl
    show (insM M a x).Pairwise (wlt (D.turn.set x (D.now + 1)))
    unfold insM
    rw [List.pairwise_append, List.pairwise_cons]
    refine ⟨hs'.sublist (List.takeWhile_sublist _), ⟨fun q hq => ?_, hs'.sublist (List.dropWhile_sublist _)⟩, fun p hp q hq => ?_⟩
    · rw [sd] at hq
      have := (List.mem_filter.1 hq).2
      exact .inl (by simpa using this)
    · have hp0 := hp
      rw [st] at hp
      obtain ⟨hp1, hp2⟩ := List.mem_filter.1 hp
      simp only [decide_eq_true_eq] at hp2
      rcases List.mem_cons.1 hq with rfl | hq
      · have htp := hs.tb p hp1
        simp only at htp
        unfold wlt
        rw [htx, getD_set_ne (Ne.symm (hMx p hp1))]
        simp only
        omega
      · rw [sd] at hq
        have := (List.mem_filter.1 hq).2
        simp only [decide_eq_true_eq] at this
        exact .inl (by omega)
  · show (D.turn.set x (D.now + 1)).getD p.2 0 ≤ D.now + 1
    rcases (hmem _).1 hp with rfl | hp
    · rw [List.getD_eq_getElem?_getD, List.getElem?_set_self (by rw [h.tul]; exact hx)]
      exact Int.le_refl _
    · rw [getD_set_ne (Ne.symm (hMx p hp))]
      have := hs.tb p hp
      simp only at this
      omega
/-- Those that are due, as they lie. -/
def dueS (D : WD) (nw : Int) : List Nat := D.L.flatten.filter (fun x => decide (D.at_.getD x 0 ≤ nw))
def cutL (L : List (List Nat)) (S : List Nat) : List (List Nat) := L.map (fun l => l.filter (fun x => decide (x ∉ S)))
def dueM (M : List (Int × Nat)) (nw : Int) : List Nat := (M.takeWhile (fun p => decide (p.1 ≤ nw))).map (fun p => p.2)
def restM (M : List (Int × Nat)) (nw : Int) : List (Int × Nat) := M.dropWhile (fun p => decide (p.1 ≤ nw))
def wl (D : WD) (x y : Nat) : Prop := D.at_.getD x 0 < D.at_.getD y 0 ∨ (D.at_.getD x 0 = D.at_.getD y 0 ∧ D.turn.getD x 0 < D.turn.getD y 0)
theorem WOk.at (h : WOk N D M) {p : Int × Nat} (hp : p ∈ M) : D.at_.getD p.2 0 = p.1 := by
  have := (h.ent p.1 p.2 hp).2.1
  rw [List.getD_eq_getElem?_getD, this]
  rfl
theorem WOk.flatM (h : WOk N D M) (x : Nat) : x ∈ D.L.flatten ↔ x ∈ M.map (fun p => p.2) := by
  rw [← hasL_flat, h.has x, hasM_iff, List.mem_map]
  exact ⟨fun ⟨a, ha⟩ => ⟨_, ha, rfl⟩, fun ⟨p, hp, e⟩ => ⟨p.1, by rw [← e]; exact hp⟩⟩
theorem cut_flat (L : List (List Nat)) (S : List Nat) : (cutL L S).flatten = L.flatten.filter (fun x => decide (x ∉ S)) := by
  unfold cutL
  rw [List.filter_flatten]
theorem mem_dueS (D : WD) (nw : Int) (x : Nat) : x ∈ dueS D nw ↔ x ∈ D.L.flatten ∧ D.at_.getD x 0 ≤ nw := by unfold dueS; rw [List.mem_filter, decide_eq_true_eq]
theorem WOk.due (h : WOk N D M) (nw : Int) : WOk N { D with L := cutL D.L (dueS D nw) } (restM M nw) ∧ (dueS D nw).Perm (dueM M nw) ∧ (dueM M nw).Pairwise (wl D) := by
  obtain ⟨st, sd⟩ := split_sorted nw M h.le
  have hr : restM M nw = M.filter (fun p => decide (nw < p.1)) := sd
  have ht : dueM M nw = (M.filter (fun p => decide (p.1 ≤ nw))).map (fun p => p.2) := by unfold dueM; rw [st]
  refine ⟨⟨by simp [cutL, h.l16], ?_, h.atl, h.tul, fun x hx => ?_, fun a x hx => ?_, ?_, ?_, fun p hp => ?_⟩, ?_, ?_⟩
  · show (cutL D.L _).flatten.Nodup
    rw [cut_flat]
    exact List.Nodup.sublist List.filter_sublist h.flat
  · have hx' : x ∈ D.L.flatten.filter (fun x => decide (x ∉ dueS D nw)) := by rw [← cut_flat]; exact hx
    obtain ⟨h1, h2⟩ := List.mem_filter.1 hx'
    obtain ⟨a, ha⟩ := h.mem x h1
    refine ⟨a, ?_⟩
    rw [hr, List.mem_filter]
    refine ⟨ha, ?_⟩
    have e := h.at ha
    simp only [decide_eq_true_eq, mem_dueS] at h2
    simp only [decide_eq_true_eq]
    simp only at e
    have : ¬ D.at_.getD x 0 ≤ nw := fun e => h2 ⟨h1, e⟩
    omega
  · rw [hr] at hx
    obtain ⟨hx, hgt⟩ := List.mem_filter.1 hx
    obtain ⟨q1, q2, q3, q4, l, hl, hxl⟩ := h.ent a x hx
    refine ⟨q1, q2, q3, q4, l.filter (fun x => decide (x ∉ dueS D nw)), ?_, ?_⟩
    · show (cutL D.L _)[_]? = _
      unfold cutL
      rw [List.getElem?_map, hl]
      rfl
    · have e := h.at hx
      rw [List.mem_filter]
      refine ⟨hxl, ?_⟩
      simp only [decide_eq_true_eq, mem_dueS] at hgt ⊢
      simp only at e
      rintro ⟨_, h2⟩
      omega
  · rw [hr]
    exact List.Nodup.sublist (List.Sublist.map _ List.filter_sublist) h.nd
  · exact h.srt.sublist (List.dropWhile_sublist _)
  · exact h.tb p ((List.dropWhile_sublist _).subset hp)
  · rw [ht]
    refine (List.perm_ext_iff_of_nodup (List.Nodup.sublist List.filter_sublist h.flat) (List.Nodup.sublist (List.Sublist.map _ List.filter_sublist) h.nd)).2 (fun x => ?_)
    refine (mem_dueS D nw x).trans ?_
    rw [List.mem_map]
    constructor
    · rintro ⟨h1, h2⟩
      obtain ⟨a, ha⟩ := h.mem x h1
      have e := h.at ha
      exact ⟨(a, x), List.mem_filter.2 ⟨ha, by simp only at e; simp; omega⟩, rfl⟩
    · rintro ⟨p, hp, rfl⟩
      obtain ⟨hp, hle⟩ := List.mem_filter.1 hp
      have e := h.at hp
      simp only [decide_eq_true_eq] at hle
      exact ⟨(h.flatM _).2 (List.mem_map.2 ⟨p, hp, rfl⟩), by omega⟩
  · have hs := h.srt.sublist (List.takeWhile_sublist (fun p : Int × Nat => decide (p.1 ≤ nw)))
    unfold dueM
    rw [List.pairwise_map]
    refine hs.imp_of_mem (fun {p q} hp hq hpq => ?_)
    have e1 := h.at ((List.takeWhile_sublist _).subset hp)
    have e2 := h.at ((List.takeWhile_sublist _).subset hq)
    unfold wlt at hpq
    unfold wl
    rw [e1, e2]
    exact hpq
theorem wl_asymm {D : WD} {x y : Nat} (h : wl D x y) : ¬ wl D y x := by unfold wl at *; omega
/-- Sorted, in whatever way: one list. -/
theorem WOk.due_sorted (h : WOk N D M) (nw : Int) {R : List Nat} (hp : R.Perm (dueS D nw)) (hs : R.Pairwise (fun x y => ¬ wl D y x)) : R = dueM M nw := by
  obtain ⟨_, h2, h3⟩ := h.due nw
  refine List.Perm.eq_of_pairwise (le := fun x y => ¬ wl D y x) (fun x y hx hy h1 h4 => ?_) hs (h3.imp (fun {x y} hxy => wl_asymm hxy)) (hp.trans h2)
  have hx' : x ∈ dueM M nw := (hp.trans h2).subset hx
  by_cases e : x = y
  · exact e
  · exfalso
    rcases pairwise_or h3 hx' hy e with q | q
    · exact h4 q
    · exact h1 q
/-- When one is due first. -/
def nextStep (at_ : List Int) (s : Int × Bool) (x : Nat) : Int × Bool := if s.2 = false ∨ at_.getD x 0 < s.1 then (at_.getD x 0, true) else s
def nextF (at_ : List Int) (l : List Nat) : Int × Bool := l.foldl (nextStep at_) (0, false)
def nextM (M : List (Int × Nat)) : Int × Bool := match M with | [] => (0, false) | p :: _ => (p.1, true)
theorem nextF_least (at_ : List Int) : ∀ (l : List Nat) (s : Int × Bool), s.2 = true → (l.foldl (nextStep at_) s).2 = true ∧ (l.foldl (nextStep at_) s).1 ≤ s.1 ∧ (∀ x ∈ l, (l.foldl (nextStep at_) s).1 ≤ at_.getD x 0) ∧ ((l.foldl (nextStep at_) s).1 = s.1 ∨ ∃ x ∈ l, (l.foldl (nextStep at_) s).1 = at_.getD x 0)
  | [], s, h => ⟨h, Int.le_refl _, (fun _ h => by cases h), .inl rfl⟩
  | x :: l, s, h => by
    rw [List.foldl_cons]
    have hstep : (nextStep at_ s x).2 = true ∧ (nextStep at_ s x).1 ≤ s.1 ∧ (nextStep at_ s x).1 ≤ at_.getD x 0 ∧ ((nextStep at_ s x).1 = s.1 ∨ (nextStep at_ s x).1 = at_.getD x 0) := by
      unfold nextStep
      split
      · rename_i hc
        rcases hc with hc | hc
        · rw [h] at hc; cases hc
        · exact ⟨rfl, by simp only; omega, Int.le_refl _, .inr rfl⟩
      · rename_i hc
        refine ⟨h, Int.le_refl _, ?_, .inl rfl⟩
        have : ¬ at_.getD x 0 < s.1 := fun e => hc (.inr e)
        omega
    obtain ⟨a1, a2, a3, a4⟩ := hstep
    obtain ⟨b1, b2, b3, b4⟩ := nextF_least at_ l _ a1
    refine ⟨b1, by omega, fun y hy => ?_, ?_⟩
    · rcases List.mem_cons.1 hy with rfl | hy
      · omega
      · exact b3 y hy
    · rcases b4 with b4 | ⟨y, hy, e⟩
      · rcases a4 with a4 | a4
        · exact .inl (b4.trans a4)
        · exact .inr ⟨x, List.mem_cons_self, b4.trans a4⟩
      · exact .inr ⟨y, List.mem_cons_of_mem _ hy, e⟩
theorem WOk.next (h : WOk N D M) : nextF D.at_ D.L.flatten = nextM M := by
  have hm := h.flatM
  have hat := fun p (hp : p ∈ M) => h.at (p := p) hp
  have hle := h.le
  generalize D.L.flatten = l at *
  cases l with
  | nil =>
    cases M with
    | nil => rfl
    | cons p M =>
      have := (hm p.2).2 (by simp)
      cases this
  | cons x l =>
    cases M with
    | nil =>
      have := (hm x).1 (by simp)
      cases this
    | cons p M =>
      unfold nextF
      rw [List.foldl_cons]
      have hs : nextStep D.at_ (0, false) x = (D.at_.getD x 0, true) := by unfold nextStep; rw [if_pos (.inl rfl)]
      rw [hs]
      obtain ⟨b1, b2, b3, b4⟩ := nextF_least D.at_ l (D.at_.getD x 0, true) rfl
      generalize l.foldl (nextStep D.at_) (D.at_.getD x 0, true) = r at *
      obtain ⟨r1, r2⟩ := r
      simp only at b1 b2 b3 b4
      subst b1
      unfold nextM
      rw [List.pairwise_cons] at hle
      have hlow : ∀ y, y ∈ x :: l → p.1 ≤ D.at_.getD y 0 := fun y hy => by
        obtain ⟨q, hq, rfl⟩ := List.mem_map.1 ((hm y).1 hy)
        rw [hat q hq]
        rcases List.mem_cons.1 hq with rfl | hq
        · exact Int.le_refl _
        · exact hle.1 q hq
      have hp : r1 ≤ p.1 := by
        rw [← hat p (by simp)]
        rcases List.mem_cons.1 ((hm p.2).2 (by simp)) with e | e
        · rw [e]; exact b2
        · exact b3 _ e
      have hge : p.1 ≤ r1 := by
        rcases b4 with e | ⟨y, hy, e⟩
        · rw [e]; exact hlow x (by simp)
        · rw [e]; exact hlow y (List.mem_cons_of_mem _ hy)
      simp only [Prod.mk.injEq, and_true]
      omega
theorem WOk.where (h : WOk N D M) (x : Int) (hx : x < 0 ∨ hasM M x = false) : whereL D.L x = -1 := by
  by_cases h0 : x < 0
  · unfold whereL; rw [if_pos h0]
  · obtain ⟨y, rfl⟩ : ∃ y : Nat, x = y := ⟨x.toNat, by omega⟩
    rcases hx with hx | hx
    · omega
    · exact whereL_none (by rw [h.has]; exact hx)
end
end Go.Proofs.Ytajhfjgndkdbnaa
