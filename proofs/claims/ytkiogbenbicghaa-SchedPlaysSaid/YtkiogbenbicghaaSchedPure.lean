/- The scheduler's states in plain words: which handles have a place, and which of them can run, in order. Plain lists and numbers; no condition beyond what each lemma states. -/
import Derived.Test.YtkiogbenbicghaaSched2
namespace Go.Proofs.Ytkiogbenbicghaa

theorem place_iff {A : Ar} (h : A.Ok) (t : Int) (i : Nat) : A.place t = (i : Int) ↔ ∃ q, A.list[i]? = some q ∧ q.taken = true ∧ t = 1 + (i : Int) + 16 * q.gen := by
  have hs := h.size
  constructor
  · intro hp
    unfold Ar.place at hp
    split at hp
    · omega
    · rename_i h1
      split at hp
      · omega
      · rename_i h2
        split at hp
        · omega
        · rename_i h3
          split at hp
          · rename_i h4
            rw [hp] at h2 h3 h4
            have hil : i < A.list.length := by omega
            refine ⟨A.list[i], List.getElem?_eq_getElem hil, ?_, ?_⟩
            · rw [Ar.at_of (List.getElem?_eq_getElem hil)] at h3
              simpa using h3
            · rw [Ar.handle, Ar.at_of (List.getElem?_eq_getElem hil)] at h4
              exact h4.symm
          · omega
  · rintro ⟨q, hq, ht, rfl⟩
    have hil := lt_of_get hq
    have g0 := h.gen0 q (mem_of_get hq)
    have e : (1 + (i : Int) + 16 * q.gen - 1) % 16 = i := by omega
    rw [Ar.place, if_neg (by omega), e, if_neg (by omega), Ar.at_of hq, ht, if_neg (by simp), Ar.handle, Ar.at_of hq, if_pos rfl]
theorem place_bound {A : Ar} (h : A.Ok) {t : Int} (hp : 0 ≤ A.place t) : 1 ≤ t ∧ t ≤ 4096 := by
  obtain ⟨q, hq, _, e⟩ := (place_iff h t (A.place t).toNat).1 (by omega)
  have hil := lt_of_get hq
  have := h.gen0 q (mem_of_get hq)
  have := h.gen1 q (mem_of_get hq)
  have := h.size
  omega
theorem place_low (A : Ar) (t : Int) : -1 ≤ A.place t := (A.place_range t).1
/-- The same places are taken, by the same handles, but for one. -/
theorem place_but {A A' : Ar} (h : A.Ok) (h' : A'.Ok) {t : Int} (hs : ∀ (j : Nat), ∀ t', t' ≠ t → (A'.place t' = (j : Int) ↔ A.place t' = (j : Int))) : ∀ t', t' ≠ t → A'.place t' = A.place t' := by
  intro t' ht
  have l1 := place_low A t'
  have l2 := place_low A' t'
  by_cases h0 : 0 ≤ A.place t'
  · have := (hs (A.place t').toNat t' ht).2 (by omega)
    omega
  · by_cases h1 : 0 ≤ A'.place t'
    · have := (hs (A'.place t').toNat t' ht).1 (by omega)
      omega
    · omega
theorem take_facts {A : Ar} {i : Nat} {fs : List Nat} (h : Good A (i :: fs)) :
    ∃ t A', A.take = (t, true, A') ∧ Good A' fs ∧ A'.place t = (i : Int) ∧ A.place t < 0 ∧ (∀ t', t' ≠ t → A'.place t' = A.place t') ∧ (∀ t', A.place t' ≠ (i : Int)) ∧ 1 ≤ t ∧ t ≤ 4096 ∧ A'.list.length = A.list.length := by
  obtain ⟨p, A', hp, htk, htake, hl, hg⟩ := h.take_some
  have hil := lt_of_get hp
  have hno : ∀ t', A.place t' ≠ (i : Int) := by
    intro t' e
    obtain ⟨q, hq, hqt, _⟩ := (place_iff h.ok t' i).1 e
    rw [hp] at hq
    injection hq with hq
    subst hq
    rw [htk] at hqt
    cases hqt
  have hpl : A'.place (1 + (i : Int) + 16 * p.gen) = (i : Int) := (place_iff hg.ok _ i).2 ⟨{ p with taken := true }, by rw [hl, List.getElem?_set_self hil], rfl, rfl⟩
  have hg0 := h.ok.gen0 p (mem_of_get hp)
  have hs := h.ok.size
  refine ⟨_, A', htake, hg, hpl, ?_, ?_, hno, ?_, ?_, by rw [hl]; simp⟩
  · by_cases h0 : A.place (1 + (i : Int) + 16 * p.gen) < 0
    · exact h0
    · exfalso
      obtain ⟨q, hq, hqt, e⟩ := (place_iff h.ok (1 + (i : Int) + 16 * p.gen) (A.place (1 + (i : Int) + 16 * p.gen)).toNat).1 (by omega)
      have hjl := lt_of_get hq
      have hq0 := h.ok.gen0 q (mem_of_get hq)
      have hij : (A.place (1 + (i : Int) + 16 * p.gen)).toNat = i := by omega
      exact hno (1 + (i : Int) + 16 * p.gen) (by omega)
  · refine place_but h.ok hg.ok (fun j t' ht' => ?_)
    rw [place_iff h.ok, place_iff hg.ok, hl]
    by_cases hij : i = j
    · subst hij
      constructor
      · rintro ⟨q, hq, _, e⟩
        rw [List.getElem?_set_self hil] at hq
        injection hq with hq
        subst hq
        exact absurd e ht'
      · rintro ⟨q, hq, hqt, e⟩
        rw [hp] at hq
        injection hq with hq
        subst hq
        rw [htk] at hqt
        cases hqt
    · rw [List.getElem?_set_ne hij]
  · omega
  · have := h.ok.gen1 p (mem_of_get hp)
    omega
theorem give_facts {A : Ar} {fs : List Nat} (h : Good A fs) {t : Int} (hp : 0 ≤ A.place t) :
    ∃ A' fs', A.giveBack t = (true, A') ∧ Good A' fs' ∧ A'.place t < 0 ∧ (∀ t', t' ≠ t → A'.place t' = A.place t') ∧ A'.list.length = A.list.length := by
  obtain ⟨i, hi⟩ : ∃ i : Nat, A.place t = i := ⟨(A.place t).toNat, by omega⟩
  obtain ⟨q, hq, hqt, rfl⟩ := (place_iff h.ok t i).1 hi
  obtain ⟨A', fs', r, hgb, hl, hrt, hg, _⟩ := h.give hq hqt
  have hil := lt_of_get hq
  have hq0 := h.ok.gen0 q (mem_of_get hq)
  have hs := h.ok.size
  refine ⟨A', fs', hgb, hg, ?_, ?_, by rw [hl]; simp⟩
  · by_cases h0 : A'.place (1 + (i : Int) + 16 * q.gen) < 0
    · exact h0
    · exfalso
      obtain ⟨u, hu, hut, e⟩ := (place_iff hg.ok (1 + (i : Int) + 16 * q.gen) (A'.place (1 + (i : Int) + 16 * q.gen)).toNat).1 (by omega)
      have hjl := lt_of_get hu
      have hu0 := hg.ok.gen0 u (mem_of_get hu)
      have hs' := hg.ok.size
      have hij : (A'.place (1 + (i : Int) + 16 * q.gen)).toNat = i := by omega
      rw [hij, hl, List.getElem?_set_self hil] at hu
      injection hu with hu
      subst hu
      rw [hrt] at hut
      cases hut
  · refine place_but h.ok hg.ok (fun j t' ht' => ?_)
    rw [place_iff h.ok, place_iff hg.ok, hl]
    by_cases hij : i = j
    · subst hij
      constructor
      · rintro ⟨u, hu, hut, e⟩
        rw [List.getElem?_set_self hil] at hu
        injection hu with hu
        subst hu
        rw [hrt] at hut
        cases hut
      · rintro ⟨u, hu, hut, e⟩
        rw [hq] at hu
        injection hu with hu
        subst hu
        exact absurd e ht'
    · rw [List.getElem?_set_ne hij]
theorem mem_live {A : Ar} (h : A.Ok) (t : Int) : t ∈ A.live ↔ 0 ≤ A.place t := by
  have key : t ∈ A.live ↔ ∃ i : Nat, A.place t = (i : Int) := by
    simp only [place_iff h, Ar.live, List.mem_map, List.mem_filter, Prod.exists, List.mem_zipIdx_iff_getElem?]
    constructor
    · rintro ⟨q, i, ⟨h1, h2⟩, rfl⟩
      exact ⟨i, q, h1, h2, rfl⟩
    · rintro ⟨i, q, h1, h2, rfl⟩
      exact ⟨q, i, ⟨h1, h2⟩, rfl⟩
  rw [key]
  constructor
  · rintro ⟨i, e⟩; omega
  · intro h0; exact ⟨(A.place t).toNat, by omega⟩

/-! The list of those that can run, as handles. -/
theorem map_erase_inj {α β : Type} [BEq α] [LawfulBEq α] [BEq β] [LawfulBEq β] (f : α → β) (t : α) : ∀ l : List α, (∀ a ∈ l, f a = f t → a = t) → (l.map f).erase (f t) = (l.erase t).map f
  | [], _ => rfl
  | a :: l, h => by
    rw [List.map_cons, List.erase_cons, List.erase_cons]
    by_cases e : a = t
    · subst e; simp
    · have hf : f a ≠ f t := fun e2 => e (h a (by simp) e2)
      rw [if_neg (by simpa using hf), if_neg (by simpa using e), List.map_cons, map_erase_inj f t l (fun b hb => h b (by simp [hb]))]
def rdyT (A : Ar) (rl : List Int) (t : Int) : Bool × List Int := if 0 ≤ A.place t ∧ t ∉ rl then (true, rl ++ [t]) else (false, rl)
def blkT (rl : List Int) (t : Int) : Bool × List Int := if t ∈ rl then (true, rl.erase t) else (false, rl)
def yldT (rl : List Int) (t : Int) : Bool × List Int := if t ∈ rl then (true, rl.erase t ++ [t]) else (false, rl)
/-- The tasks: the arena, its free places, and the run list as handles. -/
structure St (A : Ar) (fs : List Nat) (rl : List Int) (l : List Nat) (who : List Int) : Prop where
  good : Good A fs
  his : ∀ (t : Int) (i : Nat), A.place t = (i : Int) → who[i]? = some t
  run : l = rl.map (fun t => (A.place t).toNat)
  live : ∀ t ∈ rl, 0 ≤ A.place t
  nodup : rl.Nodup
  size : who.length = A.list.length
section
variable {A : Ar} {fs : List Nat} {rl : List Int} {l : List Nat} {who : List Int}
theorem St.inj (h : St A fs rl l who) {t t' : Int} (h0 : 0 ≤ A.place t) (h1 : 0 ≤ A.place t') (e : (A.place t).toNat = (A.place t').toNat) : t = t' := by
  have a := h.his t (A.place t).toNat (by omega)
  have b := h.his t' (A.place t').toNat (by omega)
  rw [e, b] at a
  injection a with a
  exact a.symm
theorem St.mem (h : St A fs rl l who) {t : Int} (h0 : 0 ≤ A.place t) : (A.place t).toNat ∈ l ↔ t ∈ rl := by
  rw [h.run, List.mem_map]
  constructor
  · rintro ⟨t', ht', e⟩
    rw [← h.inj (h.live t' ht') h0 e]
    exact ht'
  · intro ht
    exact ⟨t, ht, rfl⟩
theorem St.runs (h : St A fs rl l who) : runS l who = rl := by
  unfold runS
  rw [h.run, List.map_map]
  conv => rhs; rw [← List.map_id rl]
  refine List.map_congr_left (fun t ht => ?_)
  have := h.his t (A.place t).toNat (by have := h.live t ht; omega)
  simp [List.getD_eq_getElem?_getD, this]
theorem St.rdy (h : St A fs rl l who) (t : Int) : (rdyS A l t).1 = (rdyT A rl t).1 ∧ St A fs (rdyT A rl t).2 (rdyS A l t).2 who := by
  unfold rdyS rdyT
  by_cases h0 : A.place t < 0
  · rw [if_pos h0, if_neg (by omega)]
    exact ⟨rfl, h⟩
  · rw [if_neg h0]
    have hm := h.mem (t := t) (by omega)
    unfold pushS
    by_cases ht : t ∈ rl
    · rw [if_pos (hm.2 ht), if_neg (by simp [ht])]
      exact ⟨rfl, h⟩
    · rw [if_neg (fun e => ht (hm.1 e)), if_pos ⟨by omega, ht⟩]
      refine ⟨rfl, h.good, h.his, by simp [h.run], fun u hu => ?_, ?_, h.size⟩
      · simp only [List.mem_append, List.mem_singleton] at hu
        rcases hu with hu | rfl
        · exact h.live u hu
        · omega
      · rw [List.nodup_append]
        exact ⟨h.nodup, by simp, fun a ha b hb => by simp only [List.mem_singleton] at hb; subst hb; exact fun e => ht (e ▸ ha)⟩
theorem St.blk (h : St A fs rl l who) (t : Int) : (blkS A l t).1 = (blkT rl t).1 ∧ St A fs (blkT rl t).2 (blkS A l t).2 who := by
  unfold blkS blkT
  by_cases h0 : A.place t < 0
  · have ht : t ∉ rl := fun ht => by have := h.live t ht; omega
    rw [if_pos h0, if_neg ht]
    exact ⟨rfl, h⟩
  · rw [if_neg h0]
    have hm := h.mem (t := t) (by omega)
    unfold cutS
    by_cases ht : t ∈ rl
    · rw [if_pos (hm.2 ht), if_pos ht]
      refine ⟨rfl, h.good, h.his, ?_, fun u hu => h.live u (List.mem_of_mem_erase hu), h.nodup.erase t, h.size⟩
      show l.erase _ = _
      rw [h.run]
      exact map_erase_inj (fun t => (A.place t).toNat) t rl (fun a ha e => h.inj (h.live a ha) (by omega) e)
    · rw [if_neg (fun e => ht (hm.1 e)), if_neg ht]
      exact ⟨rfl, h⟩
theorem St.yld (h : St A fs rl l who) (t : Int) : (yldS A l t).1 = (yldT rl t).1 ∧ St A fs (yldT rl t).2 (yldS A l t).2 who := by
  have hb := h.blk t
  unfold yldS yldT
  by_cases ht : t ∈ rl
  · have hv : blkT rl t = (true, rl.erase t) := by unfold blkT; rw [if_pos ht]
    rw [hv] at hb
    have hr := hb.2.rdy t
    rw [if_pos hb.1, if_pos ht]
    have hv2 : rdyT A (rl.erase t) t = (true, rl.erase t ++ [t]) := by
      unfold rdyT
      rw [if_pos ⟨h.live t ht, fun e => (List.Nodup.mem_erase_iff h.nodup).1 e |>.1 rfl⟩]
    simp only [hv2] at hr
    exact hr
  · have hv : blkT rl t = (false, rl) := by unfold blkT; rw [if_neg ht]
    rw [hv] at hb
    rw [if_neg (by rw [hb.1]; simp), if_neg ht]
    exact ⟨rfl, hb.2⟩
theorem St.ext (h : St A fs rl l who) (t : Int) : (extS A l t).1 = decide (0 ≤ A.place t) ∧ ∃ fs', St (extS A l t).2.1 fs' (if 0 ≤ A.place t then rl.erase t else rl) (extS A l t).2.2 who ∧ (∀ t', t' ≠ t → (extS A l t).2.1.place t' = A.place t') ∧ (extS A l t).2.1.place t < 0 := by
  unfold extS
  by_cases h0 : A.place t < 0
  · rw [if_pos h0, if_neg (by omega)]
    exact ⟨by simp; omega, fs, h, fun _ _ => rfl, h0⟩
  · rw [if_neg h0, if_pos (by omega)]
    obtain ⟨A', fs', hgb, hg, hp, hbut, hl⟩ := give_facts h.good (t := t) (by omega)
    rw [hgb]
    have hb := (h.blk t).2
    have hv : (blkT rl t).2 = rl.erase t := by
      unfold blkT
      by_cases ht : t ∈ rl
      · rw [if_pos ht]
      · rw [if_neg ht, List.erase_of_not_mem ht]
    rw [hv] at hb
    have hne : ∀ u ∈ rl.erase t, u ≠ t := fun u hu e => (List.Nodup.mem_erase_iff h.nodup).1 hu |>.1 e
    refine ⟨by simp; omega, fs', ⟨hg, fun u i hu => ?_, ?_, fun u hu => ?_, hb.nodup, by rw [hl]; exact h.size⟩, hbut, hp⟩
    · by_cases hut : u = t
      · subst hut; simp only at hu; omega
      · exact h.his u i (by rw [← hbut u hut]; exact hu)
    · rw [hb.run]
      exact List.map_congr_left (fun u hu => by simp only [hbut u (hne u hu)])
    · simp only [hbut u (hne u hu)]
      exact hb.live u hu
theorem St.spawn {i : Nat} (h : St A (i :: fs) rl l who) {t : Int} {A' : Ar} (hk : A.take = (t, true, A')) (hg : Good A' fs) (hp : A'.place t = (i : Int)) (hn : A.place t < 0) (hbut : ∀ t', t' ≠ t → A'.place t' = A.place t') (hno : ∀ t', A.place t' ≠ (i : Int)) (hl : A'.list.length = A.list.length) :
    St A' fs (rl ++ [t]) (rdyS A' l t).2 (who.set i t) := by
  have hne : ∀ u ∈ rl, u ≠ t := fun u hu e => by subst e; have := h.live u hu; omega
  have hil : i < who.length := by
    have := (A'.place_range t).2 (by omega)
    rw [h.size, ← hl]
    omega
  have hw : ∀ (u : Int) (j : Nat), A'.place u = (j : Int) → (who.set i t)[j]? = some u := fun u j hu => by
    by_cases hut : u = t
    · subst hut
      have : j = i := by omega
      subst this
      rw [List.getElem?_set_self hil]
    · rw [hbut u hut] at hu
      have hji : i ≠ j := fun e => hno u (by omega)
      rw [List.getElem?_set_ne hji]
      exact h.his u j hu
  have h0 : St A' fs rl l (who.set i t) := by
    refine ⟨hg, hw, ?_, fun u hu => ?_, h.nodup, by rw [List.length_set, hl]; exact h.size⟩
    · rw [h.run]
      exact List.map_congr_left (fun u hu => by simp only [hbut u (hne u hu)])
    · rw [hbut u (hne u hu)]
      exact h.live u hu
  have := (h0.rdy t).2
  rw [show (rdyT A' rl t).2 = rl ++ [t] by unfold rdyT; rw [if_pos ⟨by omega, fun e => hne t e rfl⟩]] at this
  exact this
end
end Go.Proofs.Ytkiogbenbicghaa
