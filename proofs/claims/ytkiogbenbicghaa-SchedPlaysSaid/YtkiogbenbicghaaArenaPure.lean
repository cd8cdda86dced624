/- The arena's states: its free places as a list, and what is known of handles that were given. Plain lists and numbers; no condition beyond what each lemma states. -/
import Derived.Test.YtkiogbenbicghaaArena2
namespace Go.Proofs.Ytkiogbenbicghaa

def AChain (l : List APlace) : Int → List Nat → Prop
  | fr, [] => fr = -1
  | fr, i :: r => fr = (i : Int) ∧ ∃ p, l[i]? = some p ∧ p.taken = false ∧ AChain l p.next r

theorem AChain.set {l : List APlace} {i : Nat} {q : APlace} : ∀ {fr : Int} {fs : List Nat}, i ∉ fs → AChain l fr fs → AChain (l.set i q) fr fs
  | _, [], _, h => h
  | _, k :: r, hn, ⟨h1, p, h2, h3, h4⟩ => by
    simp only [List.mem_cons, not_or] at hn
    exact ⟨h1, p, by rw [List.getElem?_set_ne (by omega)]; exact h2, h3, h4.set hn.2⟩
theorem AChain.untaken {l : List APlace} : ∀ {fr : Int} {fs : List Nat}, AChain l fr fs → ∀ i ∈ fs, ∃ p, l[i]? = some p ∧ p.taken = false
  | _, [], _, _, h => by simp at h
  | _, k :: r, ⟨h1, p, h2, h3, h4⟩, i, hi => by
    rcases List.mem_cons.1 hi with rfl | hi
    · exact ⟨p, h2, h3⟩
    · exact h4.untaken i hi

structure Good (A : Ar) (fs : List Nat) : Prop where
  ok : A.Ok
  chain : AChain A.list A.free fs
  nodup : fs.Nodup

theorem Ar.at_of {A : Ar} {i : Nat} {p : APlace} (h : A.list[i]? = some p) : A.at (i : Int) = p := by simp [Ar.at, h]
theorem lt_of_get {α : Type} {l : List α} {i : Nat} {p : α} (h : l[i]? = some p) : i < l.length := (List.getElem?_eq_some_iff.1 h).1
theorem mem_of_get {α : Type} {l : List α} {i : Nat} {p : α} (h : l[i]? = some p) : p ∈ l := by
  obtain ⟨h1, rfl⟩ := List.getElem?_eq_some_iff.1 h
  exact List.getElem_mem h1

theorem Good.take_none {A : Ar} (h : Good A []) : A.take = (0, false, A) := by rw [Ar.take, if_pos (show A.free = -1 from h.chain)]
theorem Good.take_some {A : Ar} {i : Nat} {fs : List Nat} (h : Good A (i :: fs)) :
    ∃ p A', A.list[i]? = some p ∧ p.taken = false ∧ A.take = (1 + (i : Int) + 16 * p.gen, true, A') ∧ A'.list = A.list.set i { p with taken := true } ∧ Good A' fs := by
  obtain ⟨hf, p, hp, ht, hc⟩ := h.chain
  have hat := Ar.at_of hp
  have hm := mem_of_get hp
  refine ⟨p, _, hp, ht, ?_, rfl, h.ok.set i { p with taken := true } p.next (h.ok.next0 _ hm) (h.ok.next1 _ hm) (h.ok.gen0 p hm) (h.ok.gen1 p hm) (h.ok.next0 p hm) (h.ok.next1 p hm), hc.set (List.nodup_cons.1 h.nodup).1, (List.nodup_cons.1 h.nodup).2⟩
  rw [Ar.take, if_neg (by rw [hf]; omega), hf, hat, Ar.handle, hat]
  rfl
theorem Good.place_of {A : Ar} {fs : List Nat} (h : Good A fs) {i : Nat} {p : APlace} (hp : A.list[i]? = some p) (j : Int) (hj : 0 ≤ j) :
    A.place (1 + (i : Int) + 16 * j) = if p.taken = true ∧ p.gen = j then (i : Int) else -1 := by
  have hl := lt_of_get hp
  have hs := h.ok.size
  have e : (1 + (i : Int) + 16 * j - 1) % 16 = i := by omega
  rw [Ar.place, if_neg (by omega), e, if_neg (by omega), Ar.handle, Ar.at_of hp]
  cases p.taken
  · simp
  · by_cases hg : p.gen = j
    · subst hg; simp
    · simp [hg]; omega
theorem Good.give {A : Ar} {fs : List Nat} (h : Good A fs) {i : Nat} {p : APlace} (hp : A.list[i]? = some p) (ht : p.taken = true) :
    ∃ A' fs' q, A.giveBack (1 + (i : Int) + 16 * p.gen) = (true, A') ∧ A'.list = A.list.set i q ∧ q.taken = false ∧ Good A' fs' ∧
      ((q.gen = p.gen + 1 ∧ fs' = i :: fs) ∨ (q.gen = p.gen ∧ fs' = fs)) := by
  have hm := mem_of_get hp
  have hl := lt_of_get hp
  have hi : i ∉ fs := by
    intro hi
    obtain ⟨p', hp', ht'⟩ := h.chain.untaken i hi
    rw [hp] at hp'
    injection hp' with hp'
    subst hp'
    rw [ht] at ht'
    cases ht'
  have hpl := h.place_of hp p.gen (h.ok.gen0 _ hm)
  rw [if_pos ⟨ht, rfl⟩] at hpl
  have hgb : A.giveBack (1 + (i : Int) + 16 * p.gen) = (true, A.back i) := by rw [Ar.giveBack, hpl, if_neg (by omega)]
  have g0 := h.ok.gen0 _ hm
  have g1 := h.ok.gen1 _ hm
  by_cases hg : p.gen < 255
  · refine ⟨_, i :: fs, ⟨p.gen + 1, A.free, false⟩, hgb, by rw [Ar.back, Ar.at_of hp, if_pos hg]; rfl, rfl, ⟨?_, ?_, List.nodup_cons.2 ⟨hi, h.nodup⟩⟩, .inl ⟨rfl, rfl⟩⟩
    · rw [Ar.back, Ar.at_of hp, if_pos hg]
      exact h.ok.set i _ _ (by omega) (by omega) (show 0 ≤ p.gen + 1 by omega) (show p.gen + 1 ≤ 255 by omega) h.ok.free0 h.ok.free1
    · rw [Ar.back, Ar.at_of hp, if_pos hg]
      exact ⟨rfl, ⟨p.gen + 1, A.free, false⟩, by simp [hl], rfl, h.chain.set hi⟩
  · refine ⟨_, fs, { p with taken := false }, hgb, by rw [Ar.back, Ar.at_of hp, if_neg hg]; rfl, rfl, ⟨?_, ?_, h.nodup⟩, .inr ⟨rfl, rfl⟩⟩
    · rw [Ar.back, Ar.at_of hp, if_neg hg]
      exact h.ok.set i { p with taken := false } _ h.ok.free0 h.ok.free1 g0 g1 (h.ok.next0 p hm) (h.ok.next1 p hm)
    · rw [Ar.back, Ar.at_of hp, if_neg hg]
      exact h.chain.set hi
theorem Good.stale {A : Ar} {fs : List Nat} {h : Int} (hp : A.place h < 0) : A.giveBack h = (false, A) := by rw [Ar.giveBack, if_pos hp]

theorem achain_new (k : Nat) (l : List APlace) (hl : ∀ i, i < k → l[i]? = some ⟨0, if i + 1 < k then ((i + 1 : Nat) : Int) else -1, false⟩) : ∀ d i, k - i = d → i ≤ k → AChain l (if i < k then (i : Int) else -1) (List.range' i (k - i))
  | 0, i, hd, hi => by
    obtain rfl : i = k := by omega
    simp [AChain]
  | d + 1, i, hd, hi => by
    have ih := achain_new k l hl d (i + 1) (by omega) (by omega)
    rw [hd, List.range'_succ, if_pos (by omega)]
    refine ⟨rfl, _, hl i (by omega), rfl, ?_⟩
    rw [show k - (i + 1) = d by omega] at ih
    exact ih
theorem Good.new (n : Int) : Good (Ar.new n) (List.range' 0 (max 0 (min n 16)).toNat) := by
  refine ⟨Ar.new_ok n, ?_, List.nodup_range'⟩
  have := achain_new (max 0 (min n 16)).toNat (Ar.new n).list (fun i hi => by simp [Ar.new, hi]) _ 0 rfl (Nat.zero_le _)
  rw [Nat.sub_zero] at this
  unfold Ar.new at this ⊢
  simp only at this ⊢
  by_cases h : (max 0 (min n 16)).toNat = 0
  · rw [if_neg (by omega)] at this; rw [if_pos h]; exact this
  · rw [if_pos (by omega)] at this; rw [if_neg h]; exact this

/-- What is known of the handles G that were given, and of B: which of them came back. -/
structure Hist (A : Ar) (fs : List Nat) (G : List Int) (B : List Bool) : Prop where
  len : G.length = B.length
  nodup : G.Nodup
  each : ∀ (k : Nat) (g : Int) (b : Bool), G[k]? = some g → B[k]? = some b → ∃ (p : Nat) (q : APlace) (j : Int), g = 1 + p + 16 * j ∧ A.list[p]? = some q ∧ 0 ≤ j ∧ j ≤ q.gen ∧ (b = false → q.taken = true ∧ j = q.gen) ∧ (b = true → j < q.gen ∨ (q.taken = false ∧ p ∉ fs))
  fresh : ∀ (p : Nat) (q : APlace) (j : Int), p ∈ fs → A.list[p]? = some q → (1 + (p : Int) + 16 * j) ∈ G → j < q.gen
  all : ∀ (p : Nat) (q : APlace), A.list[p]? = some q → q.taken = true → ∃ k : Nat, G[k]? = some (1 + (p : Int) + 16 * q.gen) ∧ B[k]? = some false

theorem Hist.start (n : Int) (fs : List Nat) : Hist (Ar.new n) fs [] [] := by
  refine ⟨rfl, List.nodup_nil, fun k g b h => by simp at h, fun p q j _ _ h => by simp at h, fun p q h ht => ?_⟩
  have := mem_of_get h
  simp only [Ar.new, List.mem_map] at this
  obtain ⟨i, _, rfl⟩ := this
  cases ht

theorem Hist.take {A A' : Ar} {fs : List Nat} {i : Nat} {p : APlace} {G : List Int} {B : List Bool} (hg : Good A (i :: fs)) (h : Hist A (i :: fs) G B) (hp : A.list[i]? = some p)
    (hA' : A'.list = A.list.set i { p with taken := true }) : Hist A' fs (G ++ [1 + (i : Int) + 16 * p.gen]) (B ++ [false]) := by
  have hs := hg.ok.size
  have hl := lt_of_get hp
  have hnew : (1 + (i : Int) + 16 * p.gen) ∉ G := fun hm => by have := h.fresh i p p.gen List.mem_cons_self hp hm; omega
  have hi : i ∉ fs := (List.nodup_cons.1 hg.nodup).1
  have hself : A'.list[i]? = some { p with taken := true } := by rw [hA']; simp [hl]
  have hother : ∀ (r : Nat), r ≠ i → A'.list[r]? = A.list[r]? := fun r hr => by rw [hA', List.getElem?_set_ne (by omega)]
  have ht : p.taken = false := by obtain ⟨_, p', hp', ht, _⟩ := hg.chain; rw [hp] at hp'; injection hp' with e; rw [e]; exact ht
  have hB := h.len
  refine ⟨by simp [h.len], ?_, ?_, ?_, ?_⟩
  · rw [List.nodup_append]
    refine ⟨h.nodup, by simp, fun a ha b hb => ?_⟩
    simp at hb
    subst hb
    exact fun e => hnew (e ▸ ha)
  · intro k g b hG hBk
    by_cases hk : k < G.length
    · rw [List.getElem?_append_left hk] at hG
      rw [List.getElem?_append_left (by omega)] at hBk
      obtain ⟨r, q, j, h1, h2, h3, h4, h5, h6⟩ := h.each k g b hG hBk
      by_cases hr : r = i
      · subst hr
        rw [hp] at h2
        injection h2 with h2
        subst h2
        have := h.fresh r p j List.mem_cons_self hp (h1 ▸ mem_of_get hG)
        refine ⟨r, _, j, h1, hself, h3, h4, fun hb => ?_, fun _ => .inl this⟩
        have := (h5 hb).1
        rw [ht] at this
        cases this
      · refine ⟨r, q, j, h1, by rw [hother r hr]; exact h2, h3, h4, h5, fun hb => ?_⟩
        rcases h6 hb with h7 | ⟨h7, h8⟩
        · exact .inl h7
        · exact .inr ⟨h7, fun hm => h8 (List.mem_cons_of_mem _ hm)⟩
    · have hkl := lt_of_get hG
      simp at hkl
      obtain rfl : k = G.length := by omega
      rw [List.getElem?_append_right (Nat.le_refl _)] at hG
      rw [List.getElem?_append_right (by omega), h.len] at hBk
      simp at hG hBk
      subst hG hBk
      exact ⟨i, _, p.gen, rfl, hself, hg.ok.gen0 _ (mem_of_get hp), Int.le_refl _, fun _ => ⟨rfl, rfl⟩, fun h => by cases h⟩
  · intro r q j hr hq hm
    have hri : r ≠ i := fun e => hi (e ▸ hr)
    rw [hother r hri] at hq
    rcases List.mem_append.1 hm with hm | hm
    · exact h.fresh r q j (List.mem_cons_of_mem _ hr) hq hm
    · simp at hm
      have := lt_of_get hq
      omega
  · intro r q hq hqt
    by_cases hr : r = i
    · subst hr
      rw [hself] at hq
      injection hq with hq
      subst hq
      exact ⟨G.length, by simp, by rw [h.len]; simp⟩
    · rw [hother r hr] at hq
      obtain ⟨k, hk1, hk2⟩ := h.all r q hq hqt
      exact ⟨k, by rw [List.getElem?_append_left (lt_of_get hk1)]; exact hk1, by rw [List.getElem?_append_left (lt_of_get hk2)]; exact hk2⟩

theorem Hist.give {A A' : Ar} {fs fs' : List Nat} {i : Nat} {p q : APlace} {G : List Int} {B : List Bool} (hg : Good A fs) (h : Hist A fs G B) (hp : A.list[i]? = some p) (ht : p.taken = true)
    (hA' : A'.list = A.list.set i q) (hq : q.taken = false) (hc : (q.gen = p.gen + 1 ∧ fs' = i :: fs) ∨ (q.gen = p.gen ∧ fs' = fs)) (k : Nat) (hk : G[k]? = some (1 + (i : Int) + 16 * p.gen)) : Hist A' fs' G (B.set k true) := by
  have hs := hg.ok.size
  have hl := lt_of_get hp
  have hi : i ∉ fs := by
    intro hi
    obtain ⟨p', hp', ht'⟩ := hg.chain.untaken i hi
    rw [hp] at hp'
    injection hp' with hp'
    subst hp'
    rw [ht] at ht'
    cases ht'
  have hself : A'.list[i]? = some q := by rw [hA']; simp [hl]
  have hother : ∀ (r : Nat), r ≠ i → A'.list[r]? = A.list[r]? := fun r hr => by rw [hA', List.getElem?_set_ne (by omega)]
  have hgq : p.gen ≤ q.gen := by omega
  refine ⟨by simp [h.len], h.nodup, ?_, ?_, ?_⟩
  · intro m g b hG hB
    have hml : m < B.length := by have := lt_of_get hB; simpa using this
    obtain ⟨r, s, j, h1, h2, h3, h4, h5, h6⟩ := h.each m g B[m] hG (List.getElem?_eq_getElem hml)
    by_cases hmk : k = m
    · subst hmk
      rw [List.getElem?_set_self hml] at hB
      injection hB with hB
      subst hB
      rw [hk] at hG
      injection hG with hG
      have := lt_of_get h2
      obtain rfl : r = i := by omega
      rw [hp] at h2
      injection h2 with h2
      subst h2
      refine ⟨r, q, j, h1, hself, h3, by omega, (fun h => by cases h), fun _ => ?_⟩
      rcases hc with ⟨c1, c2⟩ | ⟨c1, c2⟩
      · exact .inl (by omega)
      · exact .inr ⟨hq, by rw [c2]; exact hi⟩
    · rw [List.getElem?_set_ne hmk, List.getElem?_eq_getElem hml] at hB
      injection hB with hB
      subst hB
      by_cases hr : r = i
      · subst hr
        rw [hp] at h2
        injection h2 with h2
        subst h2
        have hj : j ≠ p.gen := by
          rintro rfl
          rw [h1] at hG
          obtain ⟨a1, a2⟩ := List.getElem?_eq_some_iff.1 hG
          obtain ⟨b1, b2⟩ := List.getElem?_eq_some_iff.1 hk
          exact hmk ((List.getElem_inj h.nodup).1 (b2.trans a2.symm))
        refine ⟨r, q, j, h1, hself, h3, by omega, fun hb => absurd (h5 hb).2 hj, fun _ => .inl (by omega)⟩
      · refine ⟨r, s, j, h1, by rw [hother r hr]; exact h2, h3, h4, h5, fun hb => ?_⟩
        rcases h6 hb with h7 | ⟨h7, h8⟩
        · exact .inl h7
        · refine .inr ⟨h7, ?_⟩
          rcases hc with ⟨c1, c2⟩ | ⟨c1, c2⟩
          · rw [c2]; simp [hr, h8]
          · rw [c2]; exact h8
  · intro r s j hr hs' hm
    by_cases hri : r = i
    · subst hri
      rw [hself] at hs'
      injection hs' with hs'
      subst hs'
      obtain ⟨m, hml, hmg⟩ := List.getElem_of_mem hm
      obtain ⟨r', s', j', h1, h2, h3, h4, h5, h6⟩ := h.each m _ (B[m]'(by rw [← h.len]; exact hml)) (List.getElem?_eq_getElem hml) (List.getElem?_eq_getElem (by rw [← h.len]; exact hml))
      rw [hmg] at h1
      have := lt_of_get h2
      obtain rfl : r = r' := by omega
      rw [hp] at h2
      injection h2 with h2
      subst h2
      rcases hc with ⟨c1, c2⟩ | ⟨c1, c2⟩
      · omega
      · exact absurd (c2 ▸ hr) hi
    · rw [hother r hri] at hs'
      refine h.fresh r s j ?_ hs' hm
      rcases hc with ⟨c1, c2⟩ | ⟨c1, c2⟩
      · rw [c2] at hr; simpa [hri] using hr
      · rw [c2] at hr; exact hr
  · intro r s hs' hst
    by_cases hri : r = i
    · subst hri
      rw [hself] at hs'
      injection hs' with hs'
      subst hs'
      rw [hq] at hst
      cases hst
    · rw [hother r hri] at hs'
      obtain ⟨m, hm1, hm2⟩ := h.all r s hs' hst
      refine ⟨m, hm1, ?_⟩
      have hmk : k ≠ m := by
        rintro rfl
        rw [hk] at hm1
        injection hm1 with hm1
        have := lt_of_get hs'
        omega
      rw [List.getElem?_set_ne hmk]
      exact hm2

/-- A live handle's place, and a stale one's. -/
theorem Hist.place {A : Ar} {fs : List Nat} {G : List Int} {B : List Bool} (hg : Good A fs) (h : Hist A fs G B) {k : Nat} {g : Int} {b : Bool} (hG : G[k]? = some g) (hB : B[k]? = some b) :
    (b = true → A.place g = -1) ∧ (b = false → ∃ (p : Nat) (q : APlace), A.list[p]? = some q ∧ q.taken = true ∧ g = 1 + p + 16 * q.gen ∧ A.place g = p) := by
  obtain ⟨p, q, j, h1, h2, h3, h4, h5, h6⟩ := h.each k g b hG hB
  have hpl := hg.place_of h2 j h3
  rw [← h1] at hpl
  refine ⟨fun hb => ?_, fun hb => ?_⟩
  · rw [hpl, if_neg]
    rintro ⟨a1, a2⟩
    rcases h6 hb with h7 | ⟨h7, _⟩
    · omega
    · rw [h7] at a1; cases a1
  · obtain ⟨a1, a2⟩ := h5 hb
    refine ⟨p, q, h2, a1, by rw [h1, a2], ?_⟩
    rw [hpl, if_pos ⟨a1, a2.symm⟩]
/-- How many of the first k are not back. -/
def liveCount (B : List Bool) (k : Nat) : Nat := ((B.take k).filter (fun b => !b)).length
theorem liveCount_le (B : List Bool) (k : Nat) : liveCount B k ≤ k := by
  unfold liveCount
  exact Nat.le_trans (List.length_filter_le _ _) (by simp; exact Nat.min_le_left _ _)
theorem liveCount_succ {B : List Bool} {k : Nat} {b : Bool} (h : B[k]? = some b) : liveCount B (k + 1) = liveCount B k + if b then 0 else 1 := by
  unfold liveCount
  rw [List.take_add_one, h]
  simp only [Option.toList_some, List.filter_append, List.length_append]
  cases b <;> rfl

theorem live_length (A : Ar) : A.live.length = ((List.range A.list.length).filter (fun (i : Nat) => (A.at (i : Int)).taken)).length := by
  have h1 : A.live.length = A.list.countP (fun p => p.taken) := by
    have h0 : A.list.countP (fun p => p.taken) = (A.list.zipIdx.map Prod.fst).countP (fun p => p.taken) := by rw [List.zipIdx_map_fst]
    rw [Ar.live, List.length_map, ← List.countP_eq_length_filter, h0, List.countP_map]
    rfl
  have h2 : A.list = (List.range A.list.length).map (fun (i : Nat) => A.at (i : Int)) := by
    apply List.ext_getElem (by simp)
    intro i a b
    simp [Ar.at, List.getElem?_eq_getElem a]
  rw [h1, ← List.countP_eq_length_filter]
  conv => lhs; rw [h2]
  rw [List.countP_map]
  rfl
def liveOf (G : List Int) (B : List Bool) : List Int := ((G.zip B).filter (fun x => !x.2)).map Prod.fst
theorem liveOf_length : ∀ (G : List Int) (B : List Bool), G.length = B.length → (liveOf G B).length = liveCount B B.length
  | [], [], _ => rfl
  | g :: G, b :: B, h => by
    have ih := liveOf_length G B (by simpa using h)
    unfold liveOf liveCount at ih ⊢
    rw [List.length_map] at ih ⊢
    rw [List.take_of_length_le (Nat.le_refl _)] at ih ⊢
    cases b <;> simp [List.zip_cons_cons, List.filter_cons, ih]
  | [], _ :: _, h => by simp at h
  | _ :: _, [], h => by simp at h
theorem mem_liveOf {G : List Int} {B : List Bool} {g : Int} : g ∈ liveOf G B ↔ ∃ k : Nat, G[k]? = some g ∧ B[k]? = some false := by
  unfold liveOf
  simp only [List.mem_map, List.mem_filter, Prod.exists, Bool.not_eq_true']
  constructor
  · rintro ⟨a, b, ⟨h1, h2⟩, rfl⟩
    obtain ⟨k, hk, e⟩ := List.getElem_of_mem h1
    rw [List.getElem_zip] at e
    simp at hk
    refine ⟨k, ?_, ?_⟩
    · rw [List.getElem?_eq_getElem (by omega), (Prod.mk.inj e).1]
    · rw [List.getElem?_eq_getElem (by omega), (Prod.mk.inj e).2, h2]
  · rintro ⟨k, h1, h2⟩
    refine ⟨g, false, ⟨?_, rfl⟩, rfl⟩
    obtain ⟨a1, a2⟩ := List.getElem?_eq_some_iff.1 h1
    obtain ⟨b1, b2⟩ := List.getElem?_eq_some_iff.1 h2
    exact List.mem_iff_getElem.2 ⟨k, by simp; omega, by rw [List.getElem_zip, a2, b2]⟩
theorem Hist.count {A : Ar} {fs : List Nat} {G : List Int} {B : List Bool} (hg : Good A fs) (h : Hist A fs G B) : A.live.length = liveCount B B.length := by
  have hs := hg.ok.size
  rw [live_length, ← liveOf_length G B h.len]
  have hnd : (liveOf G B).Nodup := by
    unfold liveOf
    have hsub : (((G.zip B).filter (fun x => !x.2)).map Prod.fst).Sublist ((G.zip B).map Prod.fst) := (List.filter_sublist).map _
    rw [List.map_fst_zip (by rw [h.len]; exact Nat.le_refl _)] at hsub
    exact h.nodup.sublist hsub
  apply Nat.le_antisymm
  · have h1 : (((List.range A.list.length).filter (fun (i : Nat) => (A.at (i : Int)).taken)).map (fun (i : Nat) => A.handle (i : Int))).Nodup := by
      refine List.pairwise_map.2 (List.Pairwise.imp_of_mem ?_ (List.Pairwise.filter _ List.nodup_range))
      intro a b ha hb hab
      simp at ha hb
      unfold Ar.handle
      omega
    have := h1.length_le_of_subset (l₂ := liveOf G B) (by
      intro x hx
      simp only [List.mem_map, List.mem_filter, List.mem_range] at hx
      obtain ⟨i, ⟨hi, ht⟩, rfl⟩ := hx
      have hp : A.list[i]? = some (A.at (i : Int)) := by simp [Ar.at, List.getElem?_eq_getElem hi]
      exact mem_liveOf.2 (h.all i _ hp ht))
    simpa using this
  · have h1 : ((liveOf G B).map (fun g => ((g - 1) % 16).toNat)).Nodup := by
      refine List.pairwise_map.2 (List.Pairwise.imp_of_mem ?_ hnd)
      intro a b ha hb hab
      obtain ⟨k, hk1, hk2⟩ := mem_liveOf.1 ha
      obtain ⟨m, hm1, hm2⟩ := mem_liveOf.1 hb
      obtain ⟨p, q, a1, a2, a3, _⟩ := (h.place hg hk1 hk2).2 rfl
      obtain ⟨p', q', b1, b2, b3, _⟩ := (h.place hg hm1 hm2).2 rfl
      have := lt_of_get a1
      have := lt_of_get b1
      intro e
      obtain rfl : p = p' := by omega
      rw [a1] at b1
      injection b1 with b1
      subst b1
      exact hab (a3.trans b3.symm)
    have := h1.length_le_of_subset (l₂ := (List.range A.list.length).filter (fun (i : Nat) => (A.at (i : Int)).taken)) (by
      intro x hx
      simp only [List.mem_map] at hx
      obtain ⟨g, hg', rfl⟩ := hx
      obtain ⟨k, hk1, hk2⟩ := mem_liveOf.1 hg'
      obtain ⟨p, q, a1, a2, a3, _⟩ := (h.place hg hk1 hk2).2 rfl
      have hl := lt_of_get a1
      have e : ((g - 1) % 16).toNat = p := by omega
      rw [e]
      simp only [List.mem_filter, List.mem_range]
      exact ⟨hl, by rw [Ar.at_of a1]; exact a2⟩)
    simpa using this
theorem live_le (A : Ar) : A.live.length ≤ A.list.length := by
  rw [live_length]
  exact Nat.le_trans (List.length_filter_le _ _) (by simp)
theorem set_size {A A' : Ar} {i : Nat} {q : APlace} (h : A'.list = A.list.set i q) : A'.list.length = A.list.length := by rw [h]; simp
/-- Any handle of the list is given back: that it was live, and what is known behind it. -/
theorem Hist.any {A : Ar} {fs : List Nat} {G : List Int} {B : List Bool} (hg : Good A fs) (h : Hist A fs G B) {k : Nat} {g : Int} {b : Bool} (hG : G[k]? = some g) (hB : B[k]? = some b) :
    ∃ A' fs', A.giveBack g = (!b, A') ∧ Good A' fs' ∧ Hist A' fs' G (B.set k true) ∧ A'.list.length = A.list.length := by
  cases b with
  | true =>
    refine ⟨A, fs, Good.stale (fs := fs) (by rw [(h.place hg hG hB).1 rfl]; omega), hg, ?_, rfl⟩
    have : B.set k true = B := by
      obtain ⟨hk, e⟩ := List.getElem?_eq_some_iff.1 hB
      rw [← e]; simp
    rw [this]
    exact h
  | false =>
    obtain ⟨p, q, h1, h2, h3, _⟩ := (h.place hg hG hB).2 rfl
    obtain ⟨A', fs', q', a1, a2, a3, a4, a5⟩ := hg.give h1 h2
    exact ⟨A', fs', by rw [h3]; exact a1, a4, h.give hg h1 h2 a2 a3 a5 k (by rw [hG, h3]), by rw [a2]; simp⟩
/-- Taken, and given back at once. -/
theorem Hist.take_back {A A1 : Ar} {fs : List Nat} {i : Nat} {p : APlace} {G : List Int} {B : List Bool} (hg : Good A (i :: fs)) (h : Hist A (i :: fs) G B) (hp : A.list[i]? = some p)
    (hA1 : A1.list = A.list.set i { p with taken := true }) (hg1 : Good A1 fs) :
    ∃ A2 fs2, A1.giveBack (1 + (i : Int) + 16 * p.gen) = (true, A2) ∧ Good A2 fs2 ∧ Hist A2 fs2 (G ++ [1 + (i : Int) + 16 * p.gen]) (B ++ [true]) ∧ A2.list.length = A.list.length := by
  have h1 := h.take hg hp hA1
  obtain ⟨A2, fs2, a1, a2, a3, a4⟩ := h1.any hg1 (k := G.length) (g := 1 + (i : Int) + 16 * p.gen) (b := false) (by simp) (by rw [h.len]; simp)
  refine ⟨A2, fs2, a1, a2, ?_, by rw [a4, hA1]; simp⟩
  have : (B ++ [false]).set G.length true = B ++ [true] := by rw [h.len]; simp
  rw [this] at a3
  exact a3
end Go.Proofs.Ytkiogbenbicghaa
