/- The arena and the document's arena walk in step: plain lists and numbers. -/
import Derived.Test.YtkiogbenbicghaaArenaPure
import Derived.Test.YtkiogbenbicghaaRef06d
namespace Go.Proofs.Ytkiogbenbicghaa

theorem handle_shape (i : Nat) (hi : i < 16) (g : Int) : (1 + (i : Int) + 16 * g - 1) % 16 = i := by omega

structure Sim (A : Ar) (fs : List Nat) (R : Rf) : Prop where
  good : Good A fs
  ok : R.Ok
  len : R.gens.length = A.list.length
  free : fs = R.back.reverse.map Int.toNat ++ List.range' R.fresh.toNat (A.list.length - R.fresh.toNat)
  each : ∀ (i : Nat) (p : APlace), A.list[i]? = some p → ∃ y, R.gens[i]? = some y ∧ R.now[i]? = some (if p.taken then 1 + (i : Int) + 16 * p.gen else 0) ∧ (y = p.gen ∨ (p.taken = false ∧ y = 256 ∧ p.gen = 255 ∧ i ∉ fs))

theorem Sim.new (n : Int) : Sim (Ar.new n) (List.range' 0 (max 0 (min n 16)).toNat) (Rf.new n) := by
  have e : (min n 16).toNat = (max 0 (min n 16)).toNat := by omega
  have hl : (Ar.new n).list.length = (max 0 (min n 16)).toNat := by simp [Ar.new]
  refine ⟨Good.new n, ?_, ?_, ?_, ?_⟩
  · refine ⟨by simp [Rf.new]; omega, by simp [Rf.new], ?_, ?_, by simp [Rf.new], by simp [Rf.new], by simp [Rf.new], by simp [Rf.new], by simp [Rf.new]; omega⟩
    all_goals
      intro x hx
      simp only [Rf.new, List.mem_replicate] at hx
      omega
  · rw [hl]; simp [Rf.new, e]
  · rw [hl]; simp [Rf.new]
  · intro i p hp
    have hi := lt_of_get hp
    rw [hl] at hi
    have hp' : p.gen = 0 ∧ p.taken = false := by
      have := mem_of_get hp
      simp only [Ar.new, List.mem_map] at this
      obtain ⟨j, _, rfl⟩ := this
      exact ⟨rfl, rfl⟩
    refine ⟨0, ?_, ?_, .inl hp'.1.symm⟩
    · simp only [Rf.new, e]; rw [List.getElem?_replicate, if_pos hi]
    · simp only [Rf.new, e]; rw [List.getElem?_replicate, if_pos hi, hp'.2]; rfl

section
variable {A : Ar} {fs : List Nat} {R : Rf}
theorem Sim.place (h : Sim A fs R) (x : Int) : findFrom R.now x 0 = A.place x := by
  have hs := h.good.ok.size
  obtain ⟨h1, h2⟩ := findFrom_range R.now x
  have hnl : R.now.length = A.list.length := by rw [h.ok.same, h.len]
  by_cases hf : 0 ≤ findFrom R.now x 0
  · obtain ⟨a1, a2, a3⟩ := h2 hf
    obtain ⟨i, hi⟩ := Int.eq_ofNat_of_zero_le hf
    rw [hi] at a1 a2 ⊢
    simp only [Int.toNat_natCast] at a2
    have hil : i < A.list.length := by omega
    obtain ⟨y, _, b2, _⟩ := h.each i _ (List.getElem?_eq_getElem hil)
    rw [a2] at b2
    injection b2 with b2
    cases ht : (A.list[i]).taken with
    | false => rw [ht] at b2; simp at b2; omega
    | true =>
      rw [ht, if_pos rfl] at b2
      rw [b2, h.good.place_of (List.getElem?_eq_getElem hil) _ (h.good.ok.gen0 _ (List.getElem_mem hil)), if_pos ⟨ht, rfl⟩]
  · have e : findFrom R.now x 0 = -1 := by omega
    rw [e]
    by_cases hp : A.place x = -1
    · rw [hp]
    · exfalso
      unfold Ar.place at hp
      split at hp
      · exact hp rfl
      · split at hp
        · exact hp rfl
        · split at hp
          · exact hp rfl
          · split at hp
            · rename_i q1 q2 q3 q4
              obtain ⟨i, hi⟩ := Int.eq_ofNat_of_zero_le (a := (x - 1) % 16) (by omega)
              rw [hi] at q2 q3 q4
              have hil : i < A.list.length := by omega
              have hpi := List.getElem?_eq_getElem hil
              obtain ⟨y, _, b2, _⟩ := h.each i _ hpi
              rw [Ar.at_of hpi] at q3
              rw [Ar.handle, Ar.at_of hpi] at q4
              rw [if_pos (by simpa using q3), q4] at b2
              have hx : 0 < x := by omega
              have : (R.now.findIdx? (fun z => z == x)) ≠ none := by
                intro hn
                rw [List.findIdx?_eq_none_iff] at hn
                have := hn _ (mem_of_get b2)
                simp at this
              unfold findFrom at e
              rw [if_pos hx, List.drop_zero] at e
              cases hh : R.now.findIdx? (fun z => z == x) with
              | none => exact this hh
              | some j => rw [hh] at e; simp at e
            · exact hp rfl

theorem Sim.now_eq (h : Sim A fs R) : R.now = A.list.zipIdx.map (fun p => if p.1.taken then 1 + (p.2 : Int) + 16 * p.1.gen else 0) := by
  have hnl : R.now.length = A.list.length := by rw [h.ok.same, h.len]
  apply List.ext_getElem?
  intro i
  by_cases hi : i < A.list.length
  · obtain ⟨y, _, b2, _⟩ := h.each i _ (List.getElem?_eq_getElem hi)
    rw [b2]
    simp [List.getElem?_map, List.getElem?_zipIdx, hi]
  · rw [List.getElem?_eq_none (by omega), List.getElem?_eq_none (by simp; omega)]
theorem Sim.live (h : Sim A fs R) : R.live = A.live := by
  unfold Rf.live Ar.live
  rw [h.now_eq, List.filter_map]
  have : List.filter ((fun x => decide ((0 : Int) < x)) ∘ fun (p : APlace × Nat) => if p.1.taken then 1 + (p.2 : Int) + 16 * p.1.gen else 0) A.list.zipIdx = A.list.zipIdx.filter (fun p => p.1.taken) := by
    apply List.filter_congr
    rintro ⟨p, i⟩ hp
    have hm : p ∈ A.list := by
      have := List.mem_map_of_mem (f := Prod.fst) hp
      rwa [List.zipIdx_map_fst] at this
    have g0 := h.good.ok.gen0 p hm
    cases ht : p.taken
    · simp [ht]
    · simp [ht]; omega
  rw [this]
  apply List.map_congr_left
  rintro ⟨p, i⟩ hp
  have := (List.mem_filter.1 hp).2
  simp only at this
  simp [this]

theorem Sim.give {i : Nat} {p : APlace} {A' : Ar} {fs' : List Nat} {R' : Rf} (h : Sim A (i :: fs') R) (hp : A.list[i]? = some p) (ht : p.taken = false) (hA' : A'.list = A.list.set i { p with taken := true }) (hg : Good A' fs')
    (h1 : R'.gens = R.gens) (h2 : R'.now = R.now) (ok : R'.Ok) (hf : fs' = R'.back.reverse.map Int.toNat ++ List.range' R'.fresh.toNat (A.list.length - R'.fresh.toNat)) :
    Rf.give R' i = (1 + (i : Int) + 16 * p.gen, true, (Rf.give R' i).2.2) ∧ Sim A' fs' (Rf.give R' i).2.2 := by
  have hil := lt_of_get hp
  obtain ⟨y, c1, c2, c3⟩ := h.each i p hp
  have hy : y = p.gen := by
    rcases c3 with c3 | ⟨_, _, _, c3⟩
    · exact c3
    · exact absurd List.mem_cons_self c3
  have hgd : R.gens.getD i 0 = p.gen := by rw [List.getD_eq_getElem?_getD, c1, hy]; rfl
  have hnl : R.now.length = A.list.length := by rw [h.ok.same, h.len]
  have hsz := h.good.ok.size
  refine ⟨by simp only [Rf.give, h1, Int.toNat_natCast, hgd], hg, ?_, ?_, ?_, ?_⟩
  · exact ⟨ok.size, by simp only [Rf.give, List.length_set]; exact ok.same, ok.gen0, ok.gen1, ok.backs, ok.back0, ok.back1, ok.fresh0, ok.fresh1⟩
  · rw [hA', List.length_set]; simp only [Rf.give, h1]; exact h.len
  · rw [hA', List.length_set]; exact hf
  · intro k q hq
    rw [hA'] at hq
    simp only [Rf.give, h1, h2, Int.toNat_natCast, hgd]
    by_cases hk : i = k
    · subst hk
      rw [List.getElem?_set_self hil] at hq
      injection hq with hq
      subst hq
      exact ⟨y, c1, by rw [List.getElem?_set_self (by omega)]; rfl, .inl hy⟩
    · rw [List.getElem?_set_ne hk] at hq ⊢
      obtain ⟨z, d1, d2, d3⟩ := h.each k q hq
      exact ⟨z, d1, d2, d3.imp id (fun ⟨e1, e2, e3, e4⟩ => ⟨e1, e2, e3, fun hm => e4 (List.mem_cons_of_mem _ hm)⟩)⟩

theorem Sim.take (h : Sim A fs R) : ∃ x b A' R' fs', A.take = (x, b, A') ∧ R.take = (x, b, R') ∧ Sim A' fs' R' ∧ 0 ≤ x ∧ x ≤ 4096 := by
  have ok := h.ok
  have hlen := h.len
  cases hfs : fs with
  | nil =>
    subst hfs
    have hf := h.free
    have hb : R.back = [] := by
      have := (List.append_eq_nil_iff.1 hf.symm).1
      simpa using this
    have hr := (List.append_eq_nil_iff.1 hf.symm).2
    have hr' : A.list.length - R.fresh.toNat = 0 := by
      have := congrArg List.length hr
      simpa using this
    refine ⟨0, false, A, R, [], h.good.take_none, ?_, h, by omega, by omega⟩
    have := ok.fresh0
    rw [Rf.take, if_pos hb, if_neg (by omega)]
  | cons i fs' =>
    subst hfs
    obtain ⟨p, A', hp, ht, htk, hA', hg⟩ := h.good.take_some
    have hil := lt_of_get hp
    have hsz := h.good.ok.size
    have g0 := h.good.ok.gen0 _ (mem_of_get hp)
    have g1 := h.good.ok.gen1 _ (mem_of_get hp)
    have hf := h.free
    cases hbk : R.back.reverse with
    | nil =>
      have hb : R.back = [] := by simpa using hbk
      rw [hbk, List.map_nil, List.nil_append] at hf
      have hpos : 0 < A.list.length - R.fresh.toNat := by
        have := congrArg List.length hf
        simp at this
        omega
      obtain ⟨d, hd⟩ : ∃ d, A.list.length - R.fresh.toNat = d + 1 := ⟨_, (Nat.succ_pred_eq_of_pos hpos).symm⟩
      rw [hd, List.range'_succ] at hf
      injection hf with hf1 hf2
      have hfr := ok.fresh0
      have hfr' : R.fresh = (i : Int) := by omega
      have hi1 : (R.fresh + 1).toNat = R.fresh.toNat + 1 := by omega
      obtain ⟨a1, a2⟩ := h.give (R' := { R with fresh := R.fresh + 1 }) hp ht hA' hg rfl rfl
        ⟨ok.size, ok.same, ok.gen0, ok.gen1, ok.backs, ok.back0, ok.back1, by simp; omega, by simp; omega⟩
        (by simp only [hb, hi1, List.reverse_nil, List.map_nil, List.nil_append]; rw [hf2]; congr 1; omega)
      refine ⟨_, true, A', _, fs', htk, ?_, a2, by omega, by omega⟩
      rw [Rf.take, if_pos hb, if_pos (by omega), hfr']
      rw [hfr'] at a1
      exact a1
    | cons x r =>
      have hb : R.back = r.reverse ++ [x] := by
        have := congrArg List.reverse hbk
        simpa using this
      rw [hbk, List.map_cons, List.cons_append] at hf
      injection hf with hf1 hf2
      have hxm : x ∈ R.back := by rw [hb]; simp
      have x0 := ok.back0 x hxm
      have hx : x = (i : Int) := by omega
      have hdl : R.back.dropLast = r.reverse := by rw [hb]; simp
      have hsub : ∀ z, z ∈ R.back.dropLast → z ∈ R.back := fun z hz => List.dropLast_subset _ hz
      obtain ⟨a1, a2⟩ := h.give (R' := { R with back := R.back.dropLast }) hp ht hA' hg rfl rfl
        ⟨ok.size, ok.same, ok.gen0, ok.gen1, by have := ok.backs; simp; omega, fun z hz => ok.back0 z (hsub z hz), fun z hz => ok.back1 z (hsub z hz), ok.fresh0, ok.fresh1⟩
        (by simp only [hdl, List.reverse_reverse]; exact hf2)
      refine ⟨_, true, A', _, fs', htk, ?_, a2, by omega, by omega⟩
      have hgl : R.back.getLast?.getD 0 = (i : Int) := by rw [hb]; simp [hx]
      rw [Rf.take, if_neg (by rw [hb]; simp), hgl]
      exact a1

theorem Sim.small (h : Sim A fs R) {i : Nat} {p : APlace} (hp : A.list[i]? = some p) (ht : p.taken = true) : R.back.length < 16 := by
  have hi : i ∉ fs := by
    intro hi
    obtain ⟨p', hp', ht'⟩ := h.good.chain.untaken i hi
    rw [hp] at hp'
    injection hp' with hp'
    subst hp'
    rw [ht] at ht'
    cases ht'
  have hnd : (i :: fs).Nodup := List.nodup_cons.2 ⟨hi, h.good.nodup⟩
  have := hnd.length_le_of_subset (l₂ := List.range A.list.length) (by
    intro x hx
    rw [List.mem_range]
    rcases List.mem_cons.1 hx with rfl | hx
    · exact lt_of_get hp
    · obtain ⟨p', hp', _⟩ := h.good.chain.untaken x hx
      exact lt_of_get hp')
  have hs := h.good.ok.size
  have hfl : R.back.length ≤ fs.length := by rw [h.free]; simp
  simp at this
  omega

theorem Sim.freed (h : Sim A fs R) (x : Int) : ∃ b A' R' fs', A.giveBack x = (b, A') ∧ R.free x = (b, R') ∧ Sim A' fs' R' ∧
    (∀ (k : Nat) (y : Int), 0 < x → R.now[k]? = some x → R.gens[k]? = some y → y ≤ 255) ∧ (0 ≤ findFrom R.now x 0 → R.back.length < 16) := by
  have hpl := h.place x
  have hnl : R.now.length = A.list.length := by rw [h.ok.same, h.len]
  have hsz := h.good.ok.size
  have hq : ∀ (k : Nat) (y : Int), 0 < x → R.now[k]? = some x → R.gens[k]? = some y → y ≤ 255 := by
    intro k y hx hk hy
    have hkl : k < A.list.length := by rw [← hnl]; exact lt_of_get hk
    obtain ⟨z, c1, c2, c3⟩ := h.each k _ (List.getElem?_eq_getElem hkl)
    rw [hy] at c1
    injection c1 with c1
    subst c1
    have := h.good.ok.gen1 _ (List.getElem_mem hkl)
    rcases c3 with c3 | ⟨c3, _⟩
    · omega
    · rw [hk] at c2
      injection c2 with c2
      rw [c3] at c2
      simp at c2
      omega
  obtain ⟨h1, h2⟩ := findFrom_range R.now x
  by_cases hf : 0 ≤ findFrom R.now x 0
  · obtain ⟨a1, a2, a3⟩ := h2 hf
    obtain ⟨i, hi⟩ := Int.eq_ofNat_of_zero_le hf
    rw [hi] at a1 a2
    simp only [Int.toNat_natCast] at a2
    have hil : i < A.list.length := by omega
    obtain ⟨p, hp⟩ : ∃ p, A.list[i]? = some p := ⟨_, List.getElem?_eq_getElem hil⟩
    obtain ⟨y, c1, c2, c3⟩ := h.each i p hp
    rw [a2] at c2
    injection c2 with c2
    have ht : p.taken = true := by
      cases ht : p.taken with
      | true => rfl
      | false => rw [ht] at c2; simp at c2; omega
    rw [ht, if_pos rfl] at c2
    have hy : y = p.gen := by
      rcases c3 with c3 | ⟨c3, _⟩
      · exact c3
      · rw [ht] at c3; cases c3
    subst hy
    have hsm := h.small hp ht
    have hgd : R.gens.getD i 0 = p.gen := by rw [List.getD_eq_getElem?_getD, c1]; rfl
    have hfr : R.free x = (true, ⟨R.gens.set i (p.gen + 1), R.now.set i 0, if p.gen + 1 ≤ 255 then R.back ++ [(i : Int)] else R.back, R.fresh⟩) := by
      simp only [Rf.free, hi]
      rw [if_neg (by omega)]
      simp only [Int.toNat_natCast, hgd]
    obtain ⟨A', fs', q, b1, b2, b3, b4, b5⟩ := h.good.give hp ht
    rw [← c2] at b1
    have ok := h.ok
    have g0 := h.good.ok.gen0 _ (mem_of_get hp)
    have g1 := h.good.ok.gen1 _ (mem_of_get hp)
    have hfree := h.free
    have hlen := h.len
    have hlA' : A'.list.length = A.list.length := by rw [b2]; simp
    have hcase : q.gen = p.gen → p.gen = 255 := by
      intro hqg
      apply Classical.byContradiction
      intro hne
      have hsp : (A.giveBack x).2.list = A.list.set i ⟨p.gen + 1, A.free, false⟩ := by
        rw [Ar.giveBack, ← hpl, hi, if_neg (by omega)]
        simp only [Ar.back, Ar.at_of hp]
        rw [if_pos (by omega)]
        simp
      rw [b1] at hsp
      simp only at hsp
      rw [b2] at hsp
      have := congrArg (fun l => l[i]?) hsp
      simp [hil] at this
      rw [this] at hqg
      simp at hqg
      omega
    have hifs : i ∉ fs := by
      intro hi
      obtain ⟨p', hp', ht'⟩ := h.good.chain.untaken i hi
      rw [hp] at hp'
      injection hp' with hp'
      subst hp'
      rw [ht] at ht'
      cases ht'
    refine ⟨true, A', _, fs', b1, hfr, ⟨b4, ?_, ?_, ?_, ?_⟩, hq, fun _ => hsm⟩
    · have hmem : ∀ z, z ∈ (if p.gen + 1 ≤ 255 then R.back ++ [(i : Int)] else R.back) → z ∈ R.back ∨ z = i := by
        intro z hz
        split at hz
        · rcases List.mem_append.1 hz with hz | hz
          · exact .inl hz
          · exact .inr (by simpa using hz)
        · exact .inl hz
      refine ⟨by simp; omega, by simp; exact ok.same, ?_, ?_, ?_, ?_, ?_, ok.fresh0, by simp; exact ok.fresh1⟩
      · intro z hz
        rcases List.mem_or_eq_of_mem_set hz with hz | rfl
        · exact ok.gen0 z hz
        · omega
      · intro z hz
        rcases List.mem_or_eq_of_mem_set hz with hz | rfl
        · exact ok.gen1 z hz
        · omega
      · show (if p.gen + 1 ≤ 255 then R.back ++ [(i : Int)] else R.back).length ≤ 16
        split
        · simp; omega
        · omega
      · intro z hz
        rcases hmem z hz with hz | rfl
        · exact ok.back0 z hz
        · omega
      · intro z hz
        simp only [List.length_set]
        rcases hmem z hz with hz | rfl
        · exact ok.back1 z hz
        · omega
    · simp only [List.length_set]; rw [hlA']; exact hlen
    · rw [hlA']
      rcases b5 with ⟨d1, d2⟩ | ⟨d1, d2⟩
      · have hq255 : q.gen ≤ 255 := h.good.ok.gen1 _ (mem_of_get hp) |> fun _ => b4.ok.gen1 q (by rw [b2]; exact List.mem_set hil _)
        rw [if_pos (by omega), d2]
        simp [hfree]
      · rw [if_neg (by have := hcase d1; omega), d2]
        exact hfree
    · intro k r hr
      rw [b2] at hr
      by_cases hk : i = k
      · subst hk
        rw [List.getElem?_set_self hil] at hr
        injection hr with hr
        subst hr
        refine ⟨p.gen + 1, by rw [List.getElem?_set_self (by omega)], by rw [List.getElem?_set_self (by omega), b3]; rfl, ?_⟩
        rcases b5 with ⟨d1, d2⟩ | ⟨d1, d2⟩
        · exact .inl d1.symm
        · have := hcase d1
          exact .inr ⟨b3, by omega, by omega, by rw [d2]; exact hifs⟩
      · rw [List.getElem?_set_ne hk] at hr
        rw [List.getElem?_set_ne hk, List.getElem?_set_ne hk]
        obtain ⟨z, e1, e2, e3⟩ := h.each k r hr
        refine ⟨z, e1, e2, e3.imp id (fun ⟨f1, f2, f3, f4⟩ => ⟨f1, f2, f3, fun hm => f4 ?_⟩)⟩
        rcases b5 with ⟨d1, d2⟩ | ⟨d1, d2⟩
        · rw [d2] at hm
          rcases List.mem_cons.1 hm with hm | hm
          · exact absurd hm.symm hk
          · exact hm
        · rw [d2] at hm; exact hm
  · refine ⟨false, A, R, fs, ?_, ?_, h, hq, fun h' => absurd h' hf⟩
    · rw [Ar.giveBack, ← hpl, if_pos (by omega)]
    · simp only [Rf.free]
      rw [if_pos (by omega)]
end
end Go.Proofs.Ytkiogbenbicghaa
