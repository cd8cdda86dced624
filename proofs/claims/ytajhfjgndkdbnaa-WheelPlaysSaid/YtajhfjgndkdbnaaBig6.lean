/- What slices.SortFunc does at thirteen to sixteen of a row of timers' numbers: they stand sorted. Condition: as in Wheel6; no two stand alike in the order. -/
import Derived.Test.YtajhfjgndkdbnaaBig4
import Derived.Test.YtajhfjgndkdbnaaBig5
import Derived.Test.YtajhfjgndkdbnaaWheel7
namespace Go.Proofs.Ytajhfjgndkdbnaa
open Go.RowKit BigFrame

section
variable {D : WD} {S0 A S C L G Ls Gs S' : List Nat} {p : Nat}
theorem wl_trans2 {x y z : Nat} (h : wl D x y) (k : wl D y z) : wl D x z := by unfold wl at *; omega
theorem wl_ne {x y : Nat} (h : wl D x y) : x ≠ y := fun e => by subst e; exact wl_asymm h h
theorem pw_total {l : List Nat} (h : l.Pairwise (wl D)) : ∀ x ∈ l, ∀ y ∈ l, x ≠ y → wl D x y ∨ wl D y x := by
  induction h with
  | nil => intro x hx; cases hx
  | cons ha _ ih =>
    intro x hx y hy hne
    rcases List.mem_cons.1 hx with h1 | h1 <;> rcases List.mem_cons.1 hy with h2 | h2
    · exact absurd (h1.trans h2.symm) hne
    · exact .inl (h1 ▸ ha y h2)
    · exact .inr (h2 ▸ ha x h1)
    · exact ih x h1 y h2 hne
theorem Parted.split (h : Parted D S0) : S0.Nodup ∧ ∀ x ∈ S0, ∀ y ∈ S0, x ≠ y → wl D x y ∨ wl D y x := by
  obtain ⟨R', hp, hs⟩ := h
  exact ⟨hp.nodup_iff.2 (hs.imp (fun h => wl_ne h)), fun x hx y hy => pw_total hs x (hp.mem_iff.1 hx) y (hp.mem_iff.1 hy)⟩
/-- Those in A stand where they belong, and those in C; S is left. -/
structure PI (D : WD) (S0 A S C : List Nat) : Prop where
  perm : (A ++ S ++ C).Perm S0
  sa : A.Pairwise (wle D)
  sc : C.Pairwise (wle D)
  ab : ∀ x ∈ A, ∀ y ∈ S ++ C, wl D x y
  bc : ∀ x ∈ S, ∀ y ∈ C, wl D x y
theorem PI.start (D : WD) (S0 : List Nat) : PI D S0 [] S0 [] := ⟨by simp, List.Pairwise.nil, List.Pairwise.nil, by simp, by simp⟩
theorem PI.turn (h : PI D S0 A S C) (hp : S'.Perm S) : PI D S0 A S' C :=
  ⟨((hp.append_left A).append_right C).trans h.perm, h.sa, h.sc, fun x hx y hy => h.ab x hx y (by
    rcases List.mem_append.1 hy with hy | hy
    · exact List.mem_append_left _ (hp.mem_iff.1 hy)
    · exact List.mem_append_right _ hy), fun x hx => h.bc x (hp.mem_iff.1 hx)⟩
theorem PI.done (h : PI D S0 A S C) (hs : S.Pairwise (wle D)) : (A ++ S ++ C).Pairwise (wle D) := by
  refine List.pairwise_append.2 ⟨List.pairwise_append.2 ⟨h.sa, hs, fun x hx y hy => wl_wle (h.ab x hx y (List.mem_append_left _ hy))⟩, h.sc, fun x hx y hy => ?_⟩
  rcases List.mem_append.1 hx with hx | hx
  · exact wl_wle (h.ab x hx y (List.mem_append_right _ hy))
  · exact wl_wle (h.bc x hx y hy)
theorem PI.above (h : PI D S0 A S C) (hP : Parted D S0) (hp : (L ++ p :: G).Perm S) (hG : ∀ x ∈ G, ¬ wl D x p) : ∀ x ∈ G, wl D p x := by
  obtain ⟨hn, ht⟩ := hP.split
  have hnS : S.Nodup := (List.nodup_append.1 (List.nodup_append.1 (h.perm.nodup_iff.2 hn)).1).2.1
  have hn2 := (List.nodup_append.1 (hp.nodup_iff.2 hnS)).2.1
  have hS : ∀ x, x ∈ S → x ∈ S0 := fun x hx => h.perm.mem_iff.1 (by simp [hx])
  intro x hx
  have hne : p ≠ x := fun e => by subst e; exact (List.nodup_cons.1 hn2).1 hx
  rcases ht p (hS p (hp.mem_iff.1 (by simp))) x (hS x (hp.mem_iff.1 (by simp [hx]))) hne with h | h
  · exact h
  · exact absurd h (hG x hx)
theorem PI.left (h : PI D S0 A S C) (hP : Parted D S0) (hp : (L ++ p :: G).Perm S) (hL : ∀ x ∈ L, wl D x p) (hG : ∀ x ∈ G, ¬ wl D x p) (hl : Ls.Perm L) (hs : Ls.Pairwise (wle D)) : PI D S0 (A ++ Ls ++ [p]) G C := by
  have hab := h.above hP hp hG
  have hS : ∀ x, x ∈ L ++ p :: G → x ∈ S := fun x hx => hp.mem_iff.1 hx
  have hLS : ∀ x ∈ Ls, x ∈ S := fun x hx => hS x (List.mem_append_left _ (hl.mem_iff.1 hx))
  have hGS : ∀ x ∈ G, x ∈ S := fun x hx => hS x (by simp [hx])
  have hpS : p ∈ S := hS p (by simp)
  refine ⟨?_, ?_, h.sc, ?_, fun x hx => h.bc x (hGS x hx)⟩
  · have e : ((A ++ Ls ++ [p]) ++ G ++ C) = A ++ (Ls ++ p :: G) ++ C := by simp
    rw [e]
    exact ((((hl.append_right _).trans hp).append_left A).append_right C).trans h.perm
  · refine List.pairwise_append.2 ⟨List.pairwise_append.2 ⟨h.sa, hs, fun x hx y hy => wl_wle (h.ab x hx y (List.mem_append_left _ (hLS y hy)))⟩, List.pairwise_singleton _ _, fun x hx y hy => ?_⟩
    rw [List.mem_singleton] at hy
    subst hy
    rcases List.mem_append.1 hx with hx | hx
    · exact wl_wle (h.ab x hx _ (List.mem_append_left _ hpS))
    · exact wl_wle (hL x (hl.mem_iff.1 hx))
  · intro x hx y hy
    rcases List.mem_append.1 hx with hx | hx
    · rcases List.mem_append.1 hx with hx | hx
      · rcases List.mem_append.1 hy with hy | hy
        · exact h.ab x hx y (List.mem_append_left _ (hGS y hy))
        · exact h.ab x hx y (List.mem_append_right _ hy)
      · rcases List.mem_append.1 hy with hy | hy
        · exact wl_trans2 (hL x (hl.mem_iff.1 hx)) (hab y hy)
        · exact h.bc x (hLS x hx) y hy
    · rw [List.mem_singleton] at hx
      subst hx
      rcases List.mem_append.1 hy with hy | hy
      · exact hab y hy
      · exact h.bc _ hpS y hy
theorem PI.right (h : PI D S0 A S C) (hP : Parted D S0) (hp : (L ++ p :: G).Perm S) (hL : ∀ x ∈ L, wl D x p) (hG : ∀ x ∈ G, ¬ wl D x p) (hg : Gs.Perm G) (hs : Gs.Pairwise (wle D)) : PI D S0 A L (p :: Gs ++ C) := by
  have hab := h.above hP hp hG
  have hS : ∀ x, x ∈ L ++ p :: G → x ∈ S := fun x hx => hp.mem_iff.1 hx
  have hLS : ∀ x ∈ L, x ∈ S := fun x hx => hS x (List.mem_append_left _ hx)
  have hGS : ∀ x ∈ Gs, x ∈ S := fun x hx => hS x (by simp [hg.mem_iff.1 hx])
  have hpS : p ∈ S := hS p (by simp)
  refine ⟨?_, h.sa, ?_, ?_, ?_⟩
  · have e : (A ++ L ++ (p :: Gs ++ C)) = A ++ (L ++ p :: Gs) ++ C := by simp
    rw [e]
    exact (((((hg.cons p).append_left L).trans hp).append_left A).append_right C).trans h.perm
  · refine List.pairwise_append.2 ⟨List.pairwise_cons.2 ⟨fun x hx => wl_wle (hab x (hg.mem_iff.1 hx)), hs⟩, h.sc, fun x hx y hy => ?_⟩
    rcases List.mem_cons.1 hx with rfl | hx
    · exact wl_wle (h.bc _ hpS y hy)
    · exact wl_wle (h.bc x (hGS x hx) y hy)
  · intro x hx y hy
    rcases List.mem_append.1 hy with hy | hy
    · exact h.ab x hx y (List.mem_append_left _ (hLS y hy))
    · rcases List.mem_append.1 hy with hy | hy
      · rcases List.mem_cons.1 hy with rfl | hy
        · exact h.ab x hx _ (List.mem_append_left _ hpS)
        · exact h.ab x hx y (List.mem_append_left _ (hGS y hy))
      · exact h.ab x hx y (List.mem_append_right _ hy)
  · intro x hx y hy
    rcases List.mem_append.1 hy with hy | hy
    · rcases List.mem_cons.1 hy with rfl | hy
      · exact hL x hx
      · exact wl_trans2 (hL x hx) (hab y (hg.mem_iff.1 hy))
    · exact h.bc x (hLS x hx) y hy
theorem wle_trans {x y z : Nat} (h : wle D x y) (k : wle D y z) : wle D x z := by unfold wle wl at *; omega
theorem adj_sorted : ∀ S : List Nat, (∀ k x y, S[k]? = some x → S[k + 1]? = some y → wle D x y) → S.Pairwise (wle D)
  | [], _ => List.Pairwise.nil
  | [x], _ => List.pairwise_singleton _ _
  | x :: y :: S, h => by
    have ih := adj_sorted (y :: S) (fun k u v hu hv => h (k + 1) u v (by simpa using hu) (by simpa using hv))
    have hxy := h 0 x y (by simp) (by simp)
    refine List.pairwise_cons.2 ⟨fun z hz => ?_, ih⟩
    rcases List.mem_cons.1 hz with rfl | hz
    · exact hxy
    · exact wle_trans hxy ((List.pairwise_cons.1 ih).1 z hz)
theorem split_place {S : List Nat} {k : Nat} (h1 : 1 ≤ k) (h2 : k < S.length) : ∃ s0 T1 q T2, S = s0 :: (T1 ++ q :: T2) ∧ k = 1 + T1.length ∧ S[k]? = some q := by
  cases S with
  | nil => simp at h2
  | cons s0 T =>
    simp only [List.length_cons] at h2
    obtain ⟨k, rfl⟩ : ∃ j, k = j + 1 := ⟨k - 1, by omega⟩
    refine ⟨s0, T.take k, T[k], T.drop (k + 1), ?_, by simp; omega, by simp⟩
    rw [← List.drop_eq_getElem_cons (by omega), List.take_append_drop]
end
section
variable {w0 wr : World} {b : WB} {D : WD} {N bv n c : Nat}
set_option maxRecDepth 100000 in
set_option maxHeartbeats 16000000 in
theorem pdqG_small {A S C : List Nat} (lim : Int) (h : SR w0 wr b D N bv n c (A ++ S ++ C)) (hR : ∀ x ∈ S, x < N) (hn : n ≤ 16) (hc : n ≤ c) (hcm : c ≤ maxLen) {a m : Nat} (ha : a = A.length) (hm : m = A.length + S.length) (hS : S.length ≤ 12) :
    Calls Try.prog 38 #[.slice (some ⟨bv, 0, none⟩) n c, .int .i64 a, .int .i64 m, .int .i64 lim, .func (.func 28) #[.pointer (some ⟨b.s, 0, none⟩)] #[]] wr fun e w' => e = .returned (.tuple #[]) ∧ ∃ S', S'.Perm S ∧ S'.Pairwise (wle D) ∧ SR w0 w' b D N bv n c (A ++ S' ++ C) := by
  have hlen := h.len
  simp only [List.length_append] at hlen
  have HI := Lib.hid (insertionG_calls h hR hn hc hcm ha hm)
  have hle : (m : Int) - (a : Int) ≤ 12 := by omega
  have haz : (0 : Int) ≤ (a : Int) := Int.natCast_nonneg _
  have hmz : (a : Int) ≤ (m : Int) := by omega
  have hm16 : (m : Int) ≤ 16 := by omega
  clear h hR hcm ha hm hS hlen
  go_enter Try.func38, Try.ntmps38
  go_wp2_with fail
  refine wp_loop_rounds 1 ?_
  rw [rounds_succ]
  go_wp2_with fail
  refine HI.out.mono ?_
  rintro e w1 ⟨rfl, h1⟩
  have H1 := Lib.hid h1
  clear h1
  go_wp2_with fail
  (try simp only [Exit.inBlock, Exit.then])
  refine bodyPost_ret (results_none rfl _ _ _) rfl ?_
  exact ⟨rfl, H1.out⟩
set_option maxRecDepth 100000 in
set_option maxHeartbeats 32000000 in
theorem pdq_calls {S0 : List Nat} {lim0 : Nat} (h : SR w0 wr b D N bv n c S0) (hP : Parted D S0) (hR : ∀ x ∈ S0, x < N) (hn : n ≤ 16) (hc : n ≤ c) (hcm : c ≤ maxLen) (hl0 : n ≤ lim0 + 11) (hl1 : lim0 ≤ 64) :
    Calls Try.prog 38 #[.slice (some ⟨bv, 0, none⟩) n c, .int .i64 0, .int .i64 n, .int .i64 lim0, .func (.func 28) #[.pointer (some ⟨b.s, 0, none⟩)] #[]] wr fun e w' => e = .returned (.tuple #[]) ∧ ∃ R', R'.Perm S0 ∧ R'.Pairwise (wle D) ∧ SR w0 w' b D N bv n c R' := by
  have H := Lib.hid h
  have HP := Lib.hid hP
  have HR := Lib.hid hR
  have HLEN := Lib.hid h.len
  have HC := Lib.hid (And.intro hc hcm)
  unfold maxLen at hcm
  clear h hP hR
  go_enter Try.func38, Try.ntmps38
  go_wp2_with fail
  go_loopw [1, 2, 3, 10, 11] (fun u1 u2 u3 u10 u11 wv => ∃ (a m lim : Nat) (bal par : Bool) (A S C : List Nat), u1 = .int .i64 a ∧ u2 = .int .i64 m ∧ u3 = .int .i64 lim ∧ u10 = .bool bal ∧ u11 = .bool par ∧
    a = A.length ∧ m = A.length + S.length ∧ (S.length ≤ lim + 11 ∧ (bal = false → S.length + 1 ≤ lim + 11) ∧ lim ≤ 64) ∧ PI D S0 A S C ∧ SR w0 wv b D N bv n c (A ++ S ++ C)) (fun u1 u2 _ _ _ _ => (intOf u2 - intOf u1).toNat)
  case atStart => exact ⟨0, n, lim0, true, true, [], S0, [], rfl, rfl, rfl, rfl, rfl, rfl, by simp [HLEN.out], ⟨by rw [HLEN.out]; exact hl0, fun h => (by cases h), hl1⟩, PI.start _ _, by simpa using H.out⟩
  case round =>
    clear H
    obtain ⟨a, m, lim, bal, par, A, S, C, rfl, rfl, rfl, rfl, rfl, ha, hm, hlim, hpi, hS⟩ := hrel
    have hlen := hS.len
    simp only [List.length_append] at hlen
    have HA := Lib.hid ha
    have HM := Lib.hid hm
    have HPI := Lib.hid hpi
    have HS := Lib.hid hS
    have hSN : ∀ x ∈ S, x < N := fun x hx => HR.out x (hpi.perm.mem_iff.1 (by simp [hx]))
    have HSN := Lib.hid hSN
    have HLIM := Lib.hid hlim
    have haz : (0 : Int) ≤ (a : Int) := Int.natCast_nonneg _
    have hmz : (a : Int) ≤ (m : Int) := by omega
    have hmn : (m : Int) ≤ (n : Int) := by omega
    have hn16 : (n : Int) ≤ 16 := by omega
    by_cases h12 : S.length ≤ 12
    · have hle : (m : Int) - (a : Int) ≤ 12 := by omega
      have HI := Lib.hid (insertionG_calls HS.out hSN hn HC.out.1 HC.out.2 ha hm)
      clear ha hm hlim hpi hS hSN hlen h12
      go_wp2_with fail
      refine HI.out.mono ?_
      rintro e w1 ⟨rfl, h1⟩
      have H1 := Lib.hid h1
      clear h1
      go_wp2_with fail
      (try simp only [Exit.inBlock, Exit.then])
      refine bodyPost_ret (results_none rfl _ _ _) rfl ?_
      obtain ⟨S', hp', hs', hR'⟩ := H1.out
      exact ⟨rfl, A ++ S' ++ C, (HPI.out.turn hp').perm, (HPI.out.turn hp').done hs', hR'⟩
    · have hle : ¬ (m : Int) - (a : Int) ≤ 12 := by omega
      obtain ⟨lp, rfl⟩ : ∃ lp, lim = lp + 1 := ⟨lim - 1, by omega⟩
      have hlz : (0 : Int) ≤ (lp : Int) := Int.natCast_nonneg _
      have hl64 : (lp : Int) ≤ 63 := by omega
      have hne : ((lp : Int) + 1 == 0) = false := by simp; omega
      have hne2 : (lp : Int) + 1 ≠ 0 := by omega
      have H13 := Lib.hid (show 13 ≤ S.length by omega)
      have HLP := Lib.hid (show (bal = true → S.length ≤ lp + 12) ∧ (bal = false → S.length ≤ lp + 11) by exact ⟨fun _ => by omega, fun e => by have := hlim.2.1 e; omega⟩)
      clear ha hm hlim hpi hS hSN hlen h12 HLIM
      go_upto_if 39 with (fail)
      go_cut [3] (fun u3 wc => ∃ (l1 : Nat) (S1 : List Nat), u3 = .int .i64 l1 ∧ l1 ≤ 64 ∧ S.length ≤ l1 + 11 ∧ S1.Perm S ∧ SR w0 wc b D N bv n c (A ++ S1 ++ C))
      case first => as_aux_lemma =>
        cases bal with
        | true =>
          go_wp2_with fail
          go_meet
          exact ⟨lp + 1, S, by go_num, by omega, by have := HLP.out.1 (by trivial); omega, List.Perm.refl _, HS.out⟩
        | false =>
          have HBR := Lib.hid (break_calls HS.out hn HC.out.1 HC.out.2 a m S.length (.func (.func 28) #[.pointer (some ⟨b.s, 0, none⟩)] #[]) HA.out HM.out rfl H13.out)
          go_wp2_with fail
          refine HBR.out.mono ?_
          rintro e w1 ⟨rfl, h1⟩
          have H1 := Lib.hid h1
          clear h1
          go_wp2_with fail
          go_meet
          obtain ⟨S1, hp1, hs1⟩ := H1.out
          exact ⟨lp, S1, by first | rfl | go_num | (congr 1; omega), by omega, HLP.out.2 (by trivial), hp1, hs1⟩
      case rest =>
      clear HS hne hne2 hlz hl64 hle
      obtain ⟨l1, S1, rfl, hl1b, hll, hp1, hS1⟩ := hcut
      have HLL := Lib.hid hll
      have HP1 := Lib.hid hp1
      have HL1 := Lib.hid hp1.length_eq
      have HS := Lib.hid hS1
      have HPI1 := Lib.hid (HPI.out.turn hp1)
      clear hll hp1 hS1 HPI HLP
      have hm1 : m ≤ n := by omega
      have hl13 : 13 ≤ m - a := by have := HA.out; have := HM.out; have := H13.out; omega
      have HTN := Lib.hid (show ∀ x ∈ A ++ S1 ++ C, x < N from fun x hx => HR.out x (HPI1.out.perm.mem_iff.1 hx))
      have HPV := Lib.hid (pivot_calls HS.out HTN.out hn HC.out.1 HC.out.2 a m hm1 hl13)
      have HAM := Lib.hid (And.intro hm1 hl13)
      clear hm1 hl13
      go_upto_region 15 with ((go_at_call 48; refine HPV.out.mono ?_; rintro e w1 ⟨pv, hint, rfl, hp1, hp2, hh, h1⟩; have t2 : ((hint : Int) == 2) = false := (by simp; omega); have t4 : (hint == 2) = false := (by simp; omega); have H1 := Lib.hid h1; have HPL := Lib.hid (And.intro hp1 hp2); clear h1 hp1 hp2 HPV HS))
      go_cut [75] (fun u75 wx => u75 = .bool (bal && par && decide (hint = 1)) ∧ wx = w1)
      case first => as_aux_lemma =>
        obtain rfl | rfl : hint = 0 ∨ hint = 1 := by omega
        all_goals (cases bal <;> cases par)
        all_goals go_wp2_with fail
        all_goals go_meet
        all_goals exact ⟨rfl, rfl⟩
      case rest =>
      obtain ⟨rfl, rfl⟩ := hcut
      go_upto_if 75 with (fail)
      go_cut [] (fun wx => SR w0 wx b D N bv n c (A ++ S1 ++ C))
      case first => as_aux_lemma =>
        generalize (bal && par && decide (hint = 1)) = yes
        cases yes with
        | false =>
          go_wp2_with fail
          go_meet
          exact H1.out
        | true =>
          have HPT := Lib.hid (partial_calls H1.out HTN.out hn HC.out.1 HC.out.2 a m HAM.out.1 (by have := HAM.out.2; omega))
          go_wp2_with fail
          refine HPT.out.mono ?_
          rintro e w2 ⟨ok, rfl, hok, h2⟩
          have H2 := Lib.hid h2
          have HOK := Lib.hid hok
          clear h2 hok
          cases ok with
          | true =>
            go_wp2_with fail
            (try simp only [Exit.inBlock, Exit.then])
            refine bodyPost_ret (results_none rfl _ _ _) rfl ?_
            refine ⟨rfl, A ++ S1 ++ C, HPI1.out.perm, HPI1.out.done (adj_sorted S1 (fun k x y hx hy => ?_)), H2.out⟩
            have e1 := (List.getElem?_eq_some_iff.1 hy).1
            have e2 := HA.out
            have e3 := HM.out
            have e4 := HL1.out
            exact HOK.out (by trivial) (A.length + k) x y (by omega) (by omega) (by rw [mid_get (by omega) (by omega), show A.length + k - A.length = k by omega]; exact hx) (by rw [mid_get (by omega) (by omega), show A.length + k + 1 - A.length = k + 1 by omega]; exact hy)
          | false =>
            go_wp2_with fail
            go_meet
            exact H2.out
      case rest =>
      have HS := Lib.hid hcut
      obtain ⟨hpv1, hpv2⟩ := HPL.out
      obtain ⟨s0, T1, q, T2, hsp, hspk, hsq⟩ := split_place (S := S1) (k := pv - a) (by omega) (by have := HA.out; have := HM.out; have := HL1.out; omega)
      have HSP := Lib.hid hsp
      have HPVE := Lib.hid (show pv = a + 1 + T1.length by omega)
      have hpq : (A ++ S1 ++ C)[pv]? = some q := by
        have e1 := HA.out
        have e2 := (List.getElem?_eq_some_iff.1 hsq).1
        rw [mid_get (by omega) (by omega), show pv - A.length = pv - a by omega]
        exact hsq
      have HPQ := Lib.hid hpq
      have HQS := Lib.hid (List.mem_of_getElem? hsq)
      have hpz : (0 : Int) ≤ (pv : Int) := Int.natCast_nonneg _
      have hpn : (pv : Int) < (n : Int) := by omega
      clear hcut hsp hspk hsq hpq hpv1 hpv2 t2 t4 hh H1
      go_upto_region 17 with (fail)
      go_cut [97] (fun u97 wx => u97 = .bool false ∧ SR w0 wx b D N bv n c (A ++ S1 ++ C))
      case first => as_aux_lemma =>
        rcases List.eq_nil_or_concat A with rfl | ⟨A, x, rfl⟩
        · obtain rfl : a = 0 := by have := HA.out; simpa using this
          go_wp2_with fail
          go_big_quiet (fail)
          go_wp2_with fail
          go_meet
          exact ⟨rfl, HS.out.below (below_draws _ _ _)⟩
        · rw [List.concat_eq_append] at *
          have haA := HA.out
          simp only [List.length_append, List.length_cons, List.length_nil] at haA
          obtain ⟨ap, rfl⟩ : ∃ ap, a = ap + 1 := ⟨A.length, haA⟩
          have hapz : (0 : Int) ≤ (ap : Int) := Int.natCast_nonneg _
          have hxg : ((A ++ [x]) ++ S1 ++ C)[ap]? = some x := by rw [show ap = A.length by omega]; simp
          have hlt : wl D x q := HPI1.out.ab x (by simp) q (List.mem_append_left _ HQS.out)
          have hxN := HTN.out x (by simp)
          have hqN := HTN.out q (by simp [HQS.out])
          have kx := HS.out.cell hxg
          have kp := HS.out.cell HPQ.out
          have hor := order_calls HS.out.drew.i x q hxN hqN
          have hneg := (cfW_neg D x q).2 hlt
          generalize cfW D x q = r at hor hneg
          have hd : decide (r < 0) = true := decide_eq_true hneg
          have HOR := Lib.hid hor
          have HX := Lib.hid hxg
          have hj1 : (0 : Int) < (ap : Int) + 1 := by omega
          have hj1d : decide ((0 : Int) < (ap : Int) + 1) = true := decide_eq_true hj1
          have hjn2 : (ap : Int) < (n : Int) := by omega
          have r1 : IntKind.i64.wrap ((ap : Int) + 1) = (ap : Int) + 1 := IntWalk.i64_in _ (by omega)
          have r2 : IntKind.i64.wrap (ap : Int) = (ap : Int) := IntWalk.i64_in _ (by omega)
          clear haA hxg hlt hxN hqN hor
          go_wp2_with fail
          go_region_held3 (fun w' => w'.cell? ⟨bv, ap, none⟩ = some (.int .i64 x) ∧ w'.cell? ⟨bv, pv, none⟩ = some (.int .i64 q)) (first | go_keep | exact ⟨kx, kp⟩ | exact hkk)
            ((go_at_call 28; refine HOR.out.mono ?_; rintro e w4 ⟨rfl, hb4⟩; have HS4 := Lib.hid (HS.out.drew.below hb4); have hkk := And.intro (HS4.out.cell HX.out) (HS4.out.cell HPQ.out); clear hb4))
          all_goals go_wp2_with fail
          all_goals clear kx kp hkk
          all_goals go_meet
          all_goals exact ⟨rfl, HS4.out⟩
      case rest =>
      clear HS
      obtain ⟨rfl, hS2⟩ := hcut
      have HS := Lib.hid hS2
      clear hS2 hpz hpn
      have HPA := Lib.hid (partition_calls (fun x hx => HTN.out x (by simp [hx])) hn HC.out.1 HC.out.2 a m pv HA.out (by rw [HM.out, HL1.out]) HSP.out HPVE.out HS.out)
      go_wp2_with fail
      refine HPA.out.mono ?_
      rintro e w5 ⟨L, G, mid, ok, rfl, hmid, hpm, hLp, hGp, h5⟩
      have H5 := Lib.hid h5
      have HPM := Lib.hid hpm
      have HLp := Lib.hid hLp
      have HGp := Lib.hid hGp
      have hlm := hpm.length_eq
      simp only [List.length_append, List.length_cons] at hlm
      have hL1 := HL1.out
      have hA1 := HA.out
      have hM1 := HM.out
      have h13 := H13.out
      have hlen := H5.out.len
      simp only [List.length_append, List.length_cons] at hlen
      have hLN : ∀ x ∈ L, x < N := fun x hx => HTN.out x (by have := hpm.mem_iff.1 (List.mem_append_left _ hx); simp [this])
      have hGN : ∀ x ∈ G, x < N := fun x hx => HTN.out x (by have := hpm.mem_iff.1 (List.mem_append_right L (List.mem_cons_of_mem _ hx)); simp [this])
      have hmidz : (a : Int) ≤ (mid : Int) := by omega
      have hmidm : (mid : Int) + 1 ≤ (m : Int) := by omega
      have HMID := Lib.hid (show mid = a + L.length ∧ m = mid + 1 + G.length by omega)
      by_cases hsh : L.length < G.length + 1
      · have hlt : (mid : Int) - (a : Int) < (m : Int) - (mid : Int) := by omega
        have h5' := h5
        rw [show A ++ (L ++ q :: G) ++ C = A ++ L ++ (q :: G ++ C) by simp] at h5'
        have HRC := Lib.hid (pdqG_small (l1 : Int) h5' hLN hn HC.out.1 HC.out.2 (a := a) (m := mid) hA1 (by omega) (by omega))
        clear h5 h5' hpm hLp hGp hlm hL1 hA1 hM1 h13 hlen hLN hGN hmid hsh HS HPA
        go_wp2_with fail
        refine HRC.out.mono ?_
        rintro e w6 ⟨rfl, h6⟩
        have H6 := Lib.hid h6
        clear h6
        go_wp2_with fail
        go_roundw
        case rel =>
          obtain ⟨Ls, g1, g2, g3⟩ := H6.out
          have g4 := g1.length_eq
          have e1 := HMID.out
          have e2 := HLL.out
          have e3 := HM.out
          have e4 := HA.out
          refine ⟨mid + 1, m, l1, _, ok, A ++ Ls ++ [q], G, C, by go_num, rfl, rfl, rfl, rfl, by simp; omega, by simp; omega, ⟨by omega, fun _ => by omega, by omega⟩, HPI1.out.left HP.out HPM.out HLp.out HGp.out g1 g2, ?_⟩
          rw [show A ++ Ls ++ [q] ++ G ++ C = A ++ Ls ++ (q :: G ++ C) by simp]
          exact g3
        case measure => simp [intOf]; omega
      · have hlt : ¬ (mid : Int) - (a : Int) < (m : Int) - (mid : Int) := by omega
        have h5' := h5
        rw [show A ++ (L ++ q :: G) ++ C = (A ++ L ++ [q]) ++ G ++ C by simp] at h5'
        have HRC := Lib.hid (pdqG_small (l1 : Int) h5' hGN hn HC.out.1 HC.out.2 (a := mid + 1) (m := m) (by simp; omega) (by simp; omega) (by omega))
        clear h5 h5' hpm hLp hGp hlm hL1 hA1 hM1 h13 hlen hLN hGN hmid hsh HS HPA
        go_wp2_with fail
        refine HRC.out.mono ?_
        rintro e w6 ⟨rfl, h6⟩
        have H6 := Lib.hid h6
        clear h6
        go_wp2_with fail
        go_roundw
        case rel =>
          obtain ⟨Gs, g1, g2, g3⟩ := H6.out
          have g4 := g1.length_eq
          have e1 := HMID.out
          have e2 := HLL.out
          have e3 := HM.out
          have e4 := HA.out
          refine ⟨a, mid, l1, _, ok, A, L, q :: Gs ++ C, rfl, rfl, rfl, rfl, rfl, e4, by omega, ⟨by omega, fun _ => by omega, by omega⟩, HPI1.out.right HP.out HPM.out HLp.out HGp.out g1 g2, ?_⟩
          rw [show A ++ L ++ (q :: Gs ++ C) = (A ++ L ++ [q]) ++ Gs ++ C by simp]
          exact g3
        case measure => simp [intOf]; omega
set_option maxRecDepth 100000 in
set_option maxHeartbeats 16000000 in
theorem sorts_all (b : WB) (N : Nat) : Sorts b N 16 := by
  intro w0 wr D bv n c R h hP hR hn hc hcm
  by_cases h12 : n ≤ 12
  · exact sort_small h hR h12 hc hcm
  have hlim : ∃ l : Nat, Lib.bitLen ((n : Int)).toNat = l ∧ n ≤ l + 11 ∧ l ≤ 64 := by
    refine ⟨_, rfl, ?_, ?_⟩
    all_goals (
      obtain rfl | rfl | rfl | rfl : n = 13 ∨ n = 14 ∨ n = 15 ∨ n = 16 := by omega
      all_goals decide)
  obtain ⟨l, hl, hl1, hl2⟩ := hlim
  have HP := Lib.hid (pdq_calls h hP hR hn hc hcm hl1 hl2)
  have hlb := fun W : World => Try.bits_Len n W (by omega) (by omega)
  rw [hl] at hlb
  have HLB := Lib.hid hlb
  have hnz : (0 : Int) ≤ (n : Int) := Int.natCast_nonneg _
  clear h hR hcm hP hlb hl
  go_enter Try.func27, Try.ntmps27
  go_wp2_with fail
  refine (HLB.out _).mono ?_
  rintro e w' ⟨rfl, rfl⟩
  go_wp2_with fail
  refine HP.out.mono ?_
  rintro e w1 ⟨rfl, h1⟩
  have H1 := Lib.hid h1
  clear h1
  go_wp2_with fail
  go_end0
  exact ⟨rfl, H1.out⟩
end
end Go.Proofs.Ytajhfjgndkdbnaa
