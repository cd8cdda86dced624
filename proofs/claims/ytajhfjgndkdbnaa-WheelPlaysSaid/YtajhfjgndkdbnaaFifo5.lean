/- What fifo's methods do, said of lists: Push, Remove, Pop, Where, Len, New. Condition: the queues lie in memory (IsF). -/
import Derived.Test.YtajhfjgndkdbnaaFifo4
import Derived.Test.YtajhfjgndkdbnaaFifoPure
namespace Go.Proofs.Ytajhfjgndkdbnaa
open Go.RowKit BigFrame

/-- Queues at block g that hold the lists L, of items below N. -/
def IsF (w : World) (g bq bn : Nat) (L : List (List Nat)) (N : Nat) : Prop := ∃ qs ns, IsFq w g bq bn qs ns ∧ Rep L N qs ns
theorem IsF.frame {w w' : World} {g bq bn N : Nat} {L : List (List Nat)} (h : IsF w g bq bn L N) (hf : ∀ k, k = g ∨ k = bq ∨ k = bn → w'.heap[k]? = w.heap[k]?) : IsF w' g bq bn L N := by
  obtain ⟨qs, ns, h1, h2⟩ := h
  exact ⟨qs, ns, h1.frame hf, h2⟩
theorem IsF.lt {w : World} {g bq bn N : Nat} {L : List (List Nat)} (h : IsF w g bq bn L N) : g < w.heap.size ∧ bq < w.heap.size ∧ bn < w.heap.size := by
  obtain ⟨qs, ns, h1, h2⟩ := h
  exact h1.lt

def pushL (L : List (List Nat)) (N : Nat) (n x : Int) : Bool × List (List Nat) :=
  if 0 ≤ n ∧ n < L.length ∧ 0 ≤ x ∧ x < N ∧ hasL L x.toNat = false then (true, L.set n.toNat ((L[n.toNat]?.getD []) ++ [x.toNat])) else (false, L)
def removeL (L : List (List Nat)) (x : Int) : Bool × List (List Nat) := if 0 ≤ x ∧ hasL L x.toNat = true then (true, L.map (fun l => l.erase x.toNat)) else (false, L)
def popL (L : List (List Nat)) (n : Int) : Int × Bool × List (List Nat) :=
  if n < 0 then (0, false, L) else match L[n.toNat]? with | some (x :: r) => ((x : Int), true, L.set n.toNat r) | _ => (0, false, L)
def whereL (L : List (List Nat)) (x : Int) : Int := if x < 0 then -1 else match L.findIdx? (fun l => l.contains x.toNat) with | some i => (i : Int) | none => -1
def lenL (L : List (List Nat)) (n : Int) : Int := if n < 0 then 0 else match L[n.toNat]? with | some l => (l.length : Int) | none => 0

section
variable {L : List (List Nat)} {N : Nat} {qs ns : List T3}
theorem Rep.whereL (h : Rep L N qs ns) (x : Int) : whereF ns x = whereL L x := by
  unfold Proofs.Ytajhfjgndkdbnaa.whereL
  by_cases h0 : x < 0
  · rw [if_pos h0]
    exact h.where_out x (.inl h0)
  · rw [if_neg h0]
    cases hf : L.findIdx? (fun l => l.contains x.toNat) with
    | none =>
      apply h.where_out
      refine .inr (.inr ?_)
      rw [List.findIdx?_eq_none_iff] at hf
      cases hh : hasL L x.toNat with
      | false => rfl
      | true =>
        obtain ⟨i, l, hl, hx⟩ := hasL_iff.1 hh
        have := hf l (List.mem_of_getElem? hl)
        simp at this
        exact absurd hx this
    | some i =>
      rw [List.findIdx?_eq_some_iff_getElem] at hf
      obtain ⟨hi, hc, _⟩ := hf
      have hx : x.toNat ∈ L[i] := by simpa using hc
      have := h.where_in (List.getElem?_eq_getElem hi) hx
      rw [show ((x.toNat : Nat) : Int) = x by omega] at this
      exact this
theorem Rep.lenL (h : Rep L N qs ns) (n : Int) : lenF qs n = lenL L n := by
  unfold lenF Proofs.Ytajhfjgndkdbnaa.lenL
  split
  · rfl
  · cases hl : L[n.toNat]? with
    | none => rw [List.getElem?_eq_none (by rw [h.ql]; exact List.getElem?_eq_none_iff.1 hl)]
    | some l => rw [(h.q _ _ hl).1]
theorem Rep.inR (h : Rep L N qs ns) (n : Int) : inR n qs = decide (0 ≤ n ∧ n < L.length) := by unfold Proofs.Ytajhfjgndkdbnaa.inR; rw [h.ql]
theorem erase_map (h : Rep L N qs ns) {i x : Nat} {A B : List Nat} (hl : L[i]? = some (A ++ x :: B)) : L.map (fun l => l.erase x) = L.set i (A ++ B) := by
  have hil : i < L.length := (List.getElem?_eq_some_iff.1 hl).1
  have hnd := h.nd i _ hl
  rw [List.nodup_append] at hnd
  have xA : x ∉ A := fun hx => hnd.2.2 x hx x (by simp) rfl
  apply List.ext_getElem?
  intro j
  rw [List.getElem?_map]
  by_cases hj : i = j
  · subst hj
    rw [List.getElem?_set_self hil, hl]
    simp only [Option.map_some]
    rw [List.erase_append_right _ xA]
    simp
  · rw [List.getElem?_set_ne hj]
    cases hm : L[j]? with
    | none => rfl
    | some m =>
      simp only [Option.map_some]
      rw [List.erase_of_not_mem]
      intro hx
      exact hj (h.dj i j _ m x hl hm (by simp) hx)
end

theorem where_calls {w : World} {g bq bn N : Nat} {L : List (List Nat)} (h : IsF w g bq bn L N) (x : Int) :
    Calls Try.prog 30 #[.pointer (some ⟨g, 0, none⟩), .int .i64 x] w fun e w' => e = .returned (.int .i64 (whereL L x)) ∧ w = w' := by
  obtain ⟨qs, ns, h1, h2⟩ := h
  have := fwhere_calls h1 x
  rw [h2.whereL x] at this
  exact this
theorem new_calls (a b : Int) (w : World) :
    Calls Try.prog 22 #[.int .i64 a, .int .i64 b] w fun e w' => ∃ g bq bn, e = .returned (.pointer (some ⟨g, 0, none⟩)) ∧ IsF w' g bq bn (List.replicate (heldN a) []) (heldN b) ∧ w.heap.size ≤ g ∧ w.heap.size ≤ bq ∧ w.heap.size ≤ bn ∧ Below w.heap.size w w' :=
  (fnew_calls a b w).mono fun _ _ ⟨g, bq, bn, h1, h2, h3⟩ => ⟨g, bq, bn, h1, ⟨_, _, h2, rep_new _ _⟩, h3⟩
theorem push_calls {w : World} {g bq bn N : Nat} {L : List (List Nat)} (h : IsF w g bq bn L N) (n x : Int) :
    Calls Try.prog 25 #[.pointer (some ⟨g, 0, none⟩), .int .i64 n, .int .i64 x] w fun e w' => e = .returned (.bool (pushL L N n x).1) ∧ IsF w' g bq bn (pushL L N n x).2 N ∧ Ext w w' (FqF bq bn) := by
  obtain ⟨qs, ns, h1, h2⟩ := h
  by_cases hc : 0 ≤ n ∧ n < L.length ∧ 0 ≤ x ∧ x < N ∧ hasL L x.toNat = false
  · have hv : pushL L N n x = (true, L.set n.toNat ((L[n.toNat]?.getD []) ++ [x.toNat])) := by unfold pushL; rw [if_pos hc]
    rw [hv]
    obtain ⟨c1, c2, c3, c4, c5⟩ := hc
    obtain ⟨i, rfl⟩ : ∃ i : Nat, n = i := ⟨n.toNat, by omega⟩
    obtain ⟨y, rfl⟩ : ∃ y : Nat, x = y := ⟨x.toNat, by omega⟩
    simp only [Int.toNat_natCast] at c5 ⊢
    obtain ⟨l, hl⟩ : ∃ l, L[i]? = some l := ⟨_, List.getElem?_eq_getElem (by omega)⟩
    rw [hl]
    simp only [Option.getD_some]
    have hq := (h2.q i l hl).1
    have hnx := h2.n y (by omega) (hasL_not c5)
    have hlen : l.length ≤ 32 := Nat.le_trans (h2.len_le hl) (by rw [← h2.nl]; exact h1.nl)
    rcases List.eq_nil_or_concat l with rfl | ⟨A, z, rfl⟩
    · refine (fpush_first h1 i y (-1) 0 _ hq hnx rfl (by omega) (by omega)).mono ?_
      rintro e w' ⟨rfl, k1, k2⟩
      refine ⟨rfl, ⟨_, _, k1, h2.push hl (by omega) c5 rfl (by simp) (set_get hnx _) (fun A y h => by simp at h) (fun z hz _ => List.getElem?_set_ne (fun e => hz e.symm))⟩, k2⟩
    · rw [List.concat_eq_append] at *
      have hzy : z ≠ y := by
        rintro rfl
        exact hasL_not c5 i _ hl (by simp)
      have hz : ns[z]? = some ((i : Int), lastD A (-1), -1) := by
        have hch := (h2.q i _ hl).2
        rw [chain_app] at hch
        exact hch.2.1
      have hlast : lastD (A ++ [z]) (-1) = (z : Int) := by rw [lastD_app]; rfl
      rw [hlast] at hq
      refine (fpush_behind h1 i y z _ _ _ _ hq hz hzy hnx rfl (by omega) (by simp at hlen ⊢; omega)).mono ?_
      rintro e w' ⟨rfl, k1, k2⟩
      refine ⟨rfl, ⟨_, _, k1, h2.push hl (by omega) c5 ?_ (by simp) ?_ ?_ ?_⟩, k2⟩
      · rw [headD_app (A ++ [z]), show headD (A ++ [z]) (headD [y] (-1)) = headD (A ++ [z]) (-1) by cases A <;> rfl]
      · rw [List.getElem?_set_ne hzy, hlast]
        exact set_get hnx _
      · intro A' y' he
        have e2 := List.append_inj' he rfl
        obtain ⟨rfl, e3⟩ := e2
        simp at e3
        subst e3
        have h3 : (ns.set y ((i : Int), (z : Int), -1))[z]? = some ((i : Int), lastD A (-1), -1) := by rw [List.getElem?_set_ne (fun e => hzy e.symm)]; exact hz
        exact set_get h3 _
      · intro u hu1 hu2
        rw [List.getElem?_set_ne (fun e => hu2 A z rfl e.symm), List.getElem?_set_ne (fun e => hu1 e.symm)]
  · have hv : pushL L N n x = (false, L) := by unfold pushL; rw [if_neg hc]
    rw [hv]
    refine (fpush_no h1 n x ?_).mono ?_
    · rw [h2.inR n, h2.nl]
      by_cases a : 0 ≤ n ∧ n < L.length
      · by_cases b : x < 0
        · exact .inr (.inl b)
        · by_cases c : (N : Int) ≤ x
          · exact .inr (.inr (.inl c))
          · refine .inr (.inr (.inr ?_))
            intro he
            have := (h2.where_iff x).1 he
            rcases this with h | h | h
            · exact b h
            · exact c h
            · exact hc ⟨a.1, a.2, by omega, by omega, h⟩
      · exact .inl (decide_eq_false a)
    · rintro e w' ⟨rfl, rfl⟩
      exact ⟨rfl, ⟨qs, ns, h1, h2⟩, Ext.refl _ _⟩
theorem remove_calls {w : World} {g bq bn N : Nat} {L : List (List Nat)} (h : IsF w g bq bn L N) (x : Int) :
    Calls Try.prog 23 #[.pointer (some ⟨g, 0, none⟩), .int .i64 x] w fun e w' => e = .returned (.bool (removeL L x).1) ∧ IsF w' g bq bn (removeL L x).2 N ∧ Ext w w' (FqF bq bn) := by
  obtain ⟨qs, ns, h1, h2⟩ := h
  by_cases hc : 0 ≤ x ∧ hasL L x.toNat = true
  · have hv : removeL L x = (true, L.map (fun l => l.erase x.toNat)) := by unfold removeL; rw [if_pos hc]
    rw [hv]
    obtain ⟨c1, c2⟩ := hc
    obtain ⟨y, rfl⟩ : ∃ y : Nat, x = y := ⟨x.toNat, by omega⟩
    simp only [Int.toNat_natCast] at c2 ⊢
    obtain ⟨i, l, hl, hx⟩ := hasL_iff.1 c2
    obtain ⟨A, B, rfl⟩ := List.append_of_mem hx
    rw [erase_map h2 hl]
    obtain ⟨hq, hch⟩ := h2.q i _ hl
    rw [chain_app] at hch
    obtain ⟨chA, hny, chB⟩ := hch
    have hlen : (A ++ y :: B).length ≤ 32 := Nat.le_trans (h2.len_le hl) (by rw [← h2.nl]; exact h1.nl)
    have hnd := h2.nd i _ hl
    rw [List.nodup_append] at hnd
    obtain ⟨nA, nyB, nAB⟩ := hnd
    rw [List.nodup_cons] at nyB
    obtain ⟨yB, nB⟩ := nyB
    have yA : y ∉ A := fun hx => nAB y hx y (by simp) rfl
    have hs : ((A ++ y :: B).length : Int) - 1 = ((A ++ B).length : Int) := by simp; omega
    have hs0 : (0 : Int) < ((A ++ y :: B).length : Int) := by simp; omega
    have hs1 : ((A ++ y :: B).length : Int) < 1000 := by omega
    rcases List.eq_nil_or_concat A with rfl | ⟨A', p, rfl⟩
    · cases B with
      | nil =>
        refine (fremove_first_last h1 y i _ _ _ hny hq hs0 hs1).mono ?_
        rintro e w' ⟨rfl, k1, k2⟩
        refine ⟨rfl, ⟨_, _, k1, h2.remove hl (by rw [hs]; rfl) (by simp) (set_get hny _) (fun A' y h => by simp at h) (fun y B' h => by cases h) (fun z hz _ _ => List.getElem?_set_ne (fun e => hz e.symm))⟩, k2⟩
      | cons r B' =>
        have hry : r ≠ y := by rintro rfl; exact yB (by simp)
        have hnr := chB.1
        refine (fremove_first_more h1 y i _ _ _ r _ hnr hry hny hq hs0 hs1).mono ?_
        rintro e w' ⟨rfl, k1, k2⟩
        refine ⟨rfl, ⟨_, _, k1, h2.remove hl ?_ (by simp) ?_ (fun A' y h => by simp at h) ?_ ?_⟩, k2⟩
        · rw [hs]; rfl
        · exact set_get (x := ((i : Int), -1, (r : Int))) (by rw [List.getElem?_set_ne hry]; exact hny) _
        · intro u B2 he
          injection he with e1 e2
          subst e1 e2
          rw [List.getElem?_set_ne (fun e => hry e.symm)]
          exact set_get hnr _
        · intro z hz _ hzB
          rw [List.getElem?_set_ne (fun e => hz e.symm), List.getElem?_set_ne (fun e => hzB r B' rfl e.symm)]
    · rw [List.concat_eq_append] at *
      have hpy : p ≠ y := by rintro rfl; exact yA (by simp)
      have hlast : lastD (A' ++ [p]) (-1) = (p : Int) := by rw [lastD_app]; rfl
      rw [hlast] at hny
      rw [chain_app] at chA
      have hnp := chA.2.1
      have hhd : ∀ e, headD (A' ++ [p]) e = headD (A' ++ [p]) (-1) := by intro e; cases A' <;> rfl
      cases B with
      | nil =>
        refine (fremove_mid_last h1 y i _ _ _ p _ hnp hpy hny hq hs0 hs1).mono ?_
        rintro e w' ⟨rfl, k1, k2⟩
        refine ⟨rfl, ⟨_, _, k1, h2.remove hl ?_ (by simp) ?_ ?_ (fun y B' h => by cases h) ?_⟩, k2⟩
        · rw [hs, headD_app, hhd (headD [y] (-1)), hhd (headD [] (-1)), hlast]; rfl
        · exact set_get (x := ((i : Int), (p : Int), -1)) (by rw [List.getElem?_set_ne hpy]; exact hny) _
        · intro A2 u he
          have e2 := List.append_inj' he rfl
          obtain ⟨rfl, e3⟩ := e2
          simp at e3
          subst e3
          rw [List.getElem?_set_ne (fun e => hpy e.symm)]
          exact set_get hnp _
        · intro z hz hzA _
          rw [List.getElem?_set_ne (fun e => hz e.symm), List.getElem?_set_ne (fun e => hzA A' p rfl e.symm)]
      | cons r B' =>
        have hry : r ≠ y := by rintro rfl; exact yB (by simp)
        have hpr : p ≠ r := by rintro rfl; exact nAB p (by simp) p (by simp) rfl
        have hnr := chB.1
        refine (fremove_mid_more h1 y i _ _ _ p _ hnp hpy r _ hnr hry hpr hny hq hs0 hs1).mono ?_
        rintro e w' ⟨rfl, k1, k2⟩
        have t1 := set_get (y := ((i : Int), lastD A' (-1), (r : Int))) hnp
        refine ⟨rfl, ⟨_, _, k1, h2.remove hl ?_ (by simp) ?_ ?_ ?_ ?_⟩, k2⟩
        · rw [hs, headD_app, hhd (headD (y :: r :: B') (-1)), hhd (headD (r :: B') (-1)), hlast, lastD_app, hlast]; rfl
        · exact set_get (x := ((i : Int), (p : Int), (r : Int))) (by rw [List.getElem?_set_ne hry, List.getElem?_set_ne hpy]; exact hny) _
        · intro A2 u he
          have e2 := List.append_inj' he rfl
          obtain ⟨rfl, e3⟩ := e2
          simp at e3
          subst e3
          rw [List.getElem?_set_ne (fun e => hpy e.symm), List.getElem?_set_ne (fun e => hpr e.symm)]
          exact t1
        · intro u B2 he
          injection he with e1 e2
          subst e1 e2
          rw [List.getElem?_set_ne (fun e => hry e.symm), hlast]
          exact set_get (by rw [List.getElem?_set_ne hpr]; exact hnr) _
        · intro z hz hzA hzB
          rw [List.getElem?_set_ne (fun e => hz e.symm), List.getElem?_set_ne (fun e => hzB r B' rfl e.symm), List.getElem?_set_ne (fun e => hzA A' p rfl e.symm)]
  · have hv : removeL L x = (false, L) := by unfold removeL; rw [if_neg hc]
    rw [hv]
    refine (fremove_no h1 x ((h2.where_out x) ?_)).mono ?_
    · by_cases b : x < 0
      · exact .inl b
      · refine .inr (.inr ?_)
        cases hh : hasL L x.toNat with
        | false => rfl
        | true => exact absurd ⟨by omega, hh⟩ hc
    · rintro e w' ⟨rfl, rfl⟩
      exact ⟨rfl, ⟨qs, ns, h1, h2⟩, Ext.refl _ _⟩
end Go.Proofs.Ytajhfjgndkdbnaa
