/- Plain Lean about queues that share their places: what their nodes say of which lists (Rep), and that pushing and removing keep it so. No program, no condition. -/
import Derived.Test.YtajhfjgndkdbnaaFifo
namespace Go.Proofs.Ytajhfjgndkdbnaa
open Go.RowKit

def headD (l : List Nat) (e : Int) : Int := match l with | [] => e | a :: _ => a
def lastD : List Nat → Int → Int
  | [], p => p
  | a :: r, _ => lastD r a
def Chain (ns : List T3) (q : Nat) : Int → List Nat → Int → Prop
  | _, [], _ => True
  | p, x :: r, e => ns[x]? = some ((q : Int), p, headD r e) ∧ Chain ns q x r e
theorem headD_app (A B : List Nat) (e : Int) : headD (A ++ B) e = headD A (headD B e) := by cases A <;> rfl
theorem lastD_app : ∀ (A B : List Nat) (p : Int), lastD (A ++ B) p = lastD B (lastD A p)
  | [], _, _ => rfl
  | a :: A, B, _ => lastD_app A B a
theorem chain_app {ns : List T3} {q : Nat} : ∀ (A B : List Nat) (p e : Int), Chain ns q p (A ++ B) e ↔ Chain ns q p A (headD B e) ∧ Chain ns q (lastD A p) B e
  | [], B, p, e => by simp [Chain, lastD]
  | a :: A, B, p, e => by
      show (ns[a]? = some ((q : Int), p, headD (A ++ B) e) ∧ Chain ns q a (A ++ B) e) ↔ (ns[a]? = some ((q : Int), p, headD A (headD B e)) ∧ Chain ns q a A (headD B e)) ∧ Chain ns q (lastD A a) B e
      rw [headD_app, chain_app A B a e, and_assoc]
theorem chain_frame {ns ns' : List T3} {q : Nat} : ∀ (l : List Nat) (p e : Int), Chain ns q p l e → (∀ x ∈ l, ns'[x]? = ns[x]?) → Chain ns' q p l e
  | [], _, _, _, _ => trivial
  | a :: r, p, e, h, hf => ⟨(hf a (by simp)).trans h.1, chain_frame r a e h.2 (fun x hx => hf x (by simp [hx]))⟩
theorem chain_mem {ns : List T3} {q : Nat} : ∀ (l : List Nat) (p e : Int), Chain ns q p l e → ∀ x ∈ l, ∃ a b, ns[x]? = some ((q : Int), a, b)
  | [], _, _, _, x, hx => by simp at hx
  | a :: r, p, e, h, x, hx => by
      rcases List.mem_cons.1 hx with rfl | hx
      · exact ⟨_, _, h.1⟩
      · exact chain_mem r a e h.2 x hx
/-- The last node's third word is turned. -/
theorem chain_end {ns ns' : List T3} {q : Nat} {A : List Nat} {y : Nat} {p e e' : Int} (h : Chain ns q p (A ++ [y]) e) (hf : ∀ x ∈ A, ns'[x]? = ns[x]?) (hy : ns'[y]? = some ((q : Int), lastD A p, e')) : Chain ns' q p (A ++ [y]) e' := by
  rw [chain_app] at h ⊢
  exact ⟨chain_frame A p _ h.1 hf, hy, trivial⟩
/-- The first node's second word is turned. -/
theorem chain_begin {ns ns' : List T3} {q : Nat} {B : List Nat} {y : Nat} {p p' e : Int} (h : Chain ns q p (y :: B) e) (hf : ∀ x ∈ B, ns'[x]? = ns[x]?) (hy : ns'[y]? = some ((q : Int), p', headD B e)) : Chain ns' q p' (y :: B) e :=
  ⟨hy, chain_frame B y e h.2 hf⟩

theorem short_nodup : ∀ (N : Nat) (l : List Nat), l.Nodup → (∀ x ∈ l, x < N) → l.length ≤ N
  | 0, l, _, h => by
      cases l with
      | nil => simp
      | cons a r => exact absurd (h a (by simp)) (by omega)
  | N + 1, l, hn, h => by
      have h1 := short_nodup N (l.erase N) (hn.erase N) (fun x hx => by
        have h2 := h x (List.mem_of_mem_erase hx)
        have h3 : x ≠ N := by
          rintro rfl
          exact (List.Nodup.not_mem_erase hn) hx
        omega)
      by_cases hN : N ∈ l
      · rw [List.length_erase_of_mem hN] at h1
        omega
      · rw [List.erase_of_not_mem hN] at h1
        omega

/-- What the nodes say: these lists, of items below N. -/
structure Rep (L : List (List Nat)) (N : Nat) (qs ns : List T3) : Prop where
  ql : qs.length = L.length
  nl : ns.length = N
  q : ∀ (i : Nat) (l : List Nat), L[i]? = some l → qs[i]? = some (headD l (-1), lastD l (-1), (l.length : Int)) ∧ Chain ns i (-1) l (-1)
  n : ∀ x, x < N → (∀ (i : Nat) (l : List Nat), L[i]? = some l → x ∉ l) → ns[x]? = some (-1, -1, -1)
  nd : ∀ (i : Nat) (l : List Nat), L[i]? = some l → l.Nodup
  dj : ∀ (i j : Nat) (l m : List Nat) (x : Nat), L[i]? = some l → L[j]? = some m → x ∈ l → x ∈ m → i = j
  rg : ∀ (i : Nat) (l : List Nat) (x : Nat), L[i]? = some l → x ∈ l → x < N
/-- Is it in any of them? -/
def hasL (L : List (List Nat)) (x : Nat) : Bool := L.any (fun l => l.contains x)
theorem hasL_iff {L : List (List Nat)} {x : Nat} : hasL L x = true ↔ ∃ (i : Nat) (l : List Nat), L[i]? = some l ∧ x ∈ l := by
  unfold hasL
  simp only [List.any_eq_true, List.contains_iff_mem]
  constructor
  · rintro ⟨l, hl, hx⟩
    obtain ⟨i, hi⟩ := List.getElem?_of_mem hl
    exact ⟨i, l, hi, hx⟩
  · rintro ⟨i, l, hi, hx⟩
    exact ⟨l, List.mem_of_getElem? hi, hx⟩
theorem hasL_not {L : List (List Nat)} {x : Nat} (h : hasL L x = false) : ∀ (i : Nat) (l : List Nat), L[i]? = some l → x ∉ l := by
  intro i l hl hx
  rw [hasL_iff.2 ⟨i, l, hl, hx⟩] at h
  cases h
section
variable {L : List (List Nat)} {N : Nat} {qs ns : List T3}
theorem Rep.len_le (h : Rep L N qs ns) {i : Nat} {l : List Nat} (hl : L[i]? = some l) : l.length ≤ N := short_nodup N l (h.nd i l hl) (fun x hx => h.rg i l x hl hx)
theorem Rep.where_in (h : Rep L N qs ns) {i x : Nat} {l : List Nat} (hl : L[i]? = some l) (hx : x ∈ l) : whereF ns x = i := by
  obtain ⟨a, b, hc⟩ := chain_mem l _ _ (h.q i l hl).2 x hx
  unfold whereF
  rw [if_neg (by omega)]
  simp [hc]
theorem Rep.where_out (h : Rep L N qs ns) (x : Int) (hx : x < 0 ∨ (N : Int) ≤ x ∨ hasL L x.toNat = false) : whereF ns x = -1 := by
  unfold whereF
  split
  · rfl
  · rename_i h0
    by_cases hN : x.toNat < N
    · rw [h.n x.toNat hN (hasL_not (by rcases hx with h | h | h; omega; omega; exact h))]
    · rw [List.getElem?_eq_none (by rw [h.nl]; omega)]
theorem Rep.where_iff (h : Rep L N qs ns) (x : Int) : whereF ns x = -1 ↔ (x < 0 ∨ (N : Int) ≤ x ∨ hasL L x.toNat = false) := by
  constructor
  · intro hw
    by_cases h0 : x < 0
    · exact .inl h0
    · by_cases hN : (N : Int) ≤ x
      · exact .inr (.inl hN)
      · refine .inr (.inr ?_)
        cases hh : hasL L x.toNat with
        | false => rfl
        | true =>
          obtain ⟨i, l, hl, hx⟩ := hasL_iff.1 hh
          have := h.where_in hl hx
          rw [show ((x.toNat : Nat) : Int) = x by omega] at this
          omega
  · exact h.where_out x
theorem rep_new (M N : Nat) : Rep (List.replicate M []) N (List.replicate M (-1, -1, 0)) (List.replicate N (-1, -1, -1)) := by
  have hl : ∀ (i : Nat) (l : List Nat), (List.replicate M ([] : List Nat))[i]? = some l → l = [] ∧ i < M := by
    intro i l h
    rw [List.getElem?_replicate] at h
    split at h
    · rename_i hi; exact ⟨(Option.some.inj h).symm, hi⟩
    · cases h
  refine ⟨by simp, by simp, ?_, ?_, ?_, ?_, ?_⟩
  · intro i l h
    obtain ⟨rfl, hi⟩ := hl i l h
    exact ⟨by simp [hi, headD, lastD], trivial⟩
  · intro x hx _
    simp [hx]
  · intro i l h
    rw [(hl i l h).1]
    simp
  · intro i j l m x h _ hx
    rw [(hl i l h).1] at hx
    simp at hx
  · intro i l x h hx
    rw [(hl i l h).1] at hx
    simp at hx

theorem set_look {α : Type} {l : List α} {n i : Nat} {x y : α} (hn : n < l.length) (h : (l.set n y)[i]? = some x) : (i = n ∧ x = y) ∨ (i ≠ n ∧ l[i]? = some x) := by
  by_cases hi : i = n
  · subst hi
    rw [List.getElem?_set_self hn] at h
    exact .inl ⟨rfl, (Option.some.inj h).symm⟩
  · rw [List.getElem?_set_ne (fun e => hi e.symm)] at h
    exact .inr ⟨hi, h⟩

/-- An item goes behind a queue. -/
theorem Rep.push (h : Rep L N qs ns) {i x : Nat} {l : List Nat} (hl : L[i]? = some l) (hx : x < N) (hno : hasL L x = false) {qs' ns' : List T3}
    (hq : qs' = qs.set i (headD (l ++ [x]) (-1), x, (l.length : Int) + 1)) (hlen : ns'.length = ns.length)
    (hnx : ns'[x]? = some ((i : Int), lastD l (-1), -1))
    (hny : ∀ A y, l = A ++ [y] → ns'[y]? = some ((i : Int), lastD A (-1), (x : Int)))
    (hf : ∀ z, z ≠ x → (∀ A y, l = A ++ [y] → z ≠ y) → ns'[z]? = ns[z]?) : Rep (L.set i (l ++ [x])) N qs' ns' := by
  have hil : i < L.length := (List.getElem?_eq_some_iff.1 hl).1
  have hiq : i < qs.length := by rw [h.ql]; exact hil
  have hout := hasL_not hno
  refine ⟨by rw [hq]; simpa using h.ql, by rw [hlen]; exact h.nl, ?_, ?_, ?_, ?_, ?_⟩
  · intro j m hm
    rcases set_look hil hm with ⟨rfl, rfl⟩ | ⟨hj, mm⟩
    · refine ⟨?_, ?_⟩
      · rw [hq, List.getElem?_set_self hiq, lastD_app]
        simp [lastD]
      · have hc := (h.q j l hl).2
        rw [chain_app]
        refine ⟨?_, hnx, trivial⟩
        rcases List.eq_nil_or_concat l with rfl | ⟨A, y, rfl⟩
        · trivial
        · rw [List.concat_eq_append] at *
          refine chain_end hc ?_ (hny A y rfl)
          intro z hz
          apply hf
          · rintro rfl
            exact hout j _ hl (by simp [hz])
          · intro A' y' he
            have hnd := h.nd j _ hl
            have e2 := List.append_inj' he rfl
            obtain ⟨rfl, e3⟩ := e2
            simp at e3
            subst e3
            rintro rfl
            rw [List.nodup_append] at hnd
            exact hnd.2.2 z hz z (by simp) rfl
    · obtain ⟨h1, h2⟩ := h.q j m mm
      refine ⟨by rw [hq, List.getElem?_set_ne (fun e => hj e.symm)]; exact h1, chain_frame m _ _ h2 ?_⟩
      intro z hz
      apply hf
      · rintro rfl
        exact hout j m mm hz
      · rintro A y rfl rfl
        exact hj (h.dj j i m _ z mm hl hz (by simp))
  · intro z hz hzo
    have h1 : z ≠ x := by
      rintro rfl
      exact hzo i (l ++ [z]) (by rw [List.getElem?_set_self hil]) (by simp)
    have h2 : ∀ (j : Nat) (m : List Nat), L[j]? = some m → z ∉ m := by
      intro j m hm hzm
      by_cases hj : j = i
      · subst hj
        rw [hl] at hm
        obtain rfl := Option.some.inj hm
        exact hzo j (l ++ [x]) (by rw [List.getElem?_set_self hil]) (by simp [hzm])
      · exact hzo j m (by rw [List.getElem?_set_ne (fun e => hj e.symm)]; exact hm) hzm
    rw [hf z h1 (fun A y he => by rintro rfl; exact h2 i l hl (by rw [he]; simp))]
    exact h.n z hz h2
  · intro j m hm
    rcases set_look hil hm with ⟨rfl, rfl⟩ | ⟨hj, mm⟩
    · rw [List.nodup_append]
      refine ⟨h.nd j l hl, by simp, ?_⟩
      intro a ha b hb
      simp at hb
      subst hb
      rintro rfl
      exact hout j l hl ha
    · exact h.nd j m mm
  · intro j k m m' z hm hm' hz hz'
    rcases set_look hil hm with ⟨rfl, rfl⟩ | ⟨hj, mm⟩
    · rcases set_look hil hm' with ⟨rfl, _⟩ | ⟨hk, mk⟩
      · rfl
      · rcases List.mem_append.1 hz with hz | hz
        · exact h.dj j k l m' z hl mk hz hz'
        · simp at hz
          subst hz
          exact absurd hz' (hout k m' mk)
    · rcases set_look hil hm' with ⟨rfl, rfl⟩ | ⟨hk, mk⟩
      · rcases List.mem_append.1 hz' with hz' | hz'
        · exact h.dj j k m l z mm hl hz hz'
        · simp at hz'
          subst hz'
          exact absurd hz (hout j m mm)
      · exact h.dj j k m m' z mm mk hz hz'
  · intro j m z hm hz
    rcases set_look hil hm with ⟨rfl, rfl⟩ | ⟨hj, mm⟩
    · rcases List.mem_append.1 hz with hz | hz
      · exact h.rg j l z hl hz
      · simp at hz
        omega
    · exact h.rg j m z mm hz

/-- An item goes out of a queue. -/
theorem Rep.remove (h : Rep L N qs ns) {i x : Nat} {A B : List Nat} (hl : L[i]? = some (A ++ x :: B)) {qs' ns' : List T3}
    (hq : qs' = qs.set i (headD A (headD B (-1)), lastD B (lastD A (-1)), ((A ++ B).length : Int))) (hlen : ns'.length = ns.length)
    (hnx : ns'[x]? = some (-1, -1, -1))
    (hnA : ∀ A' y, A = A' ++ [y] → ns'[y]? = some ((i : Int), lastD A' (-1), headD B (-1)))
    (hnB : ∀ y B', B = y :: B' → ns'[y]? = some ((i : Int), lastD A (-1), headD B' (-1)))
    (hf : ∀ z, z ≠ x → (∀ A' y, A = A' ++ [y] → z ≠ y) → (∀ y B', B = y :: B' → z ≠ y) → ns'[z]? = ns[z]?) : Rep (L.set i (A ++ B)) N qs' ns' := by
  have hil : i < L.length := (List.getElem?_eq_some_iff.1 hl).1
  have hiq : i < qs.length := by rw [h.ql]; exact hil
  have hnd := h.nd i _ hl
  rw [List.nodup_append] at hnd
  obtain ⟨nA, nxB, nAB⟩ := hnd
  rw [List.nodup_cons] at nxB
  obtain ⟨xB, nB⟩ := nxB
  have xA : x ∉ A := fun hx => nAB x hx x (by simp) rfl
  have dAB : ∀ z, z ∈ A → z ∉ B := fun z hz hb => nAB z hz z (by simp [hb]) rfl
  have hin : ∀ z, z ∈ A ++ B → z ∈ A ++ x :: B := by
    intro z hz
    rcases List.mem_append.1 hz with h | h <;> simp [h]
  refine ⟨by rw [hq]; simpa using h.ql, by rw [hlen]; exact h.nl, ?_, ?_, ?_, ?_, ?_⟩
  · intro j m hm
    rcases set_look hil hm with ⟨rfl, rfl⟩ | ⟨hj, mm⟩
    · refine ⟨by rw [hq, List.getElem?_set_self hiq, headD_app, lastD_app], ?_⟩
      have hc := (h.q j _ hl).2
      rw [chain_app] at hc ⊢
      obtain ⟨c1, c2, c3⟩ := hc
      refine ⟨?_, ?_⟩
      · rcases List.eq_nil_or_concat A with rfl | ⟨A', y, rfl⟩
        · trivial
        · rw [List.concat_eq_append] at *
          refine chain_end c1 ?_ (hnA A' y rfl)
          intro z hz
          apply hf
          · rintro rfl
            exact xA (by simp [hz])
          · intro A2 y2 he
            have e2 := List.append_inj' he rfl
            obtain ⟨rfl, e3⟩ := e2
            simp at e3
            subst e3
            rintro rfl
            rw [List.nodup_append] at nA
            exact nA.2.2 z hz z (by simp) rfl
          · rintro y2 B' rfl rfl
            exact dAB z (by simp [hz]) (by simp)
      · cases B with
        | nil => trivial
        | cons y B' =>
          refine chain_begin c3 ?_ (hnB y B' rfl)
          intro z hz
          apply hf
          · rintro rfl
            exact xB (by simp [hz])
          · rintro A' y2 rfl rfl
            exact dAB z (by simp) (by simp [hz])
          · intro y2 B2 he
            injection he with e1 e2
            subst e1
            rintro rfl
            rw [List.nodup_cons] at nB
            exact nB.1 hz
    · obtain ⟨h1, h2⟩ := h.q j m mm
      refine ⟨by rw [hq, List.getElem?_set_ne (fun e => hj e.symm)]; exact h1, chain_frame m _ _ h2 ?_⟩
      intro z hz
      have hzi : z ∉ A ++ x :: B := fun hz2 => hj (h.dj j i m _ z mm hl hz hz2)
      apply hf
      · rintro rfl
        exact hzi (by simp)
      · rintro A' y rfl rfl
        exact hzi (by simp)
      · rintro y B' rfl rfl
        exact hzi (by simp)
  · intro z hz hzo
    by_cases hzx : z = x
    · rw [hzx]; exact hnx
    · have h2 : ∀ (j : Nat) (m : List Nat), L[j]? = some m → z ∉ m := by
        intro j m hm hzm
        by_cases hj : j = i
        · subst hj
          rw [hl] at hm
          obtain rfl := Option.some.inj hm
          refine hzo j (A ++ B) (by rw [List.getElem?_set_self hil]) ?_
          rcases List.mem_append.1 hzm with h | h
          · simp [h]
          · rcases List.mem_cons.1 h with h | h
            · exact absurd h hzx
            · simp [h]
        · exact hzo j m (by rw [List.getElem?_set_ne (fun e => hj e.symm)]; exact hm) hzm
      have hzi := h2 i _ hl
      rw [hf z hzx (fun A' y he => by rintro rfl; exact hzi (by rw [he]; simp)) (fun y B' he => by rintro rfl; exact hzi (by rw [he]; simp))]
      exact h.n z hz h2
  · intro j m hm
    rcases set_look hil hm with ⟨rfl, rfl⟩ | ⟨hj, mm⟩
    · rw [List.nodup_append]
      exact ⟨nA, nB, fun a ha b hb => by rintro rfl; exact dAB a ha hb⟩
    · exact h.nd j m mm
  · intro j k m m' z hm hm' hz hz'
    rcases set_look hil hm with ⟨rfl, rfl⟩ | ⟨hj, mm⟩
    · rcases set_look hil hm' with ⟨rfl, _⟩ | ⟨hk, mk⟩
      · rfl
      · exact h.dj j k _ m' z hl mk (hin z hz) hz'
    · rcases set_look hil hm' with ⟨rfl, rfl⟩ | ⟨hk, mk⟩
      · exact h.dj j k m _ z mm hl hz (hin z hz')
      · exact h.dj j k m m' z mm mk hz hz'
  · intro j m z hm hz
    rcases set_look hil hm with ⟨rfl, rfl⟩ | ⟨hj, mm⟩
    · exact h.rg j _ z hl (hin z hz)
    · exact h.rg j m z mm hz
end
end Go.Proofs.Ytajhfjgndkdbnaa
