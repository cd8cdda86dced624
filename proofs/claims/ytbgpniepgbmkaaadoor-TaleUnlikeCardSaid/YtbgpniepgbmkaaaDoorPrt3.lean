/- The text of a policy, as a list of bytes: its lines, and how long they may be; what a policy that may be has. Plain Lean, no program. No condition. -/
import Derived.Test.YtbgpniepgbmkaaaDoorPrt1
import Derived.Test.YtbgpniepgbmkaaaDoorRef04
import Derived.Test.YtbgpniepgbmkaaaDoorPar
import Derived.Lib.ItoaLen
namespace Go.Proofs.YtbgpniepgbmkaaaDoor

def bsL (s : ByteArray) : List UInt8 := s.data.toList
theorem bsL_len (s : ByteArray) : (bsL s).length = s.size := Array.length_toList
def nmAt (D : List Dm) (i : Int) : List UInt8 := match D[i.toNat]? with
  | some d => bsL d.nm
  | none => []
def labT (d : Dm) : List UInt8 := bsL (printV d.lv d.ct).1
def lineD (d : Dm) : List UInt8 := [100, 111, 109, 97, 105, 110, 32] ++ bsL d.nm ++ [32] ++ labT d ++ [32] ++ Lib.itoa d.ta ++ [32] ++ Lib.itoa d.ob ++ [32] ++ Lib.itoa d.ri ++ [10]
def lineS (D : List Dm) (s : Int × Int) : List UInt8 := [115, 108, 111, 116, 32] ++ nmAt D s.1 ++ [32] ++ Lib.itoa s.2 ++ [10]
def kindW (k : Int) : List UInt8 := if k = 2 then [112, 117, 109, 112] else [99, 101, 108, 108]
def lineK (D : List Dm) (l : Lk) : List UInt8 := kindW l.kd ++ [32] ++ nmAt D l.fr ++ [32] ++ nmAt D l.tt ++ [32] ++ Lib.itoa l.sz ++ [10]
def printL (p : P3) : List UInt8 := p.D.flatMap lineD ++ (p.S.flatMap (lineS p.D) ++ p.K.flatMap (lineK p.D))
def printM (p : P3) : ByteArray × Int := if checkM p.D p.S p.K = 0 then (⟨(printL p).toArray⟩, 0) else (⟨#[]⟩, checkM p.D p.S p.K)
theorem nameLen_two : ∀ (l : List Nat) (n : Nat), nameLen l = some n → l.length ≤ 2 * n
  | [], n, h => by simp
  | [a], n, h => by
    rw [nameLen] at h
    split at h
    · injection h with h; subst h; simp
    · cases h
  | a :: b :: r, n, h => by
    rw [nameLen] at h
    split at h
    · obtain ⟨k, hk, rfl⟩ := Option.map_eq_some_iff.1 h
      have := nameLen_two (b :: r) k hk
      simp only [List.length_cons] at this ⊢
      omega
    · split at h
      · obtain ⟨k, hk, rfl⟩ := Option.map_eq_some_iff.1 h
        have := nameLen_two r k hk
        simp only [List.length_cons]
        omega
      · cases h
theorem nameB_size {s : ByteArray} (h : nameB (bl s 0) = true) : s.size ≤ 24 := by
  unfold nameB at h
  split at h
  · next n hn =>
    have h1 := nameLen_two _ _ hn
    have h2 : (bl s 0).length = s.size := by rw [bl_length]; omega
    have h3 := of_decide_eq_true h
    omega
  · cases h
/-- What a policy that may be has. -/
structure UpP (D : List Dm) (S : List (Int × Int)) (K : List Lk) : Prop where
  d1 : 1 ≤ D.length
  d8 : D.length ≤ 8
  s1 : 1 ≤ S.length
  s16 : S.length ≤ 16
  k8 : K.length ≤ 8
  nm : ∀ (j : Nat) (d : Dm), D[j]? = some d → nameB (bl d.nm 0) = true ∧ findD (D.take j) d.nm < 0
  dm : ∀ d ∈ D, nameB (bl d.nm 0) = true ∧ goodL d.lv d.ct = true ∧ (1 ≤ d.ta ∧ d.ta ≤ 8) ∧ (0 ≤ d.ob ∧ d.ob ≤ 8) ∧ (1 ≤ d.ri ∧ d.ri ≤ 16)
  sl : ∀ s ∈ S, (0 ≤ s.1 ∧ s.1 < D.length) ∧ (1 ≤ s.2 ∧ s.2 ≤ 16)
  has : ∀ i : Nat, i < D.length → ∃ s ∈ S, s.1 = (i : Int)
  lk : ∀ l ∈ K, (0 ≤ l.fr ∧ l.fr < D.length) ∧ (0 ≤ l.tt ∧ l.tt < D.length) ∧ l.fr ≠ l.tt ∧ (l.kd = 1 ∨ l.kd = 2) ∧ (1 ≤ l.sz ∧ l.sz ≤ mostM l.kd) ∧ leqAt D l.fr.toNat l.tt.toNat = true
theorem firstE_all0 {l : List Int} (h : firstE l = 0) : ∀ e ∈ l, e = 0 := by
  induction l with
  | nil => intro e he; cases he
  | cons a r ih =>
    rw [firstE] at h
    split at h
    · next ha =>
      intro e he
      rcases List.mem_cons.1 he with rfl | he
      · exact ha
      · exact ih h e he
    · next ha => exact absurd h ha
theorem inB_iff {n a b : Int} : inB n a b = true ↔ a ≤ n ∧ n ≤ b := by unfold inB; exact decide_eq_true_iff
theorem check_parts {D : List Dm} {S : List (Int × Int)} {K : List Lk} (h : checkM D S K = 0) : (inB D.length 1 8 && (inB S.length 1 16 && decide (K.length ≤ 8))) = true ∧ domsM D = 0 ∧ slotsM S D.length = 0 ∧ linksM D K = 0 := by
  unfold checkM at h
  split at h
  · cases h
  next hin =>
  split at h
  next hd =>
    split at h
    next hs => exact ⟨by simpa using hin, hd, hs, h⟩
    next hs => exact absurd h hs
  next hd => exact absurd h hd
theorem check_all {D : List Dm} {S : List (Int × Int)} {K : List Lk} (h : checkM D S K = 0) : UpP D S K := by
  obtain ⟨hin, hd, hs, hk⟩ := check_parts h
  simp only [Bool.and_eq_true, decide_eq_true_eq] at hin
  obtain ⟨h1, h2, h3⟩ := hin
  rw [inB_iff] at h1 h2
  have hdom : ∀ (j : Nat) (d : Dm), D[j]? = some d → domErr D j d = 0 := fun j d hj => firstE_all0 hd _ (List.mem_of_getElem? (domErrs_at hj))
  have hdp : ∀ (j : Nat) (d : Dm), D[j]? = some d → (nameB (bl d.nm 0) = true ∧ findD (D.take j) d.nm < 0) ∧ goodL d.lv d.ct = true ∧ (1 ≤ d.ta ∧ d.ta ≤ 8) ∧ (0 ≤ d.ob ∧ d.ob ≤ 8) ∧ (1 ≤ d.ri ∧ d.ri ≤ 16) := by
    intro j d hj
    have := hdom j d hj
    unfold domErr at this
    split at this
    · cases this
    next hn =>
    split at this
    · cases this
    next hg =>
    split at this
    · cases this
    next hi =>
    unfold nameBad at hn
    simp only [Bool.or_eq_true, Bool.not_eq_true', decide_eq_true_eq, not_or, Bool.not_eq_false, Int.not_le] at hn
    simp only [Bool.not_eq_false, Bool.and_eq_true, inB_iff] at hi
    exact ⟨hn, by simpa using hg, hi.1, hi.2.1, hi.2.2⟩
  have hse : ∀ s ∈ S, slotErr D.length s = 0 := by
    intro s hm
    unfold slotsM at hs
    split at hs
    · next hz => exact firstE_all0 hz _ (List.mem_map.2 ⟨s, hm, rfl⟩)
    · next hz => exact absurd hs hz
  refine ⟨by omega, by omega, by omega, by omega, h3, fun j d hj => (hdp j d hj).1, fun d hm => ?_, fun s hm => ?_, fun i hi => ?_, fun l hm => ?_⟩
  · obtain ⟨j, hj, rfl⟩ := List.mem_iff_getElem.1 hm
    have := hdp j _ (List.getElem?_eq_getElem hj)
    exact ⟨this.1.1, this.2⟩
  · have := hse s hm
    unfold slotErr at this
    split at this
    · cases this
    · next hi =>
      simp only [Bool.not_eq_false, Bool.and_eq_true, inB_iff] at hi
      omega
  · unfold slotsM at hs
    split at hs
    · split at hs
      · cases hs
      · next hf =>
        unfold hasF at hf
        rw [Bool.not_eq_true, List.any_eq_false] at hf
        have := hf (S.any (fun s => decide (s.1 = (i : Int)))) (by unfold hasL; exact List.mem_map.2 ⟨i, by simpa using hi, rfl⟩)
        have : S.any (fun s => decide (s.1 = (i : Int))) = true := by simpa using this
        rw [List.any_eq_true] at this
        obtain ⟨s, e1, e2⟩ := this
        exact ⟨s, e1, of_decide_eq_true e2⟩
    · next hz => exact absurd hs hz
  · have := firstE_all0 hk (linkErr D l) (List.mem_map.2 ⟨l, hm, rfl⟩)
    rw [link_open rfl] at this
    generalize (if l.kd = 2 then (8 : Int) else 4) = mo at this
    split at this
    · cases this
    next hb =>
    split at this
    · cases this
    next hl =>
    have hb2 : linkBad D.length l = false := by
      cases hx : linkBad D.length l with
      | false => rfl
      | true =>
        have h0 := firstE_all0 hk (linkErr D l) (List.mem_map.2 ⟨l, hm, rfl⟩)
        unfold linkErr at h0
        rw [if_pos hx] at h0
        cases h0
    unfold linkBad at hb2
    simp only [Bool.not_eq_false', Bool.and_eq_true, inB_iff, Bool.not_eq_true', beq_eq_false_iff_ne] at hb2
    simp only [Bool.not_eq_false, Bool.and_eq_true, inB_iff] at hb
    obtain ⟨a, b, c, e⟩ := hb2
    have : l.kd = 1 ∨ l.kd = 2 := by have := hb.1; omega
    exact ⟨by omega, by omega, c, this, e, by simpa using hl⟩
theorem signs_len (c : Int) : ∀ f n, (signsFrom c f n).length ≤ 2 * f
  | 0, n => by simp [signsFrom]
  | f + 1, n => by
    have := signs_len c f (n + 1)
    rw [signsFrom, List.length_append]
    split
    · rw [gk_len]; omega
    · rw [List.length_nil]; omega
theorem text_size (l c : Int) : (textS l c).size ≤ 35 := by
  have h := signs_len c 16 0
  unfold textS
  rw [ByteArray.size_mk', List.size_toArray]
  unfold toB textL
  simp only [List.length_map, List.length_append, List.length_cons, List.length_nil]
  omega
theorem print_size (l c : Int) : (printV l c).1.size ≤ 35 := by
  unfold printV
  split
  · exact text_size l c
  · exact Nat.zero_le _
theorem labT_len (d : Dm) : (labT d).length ≤ 35 := by
  unfold labT
  rw [bsL_len]
  exact print_size _ _
section
variable {D : List Dm} {S : List (Int × Int)} {K : List Lk}
theorem nmAt_len (h : UpP D S K) (i : Int) : (nmAt D i).length ≤ 24 := by
  unfold nmAt
  split
  · next d hd => rw [bsL_len]; exact nameB_size (h.dm d (List.mem_of_getElem? hd)).1
  · exact Nat.zero_le _
theorem itoa_len {n : Int} (h0 : 0 ≤ n) (h1 : n ≤ 16) : (Lib.itoa n).length ≤ 21 := Lib.itoa_length_le n (by omega) (by omega)
theorem lineD_len (h : UpP D S K) {d : Dm} (hd : d ∈ D) : (lineD d).length ≤ 137 := by
  obtain ⟨h1, _, h2, h3, h4⟩ := h.dm d hd
  have a1 := nameB_size h1
  have a2 := labT_len d
  have a3 := itoa_len (n := d.ta) (by omega) (by omega)
  have a4 := itoa_len (n := d.ob) (by omega) (by omega)
  have a5 := itoa_len (n := d.ri) (by omega) (by omega)
  have a6 := bsL_len d.nm
  unfold lineD
  simp only [List.length_append, List.length_cons, List.length_nil]
  omega
theorem lineS_len (h : UpP D S K) {s : Int × Int} (hs : s ∈ S) : (lineS D s).length ≤ 52 := by
  obtain ⟨_, h2⟩ := h.sl s hs
  have a1 := nmAt_len h s.1
  have a3 := itoa_len (n := s.2) (by omega) (by omega)
  unfold lineS
  simp only [List.length_append, List.length_cons, List.length_nil]
  omega
theorem kindW_len (k : Int) : (kindW k).length = 4 := by unfold kindW; split <;> rfl
theorem most_le (k : Int) : mostM k ≤ 8 := by unfold mostM; split <;> (try split) <;> omega
theorem lineK_len (h : UpP D S K) {l : Lk} (hl : l ∈ K) : (lineK D l).length ≤ 77 := by
  obtain ⟨_, _, _, _, h2, _⟩ := h.lk l hl
  have a1 := nmAt_len h l.fr
  have a2 := nmAt_len h l.tt
  have a4 := most_le l.kd
  have a3 := itoa_len (n := l.sz) (by omega) (by omega)
  have a5 := kindW_len l.kd
  unfold lineK
  simp only [List.length_append, List.length_cons, List.length_nil]
  omega
theorem flat_le {α β : Type} {f : α → List β} {m : Nat} : ∀ {l : List α}, (∀ x ∈ l, (f x).length ≤ m) → (l.flatMap f).length ≤ m * l.length
  | [], _ => by simp
  | a :: r, h => by
    have h1 := h a List.mem_cons_self
    have h2 := flat_le (l := r) (f := f) (m := m) (fun x hx => h x (List.mem_cons_of_mem _ hx))
    rw [List.flatMap_cons, List.length_append, List.length_cons, Nat.mul_add]
    omega
theorem flatD_len (h : UpP D S K) (j : Nat) : ((D.take j).flatMap lineD).length ≤ 1096 := by
  have h1 := flat_le (f := lineD) (m := 137) (l := D.take j) (fun x hx => lineD_len h (List.mem_of_mem_take hx))
  have h2 : (D.take j).length ≤ 8 := by rw [List.length_take]; have := h.d8; omega
  omega
theorem flatS_len (h : UpP D S K) (j : Nat) : ((S.take j).flatMap (lineS D)).length ≤ 832 := by
  have h1 := flat_le (f := lineS D) (m := 52) (l := S.take j) (fun x hx => lineS_len h (List.mem_of_mem_take hx))
  have h2 : (S.take j).length ≤ 16 := by rw [List.length_take]; have := h.s16; omega
  omega
theorem flatK_len (h : UpP D S K) (j : Nat) : ((K.take j).flatMap (lineK D)).length ≤ 616 := by
  have h1 := flat_le (f := lineK D) (m := 77) (l := K.take j) (fun x hx => lineK_len h (List.mem_of_mem_take hx))
  have h2 : (K.take j).length ≤ 8 := by rw [List.length_take]; have := h.k8; omega
  omega
theorem flat_take {α β : Type} {f : α → List β} {l : List α} {j : Nat} {x : α} (h : l[j]? = some x) : (l.take (j + 1)).flatMap f = (l.take j).flatMap f ++ f x := by
  rw [List.take_add_one, h, Option.toList_some, List.flatMap_append]
  simp
end
end Go.Proofs.YtbgpniepgbmkaaaDoor
