/- What queues (package fifo) are in memory, and what is, Where, Len and New do. Condition: they lie in memory (IsFq). -/
import Derived.Test.YtajhfjgndkdbnaaRepeat
import Derived.Deep.CutBlock
namespace Go.Proofs.Ytajhfjgndkdbnaa
open Go.RowKit

abbrev T3 := Int × Int × Int
def tri (t : T3) : List Value := [.int .i64 t.1, .int .i64 t.2.1, .int .i64 t.2.2]
def flat (l : List T3) : List Value := l.flatMap tri
def upd (t : T3) (j : Nat) (v : Int) : T3 := match j with | 0 => (v, t.2.1, t.2.2) | 1 => (t.1, v, t.2.2) | _ => (t.1, t.2.1, v)
theorem flat_len (l : List T3) : (flat l).length = l.length * 3 := by
  unfold flat
  induction l with
  | nil => rfl
  | cons a r ih => rw [List.flatMap_cons, List.length_append, ih, List.length_cons]; simp [tri]; omega
theorem flat_get : ∀ (l : List T3) (i j : Nat) (t : T3), l[i]? = some t → j < 3 → (flat l)[i * 3 + j]? = (tri t)[j]?
  | [], i, j, t, h, _ => by simp at h
  | a :: r, 0, j, t, h, hj => by
      simp at h
      subst h
      unfold flat
      rw [List.flatMap_cons, List.getElem?_append_left (by simp [tri]; omega)]
      simp
  | a :: r, i + 1, j, t, h, hj => by
      have ih := flat_get r i j t (by simpa using h) hj
      unfold flat at ih ⊢
      rw [List.flatMap_cons, List.getElem?_append_right (by simp [tri]; omega)]
      rw [← ih]
      congr 1
      simp [tri]
      omega
theorem flat_set : ∀ (l : List T3) (i j : Nat) (t : T3) (v : Int), l[i]? = some t → j < 3 → (flat l).set (i * 3 + j) (.int .i64 v) = flat (l.set i (upd t j v))
  | [], i, j, t, v, h, _ => by simp at h
  | a :: r, 0, j, t, v, h, hj => by
      simp at h
      subst h
      unfold flat
      rw [List.set_cons_zero, List.flatMap_cons, List.flatMap_cons, List.set_append_left _ _ (by simp [tri]; omega)]
      congr 1
      match j, hj with
      | 0, _ => rfl
      | 1, _ => rfl
      | 2, _ => rfl
  | a :: r, i + 1, j, t, v, h, hj => by
      have ih := flat_set r i j t v (by simpa using h) hj
      unfold flat at ih ⊢
      rw [List.set_cons_succ, List.flatMap_cons, List.flatMap_cons, List.set_append_right _ _ (by simp [tri]; omega)]
      congr 1
      rw [← ih]
      congr 1
      simp [tri]
      omega
theorem flat_rep (n : Nat) (a b c : Int) : rep n [Value.int .i64 a, .int .i64 b, .int .i64 c] = flat (List.replicate n (a, b, c)) := by
  unfold rep flat
  induction n with
  | zero => rfl
  | succ n ih => rw [List.replicate_succ, List.replicate_succ, List.flatten_cons, List.flatMap_cons, ih]; rfl

/-- They lie at block g, their queues at bq, their nodes at bn. -/
structure IsFq (w : World) (g bq bn : Nat) (qs ns : List T3) : Prop where
  gb : w.heap[g]? = some (.cells #[.slice (some ⟨bq, 0, none⟩) qs.length qs.length, .slice (some ⟨bn, 0, none⟩) ns.length ns.length] 67 (0, 0))
  qb : w.heap[bq]? = some (.cells (flat qs).toArray 61 (0, 0))
  nb : w.heap[bn]? = some (.cells (flat ns).toArray 65 (0, 0))
  ql : qs.length ≤ 32
  nl : ns.length ≤ 32
section
variable {w w' : World} {g bq bn : Nat} {qs ns : List T3}
theorem IsFq.apart (h : IsFq w g bq bn qs ns) : bq ≠ g ∧ bn ≠ g ∧ bn ≠ bq :=
  ⟨types_apart h.qb h.gb (by decide), types_apart h.nb h.gb (by decide), types_apart h.nb h.qb (by decide)⟩
theorem IsFq.lt (h : IsFq w g bq bn qs ns) : g < w.heap.size ∧ bq < w.heap.size ∧ bn < w.heap.size :=
  ⟨(Array.getElem?_eq_some_iff.1 h.gb).1, (Array.getElem?_eq_some_iff.1 h.qb).1, (Array.getElem?_eq_some_iff.1 h.nb).1⟩
theorem IsFq.frame (h : IsFq w g bq bn qs ns) (hf : ∀ k, k = g ∨ k = bq ∨ k = bn → w'.heap[k]? = w.heap[k]?) : IsFq w' g bq bn qs ns :=
  ⟨(hf g (.inl rfl)).trans h.gb, (hf bq (.inr (.inl rfl))).trans h.qb, (hf bn (.inr (.inr rfl))).trans h.nb, h.ql, h.nl⟩
theorem IsFq.drew (h : IsFq w g bq bn qs ns) : IsFq w.drew g bq bn qs ns := h.frame (fun _ _ => rfl)
theorem IsFq.drewN (h : IsFq w g bq bn qs ns) (n : Nat) : IsFq (w.drewN n) g bq bn qs ns := h.frame (fun _ _ => rfl)
theorem IsFq.alloc (h : IsFq w g bq bn qs ns) (o : Obj) : IsFq (w.alloc o) g bq bn qs ns :=
  h.frame (fun k hk => Below.heap_alloc _ _ _ (by have := h.lt; omega))
theorem IsFq.setQ (h : IsFq w g bq bn qs ns) {i j : Nat} {t : T3} (ht : qs[i]? = some t) (hj : j < 3) (v : Int) : IsFq (w.setCell ⟨bq, i * 3 + j, none⟩ (.int .i64 v)) g bq bn (qs.set i (upd t j v)) ns := by
  have hap := h.apart
  refine ⟨?_, ?_, ?_, by simpa using h.ql, h.nl⟩
  · rw [List.length_set]
    exact (Below.heap_setCell _ _ _ _ (fun e => hap.1 e.symm)).trans h.gb
  · have h2 := blk_set h.qb (i * 3 + j) (.int .i64 v)
    rw [← flat_set qs i j t v ht hj]
    simpa using h2
  · exact (Below.heap_setCell _ _ _ _ (fun e => hap.2.2 e)).trans h.nb
theorem IsFq.setN (h : IsFq w g bq bn qs ns) {i j : Nat} {t : T3} (ht : ns[i]? = some t) (hj : j < 3) (v : Int) : IsFq (w.setCell ⟨bn, i * 3 + j, none⟩ (.int .i64 v)) g bq bn qs (ns.set i (upd t j v)) := by
  have hap := h.apart
  refine ⟨?_, ?_, ?_, h.ql, by simpa using h.nl⟩
  · rw [List.length_set]
    exact (Below.heap_setCell _ _ _ _ (fun e => hap.2.1 e.symm)).trans h.gb
  · exact (Below.heap_setCell _ _ _ _ (fun e => hap.2.2 e.symm)).trans h.qb
  · have h2 := blk_set h.nb (i * 3 + j) (.int .i64 v)
    rw [← flat_set ns i j t v ht hj]
    simpa using h2
/-- What the walk reads. -/
theorem IsFq.g0 (h : IsFq w g bq bn qs ns) : w.cell? ⟨g, 0, none⟩ = some (.slice (some ⟨bq, 0, none⟩) qs.length qs.length) := blk_cell h.gb 0
theorem IsFq.g1 (h : IsFq w g bq bn qs ns) : w.cell? ⟨g, 1, none⟩ = some (.slice (some ⟨bn, 0, none⟩) ns.length ns.length) := blk_cell h.gb 1
theorem IsFq.q0 (h : IsFq w g bq bn qs ns) {i : Nat} {t : T3} (ht : qs[i]? = some t) : w.cell? ⟨bq, i * 3, none⟩ = some (.int .i64 t.1) := by
  rw [blk_cell h.qb]; have := flat_get qs i 0 t ht (by omega); simpa [tri] using this
theorem IsFq.q1 (h : IsFq w g bq bn qs ns) {i : Nat} {t : T3} (ht : qs[i]? = some t) : w.cell? ⟨bq, i * 3 + 1, none⟩ = some (.int .i64 t.2.1) := by
  rw [blk_cell h.qb]; have := flat_get qs i 1 t ht (by omega); simpa [tri] using this
theorem IsFq.q2 (h : IsFq w g bq bn qs ns) {i : Nat} {t : T3} (ht : qs[i]? = some t) : w.cell? ⟨bq, i * 3 + 2, none⟩ = some (.int .i64 t.2.2) := by
  rw [blk_cell h.qb]; have := flat_get qs i 2 t ht (by omega); simpa [tri] using this
theorem IsFq.n0 (h : IsFq w g bq bn qs ns) {i : Nat} {t : T3} (ht : ns[i]? = some t) : w.cell? ⟨bn, i * 3, none⟩ = some (.int .i64 t.1) := by
  rw [blk_cell h.nb]; have := flat_get ns i 0 t ht (by omega); simpa [tri] using this
theorem IsFq.n1 (h : IsFq w g bq bn qs ns) {i : Nat} {t : T3} (ht : ns[i]? = some t) : w.cell? ⟨bn, i * 3 + 1, none⟩ = some (.int .i64 t.2.1) := by
  rw [blk_cell h.nb]; have := flat_get ns i 1 t ht (by omega); simpa [tri] using this
theorem IsFq.n2 (h : IsFq w g bq bn qs ns) {i : Nat} {t : T3} (ht : ns[i]? = some t) : w.cell? ⟨bn, i * 3 + 2, none⟩ = some (.int .i64 t.2.2) := by
  rw [blk_cell h.nb]; have := flat_get ns i 2 t ht (by omega); simpa [tri] using this
theorem IsFq.qf (h : IsFq w g bq bn qs ns) (o : Nat) : w.frozen? ⟨bq, o, none⟩ = false := blk_free h.qb o
theorem IsFq.nf (h : IsFq w g bq bn qs ns) (o : Nat) : w.frozen? ⟨bn, o, none⟩ = false := blk_free h.nb o
end

def inR (n : Int) (l : List T3) : Bool := decide (0 ≤ n ∧ n < l.length)
theorem fis_nil (n : Int) (w : World) : Calls Try.prog 35 #[.pointer none, .int .i64 n] w fun e w' => e = .returned (.bool false) ∧ w = w' := by
  go_enter Try.func35, Try.ntmps35
  go_wp2
  go_ret
  exact ⟨rfl, rfl⟩
set_option maxHeartbeats 1000000 in
theorem fis_calls {w : World} {g bq bn : Nat} {qs ns : List T3} (h : IsFq w g bq bn qs ns) (n : Int) : Calls Try.prog 35 #[.pointer (some ⟨g, 0, none⟩), .int .i64 n] w fun e w' => e = .returned (.bool (inR n qs)) ∧ w = w' := by
  have c0 := h.g0
  have H := Lib.hid (show inR n qs = decide (0 ≤ n ∧ n < qs.length) from rfl)
  clear h
  go_enter Try.func35, Try.ntmps35
  by_cases a : 0 ≤ n
  · by_cases b : n < (qs.length : Int)
    · go_wp2_with fail
      go_ret
      exact ⟨by rw [H.out, decide_eq_true ⟨a, b⟩]; rfl, rfl⟩
    · go_wp2_with fail
      go_ret
      exact ⟨by rw [H.out, decide_eq_false (by omega)]; rfl, rfl⟩
  · go_wp2_with fail
    go_ret
    exact ⟨by rw [H.out, decide_eq_false (by omega)]; rfl, rfl⟩

/-- In which queue an item is. -/
def whereF (ns : List T3) (x : Int) : Int := if x < 0 then -1 else match ns[x.toNat]? with | some t => t.1 | none => -1
theorem fwhere_nil (n : Int) (w : World) : Calls Try.prog 30 #[.pointer none, .int .i64 n] w fun e w' => e = .returned (.int .i64 (-1)) ∧ w = w' := by
  go_enter Try.func30, Try.ntmps30
  go_wp2
  go_ret
  exact ⟨rfl, rfl⟩
set_option maxHeartbeats 1000000 in
theorem fwhere_calls {w : World} {g bq bn : Nat} {qs ns : List T3} (h : IsFq w g bq bn qs ns) (x : Int) : Calls Try.prog 30 #[.pointer (some ⟨g, 0, none⟩), .int .i64 x] w fun e w' => e = .returned (.int .i64 (whereF ns x)) ∧ w = w' := by
  have c1 := h.g1
  have hnl := h.nl
  by_cases a : x < 0
  · have hv : whereF ns x = -1 := by unfold whereF; rw [if_pos a]
    rw [hv]
    clear h hv
    go_enter Try.func30, Try.ntmps30
    go_wp2_with fail
    go_ret
    exact ⟨rfl, rfl⟩
  · by_cases b : x < (ns.length : Int)
    · obtain ⟨i, rfl⟩ : ∃ i : Nat, x = i := ⟨x.toNat, by omega⟩
      obtain ⟨t, ht⟩ : ∃ t, ns[i]? = some t := ⟨_, List.getElem?_eq_getElem (by omega)⟩
      have hv : whereF ns i = t.1 := by unfold whereF; rw [if_neg (by omega)]; simp [ht]
      rw [hv]
      have d0 := h.n0 ht
      obtain ⟨len, hlen⟩ : ∃ len, len = ns.length := ⟨_, rfl⟩
      rw [← hlen] at c1 b hnl
      clear h hv ht hlen
      have b2 : i < len := by omega
      have i0 : (0 : Int) ≤ (i : Int) := Int.natCast_nonneg _
      go_enter Try.func30, Try.ntmps30
      go_wp2_with fail
      go_ret
      exact ⟨rfl, rfl⟩
    · have hv : whereF ns x = -1 := by unfold whereF; rw [if_neg a, List.getElem?_eq_none (by omega)]
      rw [hv]
      clear h hv
      have b2 : (ns.length : Int) ≤ x := by omega
      go_enter Try.func30, Try.ntmps30
      go_wp2_with fail
      go_ret
      exact ⟨rfl, rfl⟩
end Go.Proofs.Ytajhfjgndkdbnaa
