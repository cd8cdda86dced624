/- An object in memory: a struct behind a pointer whose fields are values or rows of its own; what stores and appends do to it. No condition beyond what each lemma states. -/
import Derived.Test.YtbgpniepgbmkaaaDoorBase
import Derived.Deep.AppendLies
import Derived.Deep.RegionLaw
namespace Go.Proofs.YtbgpniepgbmkaaaDoor
open Go.RowKit

inductive Fld where
  | val (v : Value)
  | row (e : TypeId) (size n : Nat) (xs : List Value)

def FldOk (w : World) (g : Nat) (v : Value) : Fld → Prop
  | .val u => v = u
  | .row e size n xs => w.ownsRow 0 e size v n xs ∧ v.ownBlock ≠ some g

/-- The blocks of an object. -/
def foot (g : Nat) (fs : List Fld) (vs : List Value) (k : Nat) : Prop :=
  k = g ∨ ∃ (i : Nat) (v : Value) (e : TypeId) (s n : Nat) (xs : List Value), vs[i]? = some v ∧ fs[i]? = some (.row e s n xs) ∧ v.ownBlock = some k

structure IsObj (w : World) (g : Nat) (T : TypeId) (fs : List Fld) (vs : List Value) : Prop where
  blk : w.heap[g]? = some (.cells vs.toArray T (0, 0))
  len : vs.length = fs.length
  fld : ∀ (i : Nat) (v : Value) (f : Fld), vs[i]? = some v → fs[i]? = some f → FldOk w g v f
  apart : ∀ (i j : Nat) (v v' : Value) (e s n e' s' n' : Nat) (xs xs' : List Value) (k : Nat), i ≠ j → vs[i]? = some v → fs[i]? = some (.row e s n xs) → vs[j]? = some v' → fs[j]? = some (.row e' s' n' xs') → v.ownBlock = some k → v'.ownBlock ≠ some k

theorem IsObj.lt {w : World} {g : Nat} {T : TypeId} {fs : List Fld} {vs : List Value} (h : IsObj w g T fs vs) : ∀ k, foot g fs vs k → k < w.heap.size := by
  rintro k (rfl | ⟨i, v, e, s, n, xs, h1, h2, h3⟩)
  · exact lt_of_block h.blk
  · exact ((h.fld i v _ h1 h2).1.lt k h3).2
theorem IsObj.frame {w w' : World} {g : Nat} {T : TypeId} {fs : List Fld} {vs : List Value} (h : IsObj w g T fs vs) (hs : ∀ k, foot g fs vs k → w'.heap[k]? = w.heap[k]?) : IsObj w' g T fs vs := by
  refine ⟨(hs g (.inl rfl)).trans h.blk, h.len, fun i v f hv hf => ?_, h.apart⟩
  have := h.fld i v f hv hf
  cases f with
  | val u => exact this
  | row e s n xs => exact ⟨owns_same this.1 (fun k hk => hs k (.inr ⟨i, v, e, s, n, xs, hv, hf, hk⟩)), this.2⟩
theorem IsObj.drew {w : World} {g : Nat} {T : TypeId} {fs : List Fld} {vs : List Value} (h : IsObj w g T fs vs) : IsObj w.drew g T fs vs := h.frame (fun _ _ => rfl)
theorem IsObj.drewN {w : World} {g : Nat} {T : TypeId} {fs : List Fld} {vs : List Value} (h : IsObj w g T fs vs) (n : Nat) : IsObj (w.drewN n) g T fs vs := h.frame (fun _ _ => rfl)
theorem IsObj.alloc {w : World} {g : Nat} {T : TypeId} {fs : List Fld} {vs : List Value} (h : IsObj w g T fs vs) (o : Obj) : IsObj (w.alloc o) g T fs vs := h.frame (fun k hk => Below.heap_alloc _ _ _ (h.lt k hk))
theorem IsObj.cell {w : World} {g : Nat} {T : TypeId} {fs : List Fld} {vs : List Value} (h : IsObj w g T fs vs) (i : Nat) (v : Value) (hv : vs[i]? = some v) : w.cell? ⟨g, i, none⟩ = some v := by
  rw [blk_cell h.blk]; simpa using hv
theorem IsObj.free {w : World} {g : Nat} {T : TypeId} {fs : List Fld} {vs : List Value} (h : IsObj w g T fs vs) (i : Nat) : w.frozen? ⟨g, i, none⟩ = false := blk_free h.blk i
theorem IsObj.row {w : World} {g : Nat} {T : TypeId} {fs : List Fld} {vs : List Value} (h : IsObj w g T fs vs) (i : Nat) (v : Value) {e : TypeId} {s n : Nat} {xs : List Value} (hv : vs[i]? = some v) (hf : fs[i]? = some (.row e s n xs)) : w.ownsRow 0 e s v n xs := (h.fld i v _ hv hf).1
theorem IsObj.ne {w : World} {g : Nat} {T : TypeId} {fs : List Fld} {vs : List Value} (h : IsObj w g T fs vs) (i : Nat) (b : Nat) {n c : Nat} {e : TypeId} {s m : Nat} {xs : List Value} (hv : vs[i]? = some (.slice (some ⟨b, 0, none⟩) n c)) (hf : fs[i]? = some (.row e s m xs)) : b ≠ g := by
  have := (h.fld i _ _ hv hf).2
  simpa [Value.ownBlock] using this
/-- Two rows of one object lie apart. -/
theorem IsObj.ne2 {w : World} {g : Nat} {T : TypeId} {fs : List Fld} {vs : List Value} (h : IsObj w g T fs vs) (i j : Nat) (hij : i ≠ j) {v v' : Value} {e s n e' s' n' : Nat} {xs xs' : List Value} (hv : vs[i]? = some v) (hf : fs[i]? = some (.row e s n xs))
    (hv' : vs[j]? = some v') (hf' : fs[j]? = some (.row e' s' n' xs')) : v'.ownBlock = none ∨ v'.ownBlock ≠ v.ownBlock := by
  cases hb : v'.ownBlock with
  | none => exact .inl rfl
  | some k => exact .inr (fun hk => h.apart j i v' v e' s' n' e s n xs' xs k (Ne.symm hij) hv' hf' hv hf hb hk.symm)

/-- A value is stored into a field. -/
theorem IsObj.setVal {w : World} {g : Nat} {T : TypeId} {fs : List Fld} {vs : List Value} (h : IsObj w g T fs vs) (i : Nat) (u u0 : Value) (hf : fs[i]? = some (.val u0)) : IsObj (w.setCell ⟨g, i, none⟩ u) g T (fs.set i (.val u)) (vs.set i u) := by
  refine ⟨by rw [blk_set h.blk]; simp, by simp [h.len], fun j v f hv hfj => ?_, ?_⟩
  · by_cases hij : i = j
    · subst hij
      have hi : i < fs.length := (List.getElem?_eq_some_iff.1 hf).1
      rw [List.getElem?_set_self (by rw [h.len]; exact hi)] at hv
      rw [List.getElem?_set_self hi] at hfj
      injection hv with hv
      injection hfj with hfj
      subst hv hfj
      rfl
    · rw [List.getElem?_set_ne hij] at hv hfj
      have := h.fld j v f hv hfj
      cases f with
      | val _ => exact this
      | row e s n xs => exact ⟨ownsRow_setCell_other this.1 this.2 _, this.2⟩
  · intro a b v v' e s n e' s' n' xs xs' k hab hv hfa hv' hfb hk
    have ha : i ≠ a := by
      rintro rfl
      rw [List.getElem?_set_self (by have := (List.getElem?_eq_some_iff.1 hfa).1; simpa using this)] at hfa
      cases hfa
    have hb : i ≠ b := by
      rintro rfl
      rw [List.getElem?_set_self (by have := (List.getElem?_eq_some_iff.1 hfb).1; simpa using this)] at hfb
      cases hfb
    rw [List.getElem?_set_ne ha] at hv hfa
    rw [List.getElem?_set_ne hb] at hv' hfb
    exact h.apart a b v v' e s n e' s' n' xs xs' k hab hv hfa hv' hfb hk
/-- A cell is stored into one of the object's rows. -/
theorem IsObj.setElem {w : World} {g : Nat} {T : TypeId} {fs : List Fld} {vs : List Value} (h : IsObj w g T fs vs) (i : Nat) {b c : Nat} {e : TypeId} {s n : Nat} {xs : List Value} (j : Nat) (u : Value) (hv : vs[i]? = some (.slice (some ⟨b, 0, none⟩) n c)) (hf : fs[i]? = some (.row e s n xs)) :
    IsObj (w.setCell ⟨b, j, none⟩ u) g T (fs.set i (.row e s n (xs.set j u))) vs := by
  have hr := h.row i _ hv hf
  have hne := h.ne i b hv hf
  have hi : i < fs.length := (List.getElem?_eq_some_iff.1 hf).1
  refine ⟨(heap_setCell_other _ _ _ _ (Ne.symm hne)).trans h.blk, by simp [h.len], fun k v f hvk hfk => ?_, ?_⟩
  · by_cases hik : i = k
    · subst hik
      rw [hv] at hvk
      rw [List.getElem?_set_self hi] at hfk
      injection hvk with hvk
      injection hfk with hfk
      subst hvk hfk
      exact ⟨(hr.stored j u).1, by simpa [Value.ownBlock] using hne⟩
    · rw [List.getElem?_set_ne hik] at hfk
      have := h.fld k v f hvk hfk
      cases f with
      | val _ => exact this
      | row e' s' n' xs' =>
        refine ⟨ownsRow_setCell_other this.1 ?_ _, this.2⟩
        exact fun hk => h.apart k i v _ _ _ _ _ _ _ _ _ b (Ne.symm hik) hvk hfk hv hf hk rfl
  · intro a b' v v' e1 s1 n1 e' s' n' xs1 xs' k hab hva hfa hv' hfb hk
    have key : ∀ (m : Nat) (e2 s2 n2 : Nat) (ys : List Value), (fs.set i (.row e s n (xs.set j u)))[m]? = some (.row e2 s2 n2 ys) → ∃ e3 s3 n3 zs, fs[m]? = some (.row e3 s3 n3 zs) := by
      intro m e2 s2 n2 ys hm
      by_cases him : i = m
      · subst him; exact ⟨_, _, _, _, hf⟩
      · rw [List.getElem?_set_ne him] at hm; exact ⟨_, _, _, _, hm⟩
    obtain ⟨_, _, _, _, h1⟩ := key a _ _ _ _ hfa
    obtain ⟨_, _, _, _, h2⟩ := key b' _ _ _ _ hfb
    exact h.apart a b' v v' _ _ _ _ _ _ _ _ k hab hva h1 hv' h2 hk
/-- Another row comes into a field: one that lies where the old one lay, or in new memory. -/
theorem IsObj.setRow {w w1 : World} {g : Nat} {T : TypeId} {fs : List Fld} {vs : List Value} (h : IsObj w g T fs vs) (i : Nat) {v0 v1 : Value} {f0 : Fld} {e : TypeId} {s n : Nat} {xs : List Value} (hv : vs[i]? = some v0) (hf : fs[i]? = some f0)
    (hx : ∀ k, foot g fs vs k → v0.ownBlock ≠ some k → w1.heap[k]? = w.heap[k]?) (hg : v0.ownBlock ≠ some g) (hov : ∀ (u : Value) (k : Nat), f0 = .val u → v0.ownBlock = some k → w.heap.size ≤ k)
    (ho : w1.ownsRow 0 e s v1 n xs) (hn : ∀ k, v1.ownBlock = some k → v0.ownBlock = some k ∨ w.heap.size ≤ k) : IsObj (w1.setCell ⟨g, i, none⟩ v1) g T (fs.set i (.row e s n xs)) (vs.set i v1) := by
  have hi : i < fs.length := (List.getElem?_eq_some_iff.1 hf).1
  have hgl : g < w.heap.size := lt_of_block h.blk
  have hb1 : w1.heap[g]? = some (.cells vs.toArray T (0, 0)) := (hx g (.inl rfl) hg).trans h.blk
  have hv1 : v1.ownBlock ≠ some g := by
    intro hk
    rcases hn g hk with h1 | h1
    · exact hg h1
    · omega
  have hoth : ∀ (k : Nat) (v : Value) (e' s' n' : Nat) (xs' : List Value), i ≠ k → vs[k]? = some v → fs[k]? = some (.row e' s' n' xs') → ∀ b, v.ownBlock = some b → v0.ownBlock ≠ some b ∧ v1.ownBlock ≠ some b := by
    intro k v e' s' n' xs' hik hvk hfk b hb
    have h0 : v0.ownBlock ≠ some b := by
      intro h0
      cases f0 with
      | val u =>
        have := hov u b rfl h0
        have := h.lt b (.inr ⟨k, v, e', s', n', xs', hvk, hfk, hb⟩)
        omega
      | row e0 s0 n0 xs0 => exact h.apart k i v v0 _ _ _ _ _ _ _ _ b (Ne.symm hik) hvk hfk hv hf hb h0
    refine ⟨h0, fun h1 => ?_⟩
    rcases hn b h1 with h2 | h2
    · exact h0 h2
    · have := h.lt b (.inr ⟨k, v, e', s', n', xs', hvk, hfk, hb⟩)
      omega
  refine ⟨by rw [blk_set hb1]; simp, by simp [h.len], fun k v f hvk hfk => ?_, ?_⟩
  · by_cases hik : i = k
    · subst hik
      rw [List.getElem?_set_self (by rw [h.len]; exact hi)] at hvk
      rw [List.getElem?_set_self hi] at hfk
      injection hvk with hvk
      injection hfk with hfk
      subst hvk hfk
      exact ⟨ownsRow_setCell_other ho hv1 _, hv1⟩
    · rw [List.getElem?_set_ne hik] at hvk hfk
      have := h.fld k v f hvk hfk
      cases f with
      | val _ => exact this
      | row e' s' n' xs' =>
        refine ⟨ownsRow_setCell_other (owns_same this.1 (fun b hb => hx b (.inr ⟨k, v, _, _, _, _, hvk, hfk, hb⟩) (hoth k v _ _ _ _ hik hvk hfk b hb).1)) this.2 _, this.2⟩
  · intro a b v v' e1 s1 n1 e' s' n' xs1 xs' k hab hva hfa hv' hfb hk
    by_cases hia : i = a
    · subst hia
      rw [List.getElem?_set_self (by rw [h.len]; exact hi)] at hva
      injection hva with hva
      subst hva
      rw [List.getElem?_set_ne hab] at hv' hfb
      exact fun hk' => (hoth b v' _ _ _ _ hab hv' hfb k hk').2 hk
    · rw [List.getElem?_set_ne hia] at hva hfa
      by_cases hib : i = b
      · subst hib
        rw [List.getElem?_set_self (by rw [h.len]; exact hi)] at hv'
        injection hv' with hv'
        subst hv'
        exact (hoth a v _ _ _ _ hia hva hfa k hk).2
      · rw [List.getElem?_set_ne hib] at hv' hfb
        exact h.apart a b v v' e1 s1 n1 e' s' n' xs1 xs' k hab hva hfa hv' hfb hk
theorem foot_setRow {g : Nat} {fs : List Fld} {vs : List Value} {i : Nat} {v1 v0 : Value} {f : Fld} {f0 : Fld} (hv : vs[i]? = some v0) (hf : fs[i]? = some f0) {B : Nat} (hn : ∀ k, v1.ownBlock = some k → v0.ownBlock = some k ∨ B ≤ k) (h0 : ∀ (u : Value) (k : Nat), f0 = .val u → v0.ownBlock = some k → B ≤ k) :
    ∀ k, foot g (fs.set i f) (vs.set i v1) k → foot g fs vs k ∨ B ≤ k := by
  rintro k (rfl | ⟨j, v, e, s, n, xs, h1, h2, h3⟩)
  · exact .inl (.inl rfl)
  · by_cases hij : i = j
    · subst hij
      have hi : i < vs.length := (List.getElem?_eq_some_iff.1 hv).1
      rw [List.getElem?_set_self hi] at h1
      injection h1 with h1
      subst h1
      rcases hn k h3 with h4 | h4
      · cases f0 with
        | val u => exact .inr (h0 u k rfl h4)
        | row e0 s0 n0 xs0 => exact .inl (.inr ⟨i, v0, e0, s0, n0, xs0, hv, hf, h4⟩)
      · exact .inr h4
    · rw [List.getElem?_set_ne hij] at h1 h2
      exact .inl (.inr ⟨j, v, e, s, n, xs, h1, h2, h3⟩)
theorem foot_setVal {g : Nat} {fs : List Fld} {vs : List Value} {i : Nat} {u : Value} : ∀ k, foot g (fs.set i (.val u)) (vs.set i u) k → foot g fs vs k := by
  rintro k (rfl | ⟨j, v, e, s, n, xs, h1, h2, h3⟩)
  · exact .inl rfl
  · by_cases hij : i = j
    · subst hij
      rw [List.getElem?_set_self (by have := (List.getElem?_eq_some_iff.1 h2).1; simpa using this)] at h2
      cases h2
    · rw [List.getElem?_set_ne hij] at h1 h2
      exact .inr ⟨j, v, e, s, n, xs, h1, h2, h3⟩
theorem foot_setElem {g : Nat} {fs : List Fld} {vs : List Value} {i : Nat} {e : TypeId} {s n : Nat} {xs ys : List Value} (hf : fs[i]? = some (.row e s n xs)) : ∀ k, foot g (fs.set i (.row e s n ys)) vs k ↔ foot g fs vs k := by
  have hi : i < fs.length := (List.getElem?_eq_some_iff.1 hf).1
  intro k
  constructor
  · rintro (rfl | ⟨j, v, e', s', n', xs', h1, h2, h3⟩)
    · exact .inl rfl
    · by_cases hij : i = j
      · subst hij; exact .inr ⟨i, v, _, _, _, _, h1, hf, h3⟩
      · rw [List.getElem?_set_ne hij] at h2; exact .inr ⟨j, v, _, _, _, _, h1, h2, h3⟩
  · rintro (rfl | ⟨j, v, e', s', n', xs', h1, h2, h3⟩)
    · exact .inl rfl
    · by_cases hij : i = j
      · subst hij; exact .inr ⟨i, v, _, _, _, _, h1, List.getElem?_set_self hi, h3⟩
      · exact .inr ⟨j, v, _, _, _, _, h1, by rw [List.getElem?_set_ne hij]; exact h2, h3⟩
/-- A new object: its rows are nil. -/
def FreshOk (v : Value) : Fld → Prop
  | .val u => v = u
  | .row _ _ n xs => v = .slice none 0 0 ∧ n = 0 ∧ xs = []
theorem IsObj.fresh (w : World) (T : TypeId) (fs : List Fld) (vs : List Value) (hl : vs.length = fs.length) (h : ∀ p ∈ vs.zip fs, FreshOk p.1 p.2) : IsObj (w.alloc (.cells vs.toArray T)) w.heap.size T fs vs := by
  have key : ∀ (i : Nat) (v : Value) (f : Fld), vs[i]? = some v → fs[i]? = some f → FreshOk v f := fun i v f hv hf => by
    obtain ⟨h1, h2⟩ := List.getElem?_eq_some_iff.1 hv
    obtain ⟨h3, h4⟩ := List.getElem?_eq_some_iff.1 hf
    exact h (v, f) (List.mem_iff_getElem.2 ⟨i, by simp; omega, by rw [List.getElem_zip, h2, h4]⟩)
  refine ⟨heap_alloc_new w _, hl, fun i v f hv hf => ?_, ?_⟩
  · have := key i v f hv hf
    cases f with
    | val u => exact this
    | row e s n xs =>
      obtain ⟨rfl, rfl, rfl⟩ := this
      exact ⟨World.ownsRow_nil _ _ _ _, by simp [Value.ownBlock]⟩
  · intro i j v v' e s n e' s' n' xs xs' k _ hv hf _ _ hk
    have := key i v _ hv hf
    obtain ⟨rfl, _, _⟩ := this
    cases hk
theorem foot_fresh {w : World} {fs : List Fld} {vs : List Value} (h : ∀ p ∈ vs.zip fs, FreshOk p.1 p.2) : ∀ k, foot w.heap.size fs vs k → w.heap.size ≤ k := by
  rintro k (rfl | ⟨i, v, e, s, n, xs, hv, hf, hk⟩)
  · exact Nat.le_refl _
  · obtain ⟨h1, h2⟩ := List.getElem?_eq_some_iff.1 hv
    obtain ⟨h3, h4⟩ := List.getElem?_eq_some_iff.1 hf
    have := h (v, .row e s n xs) (List.mem_iff_getElem.2 ⟨i, by simp; omega, by rw [List.getElem_zip, h2, h4]⟩)
    obtain ⟨rfl, _, _⟩ := this
    cases hk
/-- An append in a world that has grown by new blocks alone. -/
theorem grow_step {wr W w1 : World} {v : Value} {g1 : Nat} (hW : Below wr.heap.size wr W) (hg : W.grownBy w1 v.ownBlock) (hl : v.ownBlock = some g1 ∨ g1 = W.heap.size) :
    Ext wr w1 (fun k => v.ownBlock = some k) ∧ (v.ownBlock = some g1 ∨ wr.heap.size ≤ g1) := by
  have hs := hW.size
  refine ⟨⟨hg.os.trans hW.os, hg.tape.trans hW.tape, hg.output.trans hW.output, Nat.le_trans hs hg.size, fun k hk hne => (hg.block k (by omega) (fun e => hne e.symm)).trans (hW.block k hk)⟩, ?_⟩
  rcases hl with h | h
  · exact .inl h
  · exact .inr (by omega)
theorem plus_one (w : World) (o : Obj) : Below w.heap.size w (w.alloc o) := (Below.refl _ _).alloc (Nat.le_refl _) o
theorem plus_one_N (w : World) (n : Nat) (o : Obj) : Below w.heap.size w ((w.drewN n).alloc o) := ⟨rfl, rfl, rfl, (plus_one (w.drewN n) o).size, fun k hk => Below.heap_alloc (w.drewN n) o k hk⟩
theorem add_head (b j : Nat) : ((⟨b, 0, none⟩ : Addr).add j) = ⟨b, j, none⟩ := by
  unfold Addr.add
  split
  · rename_i h; subst h; rfl
  · simp
theorem made_empty (w : World) (k : Nat) (hk : k = w.heap.size) {e : TypeId} {size : Nat} : (w.alloc (.cells #[] e)).ownsRow 0 e size (.slice (some ⟨k, 0, none⟩) 0 0) 0 [] := by
  subst hk
  exact World.ownsRow_made w #[] 0 (Nat.zero_le _) (by unfold maxLen; omega) (by simp)
theorem plus_two (w : World) (o o' : Obj) : Below w.heap.size w ((w.alloc o).alloc o') := ((Below.refl _ _).alloc (Nat.le_refl _) o).alloc (by simp) o'
/-- What one's own object and new memory alone are written in leaves what was there ahead of the call. -/
theorem below_ext {w wr w1 : World} {F : Nat → Prop} (hb : Below w.heap.size w wr) (hx : Ext wr w1 F) (hF : ∀ k, F k → w.heap.size ≤ k) : Below w.heap.size w w1 := by
  have hs := hb.size
  exact ⟨hx.os.trans hb.os, hx.tape.trans hb.tape, hx.output.trans hb.output, Nat.le_trans hs hx.size, fun k hk => (hx.block k (by omega) (fun h => by have := hF k h; omega)).trans (hb.block k hk)⟩
theorem IsObj.keep {w w1 : World} {g : Nat} {T : TypeId} {fs : List Fld} {vs : List Value} (h : IsObj w g T fs vs) (i : Nat) {v : Value} {e s n : Nat} {xs : List Value} (hv : vs[i]? = some v) (hf : fs[i]? = some (.row e s n xs))
    (h1 : ∀ k, k < w.heap.size → v.ownBlock ≠ some k → w1.heap[k]? = w.heap[k]?) : w1.heap[g]? = some (.cells vs.toArray T (0, 0)) ∧
      ∀ (j : Nat) (v' : Value) (e' s' n' : Nat) (xs' : List Value), j ≠ i → vs[j]? = some v' → fs[j]? = some (.row e' s' n' xs') → w1.ownsRow 0 e' s' v' n' xs' := by
  refine ⟨(h1 g (lt_of_block h.blk) (h.fld i v _ hv hf).2).trans h.blk, fun j v' e' s' n' xs' hij hv' hf' => ?_⟩
  have hr := h.row j v' hv' hf'
  exact owns_same hr (fun k hk => h1 k (hr.lt k hk).2 (fun hk' => h.apart j i v' v _ _ _ _ _ _ _ _ k hij hv' hf' hv hf hk hk'))
/-- Two rows grow, then both come into their fields. -/
theorem IsObj.two {wr w1 w2 : World} {g : Nat} {T : TypeId} {fs : List Fld} {vs : List Value} (h : IsObj wr g T fs vs) (i j : Nat) (hij : i ≠ j) {vi vj si sj : Value} {e s n e' s' n' f t m f' t' m' : Nat} {xs xs' ys ys' : List Value}
    (hvi : vs[i]? = some vi) (hfi : fs[i]? = some (.row e s n xs)) (hvj : vs[j]? = some vj) (hfj : fs[j]? = some (.row e' s' n' xs'))
    (h1 : ∀ k, k < wr.heap.size → vi.ownBlock ≠ some k → w1.heap[k]? = wr.heap[k]?) (s1 : wr.heap.size ≤ w1.heap.size) (o1 : w1.ownsRow 0 f t si m ys) (l1 : ∀ k, si.ownBlock = some k → vi.ownBlock = some k ∨ wr.heap.size ≤ k)
    (h2 : ∀ k, k < w1.heap.size → vj.ownBlock ≠ some k → w2.heap[k]? = w1.heap[k]?) (s2 : w1.heap.size ≤ w2.heap.size) (o2 : w2.ownsRow 0 f' t' sj m' ys') (l2 : ∀ k, sj.ownBlock = some k → vj.ownBlock = some k ∨ w1.heap.size ≤ k) :
    IsObj ((w2.setCell ⟨g, i, none⟩ si).setCell ⟨g, j, none⟩ sj) g T ((fs.set i (.row f t m ys)).set j (.row f' t' m' ys')) ((vs.set i si).set j sj) ∧
      (∀ k, foot g ((fs.set i (.row f t m ys)).set j (.row f' t' m' ys')) ((vs.set i si).set j sj) k → foot g fs vs k ∨ wr.heap.size ≤ k) := by
  have hA := h.setRow (w1 := w1) (v1 := si) i hvi hfi (fun k hk hne => h1 k (h.lt k hk) hne) (h.fld i vi _ hvi hfi).2 (fun u k hu => by cases hu) o1 l1
  have hvj' : (vs.set i si)[j]? = some vj := by rw [List.getElem?_set_ne hij]; exact hvj
  have hfj' : (fs.set i (.row f t m ys))[j]? = some (.row e' s' n' xs') := by rw [List.getElem?_set_ne hij]; exact hfj
  have hsz : (w1.setCell ⟨g, i, none⟩ si).heap.size = w1.heap.size := by simp [World.setCell]
  have hjg : vj.ownBlock ≠ some g := (h.fld j vj _ hvj hfj).2
  have hsg : sj.ownBlock ≠ some g := by
    intro hk
    rcases l2 g hk with h3 | h3
    · exact hjg h3
    · have := lt_of_block h.blk; omega
  have key : ∀ k, k < w1.heap.size → vj.ownBlock ≠ some k → (w2.setCell ⟨g, i, none⟩ si).heap[k]? = (w1.setCell ⟨g, i, none⟩ si).heap[k]? := by
    intro k hk hne
    have h3 := h2 k hk hne
    simp only [World.setCell, Array.getElem?_modify, h3]
  refine ⟨hA.setRow (w1 := w2.setCell ⟨g, i, none⟩ si) (v1 := sj) j hvj' hfj' (fun k hk hne => key k (by have := hA.lt k hk; omega) hne) hjg (fun u k hu => by cases hu) (ownsRow_setCell_other o2 hsg _) (fun k hk => by rw [hsz]; exact l2 k hk), fun k hk => ?_⟩
  rcases foot_setRow (B := w1.heap.size) hvj' hfj' l2 (fun u k hu => by cases hu) k hk with h3 | h3
  · exact foot_setRow (B := wr.heap.size) hvi hfi l1 (fun u k hu => by cases hu) k h3
  · exact .inr (by omega)
theorem news_old (w : World) (v : Value) (t : TypeId) (o : Obj) (k : Nat) (hk : k = w.heap.size) : ∀ j u, [v][j]? = some u → ((w.alloc (.cells #[v] t)).alloc o).cell? ((⟨k, 0, none⟩ : Addr).add j) = some u := by
  subst hk
  intro j u hj
  rw [← news_one w v t j u hj]
  exact World.cell?_of_block (Below.heap_alloc _ _ _ (by unfold Addr.add; split <;> simp))
theorem news_grown {W w1 : World} {row : Option Nat} {k : Nat} {news : List Value} (hg : W.grownBy w1 row) (hk : k < W.heap.size) (hne : row ≠ some k) (hn : ∀ j u, news[j]? = some u → W.cell? ((⟨k, 0, none⟩ : Addr).add j) = some u) :
    ∀ j u, news[j]? = some u → w1.cell? ((⟨k, 0, none⟩ : Addr).add j) = some u := by
  intro j u hj
  rw [← hn j u hj]
  have e : ((⟨k, 0, none⟩ : Addr).add j).block = k := by unfold Addr.add; split <;> rfl
  exact World.cell?_of_block (by rw [e]; exact hg.block k hk (Ne.symm hne))
/-- An append of any number of elements (none, too), at a step of a region, or at the operation. -/
theorem wp_append_at {P : Program} {w : World} {o : Oper} {a : Act} {K : Act → World → Prop} {Q : Exit → Act → World → Prop} (s x : Operand) (t : TypeId)
    (ho : o.op = .call { callee := .builtin .append, args := #[s, x], argTypes := #[t, t] })
    (base : Nat) (e : TypeId) (i : TypeInfo) (z : Value) (size bytes : Nat) (ht : P.underlying t = some (.slice e)) (hi : P.info? e = some i) (hz : i.zero = some z)
    (hsize : i.size = size) (hby : i.bytes = bytes) (hzs : z.cells.size = size) (hsz : 0 < size)
    (v : Value) (n : Nat) (xs : List Value) (hs : a.eval s = v) (hown : w.ownsRow base e size v n xs)
    (ad : Addr) (m c : Nat) (news : List Value) (hx : a.eval x = .slice (some ad) m c) (hl : news.length = m * size) (hnews : ∀ j u, news[j]? = some u → w.cell? (ad.add j) = some u) (h1 : ∀ u ∈ news, u.oneCell' = true)
    (h63 : n + m ≤ maxLen) (hbytes : (n + m) * bytes ≤ 140737488355328) (hbase : base ≤ w.heap.size)
    (h : ∀ v' w', w'.ownsRow base e size v' (n + m) (xs ++ news) → w.grownBy w' v.ownBlock → (v'.ownBlock = v.ownBlock ∨ v'.ownBlock = some w.heap.size) → K (a.put o.dst v') w') : o.wp P a w K Q := by
  obtain ⟨v', w', hr, h2, h3, _, h5⟩ := run_append_own_at (P := P) w base t o.type e i z size bytes ht hi hz hsize hby hzs hsz v n xs hown ad m c news hl hnews h1 h63 hbytes hbase
  unfold Oper.wp execOp
  simp only [ho, resolve, invoke, builtin, Sem.run_bind, Sem.run_pure, Result.andThen_ok, List.map_toArray, List.map_cons, List.map_nil, hs, hx, hr]
  exact h v' w' h2 h3 h5
theorem step_append_at {P : Program} {w : World} {ops : Array Oper} {o : Oper} {a : Act} {K : Act → World → Prop} {Q : Exit → Act → World → Prop} {E : Prop} (hgd : o.guard = none) (s x : Operand) (t : TypeId)
    (ho : o.op = .call { callee := .builtin .append, args := #[s, x], argTypes := #[t, t] })
    (base : Nat) (e : TypeId) (i : TypeInfo) (z : Value) (size bytes : Nat) (ht : P.underlying t = some (.slice e)) (hi : P.info? e = some i) (hz : i.zero = some z)
    (hsize : i.size = size) (hby : i.bytes = bytes) (hzs : z.cells.size = size) (hsz : 0 < size)
    (v : Value) (n : Nat) (xs : List Value) (hs : a.eval s = v) (hown : w.ownsRow base e size v n xs)
    (ad : Addr) (m c : Nat) (news : List Value) (hx : a.eval x = .slice (some ad) m c) (hl : news.length = m * size) (hnews : ∀ j u, news[j]? = some u → w.cell? (ad.add j) = some u) (h1 : ∀ u ∈ news, u.oneCell' = true)
    (h63 : n + m ≤ maxLen) (hbytes : (n + m) * bytes ≤ 140737488355328) (hbase : base ≤ w.heap.size)
    (h : ∀ v' w', w'.ownsRow base e size v' (n + m) (xs ++ news) → w.grownBy w' v.ownBlock → (v'.ownBlock = v.ownBlock ∨ v'.ownBlock = some w.heap.size) → K (a.put o.dst v') w') :
    if Region.wanted o (yielded ops a.tmps) = true then Oper.wp P o a w K Q else E := by
  rw [if_pos (by simp [Region.wanted, hgd])]
  exact wp_append_at s x t ho base e i z size bytes ht hi hz hsize hby hzs hsz v n xs hs hown ad m c news hx hl hnews h1 h63 hbytes hbase h
theorem wpList_append_at {P : Program} {w : World} {ops : Array Oper} {rest : List Oper} {o : Oper} {a : Act} {Q : Exit → Act → World → Prop} (hgd : o.guard = none) (s x : Operand) (t : TypeId)
    (ho : o.op = .call { callee := .builtin .append, args := #[s, x], argTypes := #[t, t] })
    (base : Nat) (e : TypeId) (i : TypeInfo) (z : Value) (size bytes : Nat) (ht : P.underlying t = some (.slice e)) (hi : P.info? e = some i) (hz : i.zero = some z)
    (hsize : i.size = size) (hby : i.bytes = bytes) (hzs : z.cells.size = size) (hsz : 0 < size)
    (v : Value) (n : Nat) (xs : List Value) (hs : a.eval s = v) (hown : w.ownsRow base e size v n xs)
    (ad : Addr) (m c : Nat) (news : List Value) (hx : a.eval x = .slice (some ad) m c) (hl : news.length = m * size) (hnews : ∀ j u, news[j]? = some u → w.cell? (ad.add j) = some u) (h1 : ∀ u ∈ news, u.oneCell' = true)
    (h63 : n + m ≤ maxLen) (hbytes : (n + m) * bytes ≤ 140737488355328) (hbase : base ≤ w.heap.size)
    (h : ∀ v' w', w'.ownsRow base e size v' (n + m) (xs ++ news) → w.grownBy w' v.ownBlock → (v'.ownBlock = v.ownBlock ∨ v'.ownBlock = some w.heap.size) → wpList P ops Q rest (a.put o.dst v') w') : wpList P ops Q (o :: rest) a w :=
  wpList_plain hgd fun _ hK => wp_append_at s x t ho base e i z size bytes ht hi hz hsize hby hzs hsz v n xs hs hown ad m c news hx hl hnews h1 h63 hbytes hbase fun v' w' h2 h3 h4 => hK _ _ (h v' w' h2 h3 h4)
/-- Which new memory an append has taken. -/
theorem grow_step_at {wr W w1 : World} {v v' : Value} (hW : Below wr.heap.size wr W) (hg : W.grownBy w1 v.ownBlock) (hl : v'.ownBlock = v.ownBlock ∨ v'.ownBlock = some W.heap.size) :
    Ext wr w1 (fun k => v.ownBlock = some k) ∧ (∀ k, v'.ownBlock = some k → v.ownBlock = some k ∨ wr.heap.size ≤ k) := by
  refine ⟨(grow_step (g1 := W.heap.size) hW hg (.inr rfl)).1, fun k hk => ?_⟩
  have hs := hW.size
  rcases hl with h | h
  · exact .inl (h ▸ hk)
  · rw [h] at hk; injection hk with hk; exact .inr (by omega)
end Go.Proofs.YtbgpniepgbmkaaaDoor
