/- A policy that grows, in memory: a domain, a slot, a link more. No condition. -/
import Derived.Test.YtkjhgfjlknbdkaaDoorNum2
namespace Go.Proofs.YtkjhgfjlknbdkaaDoor
open Go.RowKit BigFrame

theorem types_apart1 {w : World} {k j : Nat} {cs cs' : Array Value} {e e' : TypeId} {fr fr' : Nat × Nat} (h : w.heap[k]? = some (.cells cs e fr)) (h' : w.heap[j]? = some (.cells cs' e' fr')) (he : e ≠ e') : k ≠ j := by
  intro hkj
  subst hkj
  rw [h] at h'
  simp only [Option.some.injEq, Obj.cells.injEq] at h'
  exact he h'.2.1
/-- The policy at pb. -/
structure PO (w0 w : World) (pb : Nat) (D : List Dm) (S : List (Int × Int)) (K : List Lk) (vd vs vl : Value) : Prop where
  blk : w.heap[pb]? = some (.cells #[vd, vs, vl] 26 (0, 0))
  d : w.ownsRow w0.heap.size 37 6 vd D.length (D.flatMap Dm.cells)
  s : w.ownsRow w0.heap.size 39 2 vs S.length (S.flatMap slCells)
  k : w.ownsRow w0.heap.size 32 4 vl K.length (K.flatMap lkCells)
  b : Below w0.heap.size w0 w
  ge : w0.heap.size ≤ pb
/-- What a policy's own doings leave alone. -/
structure POF (w w1 : World) (pb : Nat) (vd vs vl : Value) : Prop where
  size : w.heap.size ≤ w1.heap.size
  block : ∀ k, k < w.heap.size → k ≠ pb → vd.ownBlock ≠ some k → vs.ownBlock ≠ some k → vl.ownBlock ≠ some k → w1.heap[k]? = w.heap[k]?
theorem POF.of_below {w w1 : World} {pb : Nat} {vd vs vl : Value} (h : Below w.heap.size w w1) : POF w w1 pb vd vs vl := ⟨h.size, fun k hk _ _ _ _ => h.block k hk⟩
theorem POF.before {w w1 w2 : World} {pb : Nat} {vd vs vl : Value} (h : Below w.heap.size w w1) (h2 : POF w1 w2 pb vd vs vl) : POF w w2 pb vd vs vl :=
  ⟨Nat.le_trans h.size h2.size, fun k hk a b c d => (h2.block k (Nat.lt_of_lt_of_le hk h.size) a b c d).trans (h.block k hk)⟩
section
variable {w0 w w1 w2 : World} {pb : Nat} {D : List Dm} {S : List (Int × Int)} {K : List Lk} {vd vs vl : Value}
theorem PO.nd (h : PO w0 w pb D S K vd vs vl) {k : Nat} (hk : vd.ownBlock = some k) : k ≠ pb := by
  obtain ⟨cs, fr, hc⟩ := owns_type1 h.d hk
  exact types_apart1 hc h.blk (by decide)
theorem PO.ns (h : PO w0 w pb D S K vd vs vl) {k : Nat} (hk : vs.ownBlock = some k) : k ≠ pb := by
  obtain ⟨cs, fr, hc⟩ := owns_type1 h.s hk
  exact types_apart1 hc h.blk (by decide)
theorem PO.nk (h : PO w0 w pb D S K vd vs vl) {k : Nat} (hk : vl.ownBlock = some k) : k ≠ pb := by
  obtain ⟨cs, fr, hc⟩ := owns_type1 h.k hk
  exact types_apart1 hc h.blk (by decide)
/-- What leaves the policy's blocks alone. -/
theorem PO.keep (h : PO w0 w pb D S K vd vs vl) (hb : Below w0.heap.size w0 w1) (hs : ∀ k, k = pb ∨ vd.ownBlock = some k ∨ vs.ownBlock = some k ∨ vl.ownBlock = some k → w1.heap[k]? = w.heap[k]?) : PO w0 w1 pb D S K vd vs vl :=
  ⟨(hs pb (.inl rfl)).trans h.blk, owns_same h.d (fun k hk => hs k (.inr (.inl hk))), owns_same h.s (fun k hk => hs k (.inr (.inr (.inl hk)))), owns_same h.k (fun k hk => hs k (.inr (.inr (.inr hk)))), hb, h.ge⟩
theorem PO.lt (h : PO w0 w pb D S K vd vs vl) : ∀ k, k = pb ∨ vd.ownBlock = some k ∨ vs.ownBlock = some k ∨ vl.ownBlock = some k → k < w.heap.size := by
  rintro k (rfl | hk | hk | hk)
  · exact lt_of_block h.blk
  · exact (h.d.lt k hk).2
  · exact (h.s.lt k hk).2
  · exact (h.k.lt k hk).2
theorem PO.below (h : PO w0 w pb D S K vd vs vl) (hb : Below w.heap.size w w1) : PO w0 w1 pb D S K vd vs vl :=
  h.keep (h.b.trans (hb.mono h.b.size)) (fun k hk => hb.block k (h.lt k hk))
theorem PO.ext (h : PO w0 w pb D S K vd vs vl) {tb : Nat} (hx : Ext w w1 (fun k => k = tb)) (htb : w0.heap.size ≤ tb) (hn : ∀ k, k = pb ∨ vd.ownBlock = some k ∨ vs.ownBlock = some k ∨ vl.ownBlock = some k → k ≠ tb) : PO w0 w1 pb D S K vd vs vl :=
  h.keep (ext_below3 h.b hx (fun k hk => by rw [hk]; exact htb)) (fun k hk => hx.block k (h.lt k hk) (hn k hk))
theorem PO.addD (h : PO w0 w pb D S K vd vs vl) {o : Obj} (hgr : (w.drew.alloc o).grownBy w1 vd.ownBlock) {x : Dm} {v' : Value} (hown : w1.ownsRow w0.heap.size 37 6 v' (D.length + 1) (D.flatMap Dm.cells ++ Dm.cells x)) (hat : v'.ownBlock = vd.ownBlock ∨ v'.ownBlock = some (w.drew.alloc o).heap.size) :
    (PO w0 (w1.setCell ⟨pb, 0, none⟩ v') pb (D ++ [x]) S K v' vs vl ∧ POF w (w1.setCell ⟨pb, 0, none⟩ v') pb vd vs vl) ∧ w1.heap[pb]? = some (.cells #[vd, vs, vl] 26 (0, 0)) := by
  have hsz : w.heap.size ≤ (w.drew.alloc o).heap.size := (plus_one1 w.drew o).size
  have hb1 : Below w0.heap.size w0 (w.drew.alloc o) := (h.b.trans ((Below.refl w0.heap.size w).drew)).alloc (Nat.le_trans h.b.size (Nat.le_refl _)) o
  have hlt := h.lt
  have old : ∀ k, k < w.heap.size → vd.ownBlock ≠ some k → w1.heap[k]? = w.heap[k]? := fun k hk hn => (hgr.block k (Nat.lt_of_lt_of_le hk hsz) (fun e => hn e.symm)).trans (Below.heap_alloc w.drew o k hk)
  have hpb : w1.heap[pb]? = w.heap[pb]? := old pb (hlt pb (.inl rfl)) (fun e => h.nd e rfl)
  have hnv : v'.ownBlock ≠ some pb := by
    intro e
    rcases hat with h1 | h1
    · rw [h1] at e
      exact h.nd e rfl
    · rw [h1] at e
      injection e with e
      have := hlt pb (.inl rfl)
      omega
  refine ⟨⟨⟨?_, owns_same (w := w1) ?_ (fun k hk => heap_setCell_other _ _ _ _ (fun e => hnv (by rw [hk, e]))), owns_same (w := w1) (owns_same h.s (fun k hk => old k (h.s.lt k hk).2 (fun e => ?_))) (fun k hk => heap_setCell_other _ _ _ _ (h.ns hk)), owns_same (w := w1) (owns_same h.k (fun k hk => old k (h.k.lt k hk).2 (fun e => ?_))) (fun k hk => heap_setCell_other _ _ _ _ (h.nk hk)), (hb1.grown hgr hb1.size (fun k hk => (h.d.lt k hk).1)).setCell (p := ⟨pb, 0, none⟩) h.ge _, h.ge⟩, ⟨Nat.le_trans hsz (by have := hgr.size; simpa using this), fun k hk h1 h2 h3 h4 => (heap_setCell_other _ _ _ _ h1).trans (old k hk h2)⟩⟩, hpb.trans h.blk⟩
  · have := blk_set (hpb.trans h.blk) 0 v'
    simpa using this
  · rw [List.length_append, List.flatMap_append]
    simpa using hown
  · obtain ⟨cs, fr, hc⟩ := owns_type1 h.d e
    obtain ⟨cs2, fr2, hc2⟩ := owns_type1 h.s hk
    exact types_apart1 hc hc2 (by decide) rfl
  · obtain ⟨cs, fr, hc⟩ := owns_type1 h.d e
    obtain ⟨cs2, fr2, hc2⟩ := owns_type1 h.k hk
    exact types_apart1 hc hc2 (by decide) rfl
theorem PO.addS (h : PO w0 w pb D S K vd vs vl) {o : Obj} (hgr : (w.drew.alloc o).grownBy w1 vs.ownBlock) {x : Int × Int} {v' : Value} (hown : w1.ownsRow w0.heap.size 39 2 v' (S.length + 1) (S.flatMap slCells ++ slCells x)) (hat : v'.ownBlock = vs.ownBlock ∨ v'.ownBlock = some (w.drew.alloc o).heap.size) :
    (PO w0 (w1.setCell ⟨pb, 1, none⟩ v') pb D (S ++ [x]) K vd v' vl ∧ POF w (w1.setCell ⟨pb, 1, none⟩ v') pb vd vs vl) ∧ w1.heap[pb]? = some (.cells #[vd, vs, vl] 26 (0, 0)) := by
  have hsz : w.heap.size ≤ (w.drew.alloc o).heap.size := (plus_one1 w.drew o).size
  have hb1 : Below w0.heap.size w0 (w.drew.alloc o) := (h.b.trans ((Below.refl w0.heap.size w).drew)).alloc (Nat.le_trans h.b.size (Nat.le_refl _)) o
  have hlt := h.lt
  have old : ∀ k, k < w.heap.size → vs.ownBlock ≠ some k → w1.heap[k]? = w.heap[k]? := fun k hk hn => (hgr.block k (Nat.lt_of_lt_of_le hk hsz) (fun e => hn e.symm)).trans (Below.heap_alloc w.drew o k hk)
  have hpb : w1.heap[pb]? = w.heap[pb]? := old pb (hlt pb (.inl rfl)) (fun e => h.ns e rfl)
  have hnv : v'.ownBlock ≠ some pb := by
    intro e
    rcases hat with h1 | h1
    · rw [h1] at e
      exact h.ns e rfl
    · rw [h1] at e
      injection e with e
      have := hlt pb (.inl rfl)
      omega
  refine ⟨⟨⟨?_, owns_same (w := w1) (owns_same h.d (fun k hk => old k (h.d.lt k hk).2 (fun e => ?_))) (fun k hk => heap_setCell_other _ _ _ _ (h.nd hk)), owns_same (w := w1) ?_ (fun k hk => heap_setCell_other _ _ _ _ (fun e => hnv (by rw [hk, e]))), owns_same (w := w1) (owns_same h.k (fun k hk => old k (h.k.lt k hk).2 (fun e => ?_))) (fun k hk => heap_setCell_other _ _ _ _ (h.nk hk)), (hb1.grown hgr hb1.size (fun k hk => (h.s.lt k hk).1)).setCell (p := ⟨pb, 1, none⟩) h.ge _, h.ge⟩, ⟨Nat.le_trans hsz (by have := hgr.size; simpa using this), fun k hk h1 h2 h3 h4 => (heap_setCell_other _ _ _ _ h1).trans (old k hk h3)⟩⟩, hpb.trans h.blk⟩
  · have := blk_set (hpb.trans h.blk) 1 v'
    simpa using this
  · obtain ⟨cs, fr, hc⟩ := owns_type1 h.s e
    obtain ⟨cs2, fr2, hc2⟩ := owns_type1 h.d hk
    exact types_apart1 hc hc2 (by decide) rfl
  · rw [List.length_append, List.flatMap_append]
    simpa using hown
  · obtain ⟨cs, fr, hc⟩ := owns_type1 h.s e
    obtain ⟨cs2, fr2, hc2⟩ := owns_type1 h.k hk
    exact types_apart1 hc hc2 (by decide) rfl
theorem PO.addK (h : PO w0 w pb D S K vd vs vl) {o : Obj} (hgr : (w.drew.alloc o).grownBy w1 vl.ownBlock) {x : Lk} {v' : Value} (hown : w1.ownsRow w0.heap.size 32 4 v' (K.length + 1) (K.flatMap lkCells ++ lkCells x)) (hat : v'.ownBlock = vl.ownBlock ∨ v'.ownBlock = some (w.drew.alloc o).heap.size) :
    (PO w0 (w1.setCell ⟨pb, 2, none⟩ v') pb D S (K ++ [x]) vd vs v' ∧ POF w (w1.setCell ⟨pb, 2, none⟩ v') pb vd vs vl) ∧ w1.heap[pb]? = some (.cells #[vd, vs, vl] 26 (0, 0)) := by
  have hsz : w.heap.size ≤ (w.drew.alloc o).heap.size := (plus_one1 w.drew o).size
  have hb1 : Below w0.heap.size w0 (w.drew.alloc o) := (h.b.trans ((Below.refl w0.heap.size w).drew)).alloc (Nat.le_trans h.b.size (Nat.le_refl _)) o
  have hlt := h.lt
  have old : ∀ k, k < w.heap.size → vl.ownBlock ≠ some k → w1.heap[k]? = w.heap[k]? := fun k hk hn => (hgr.block k (Nat.lt_of_lt_of_le hk hsz) (fun e => hn e.symm)).trans (Below.heap_alloc w.drew o k hk)
  have hpb : w1.heap[pb]? = w.heap[pb]? := old pb (hlt pb (.inl rfl)) (fun e => h.nk e rfl)
  have hnv : v'.ownBlock ≠ some pb := by
    intro e
    rcases hat with h1 | h1
    · rw [h1] at e
      exact h.nk e rfl
    · rw [h1] at e
      injection e with e
      have := hlt pb (.inl rfl)
      omega
  refine ⟨⟨⟨?_, owns_same (w := w1) (owns_same h.d (fun k hk => old k (h.d.lt k hk).2 (fun e => ?_))) (fun k hk => heap_setCell_other _ _ _ _ (h.nd hk)), owns_same (w := w1) (owns_same h.s (fun k hk => old k (h.s.lt k hk).2 (fun e => ?_))) (fun k hk => heap_setCell_other _ _ _ _ (h.ns hk)), owns_same (w := w1) ?_ (fun k hk => heap_setCell_other _ _ _ _ (fun e => hnv (by rw [hk, e]))), (hb1.grown hgr hb1.size (fun k hk => (h.k.lt k hk).1)).setCell (p := ⟨pb, 2, none⟩) h.ge _, h.ge⟩, ⟨Nat.le_trans hsz (by have := hgr.size; simpa using this), fun k hk h1 h2 h3 h4 => (heap_setCell_other _ _ _ _ h1).trans (old k hk h4)⟩⟩, hpb.trans h.blk⟩
  · have := blk_set (hpb.trans h.blk) 2 v'
    simpa using this
  · obtain ⟨cs, fr, hc⟩ := owns_type1 h.k e
    obtain ⟨cs2, fr2, hc2⟩ := owns_type1 h.d hk
    exact types_apart1 hc hc2 (by decide) rfl
  · obtain ⟨cs, fr, hc⟩ := owns_type1 h.k e
    obtain ⟨cs2, fr2, hc2⟩ := owns_type1 h.s hk
    exact types_apart1 hc hc2 (by decide) rfl
  · rw [List.length_append, List.flatMap_append]
    simpa using hown
end
end Go.Proofs.YtkjhgfjlknbdkaaDoor
