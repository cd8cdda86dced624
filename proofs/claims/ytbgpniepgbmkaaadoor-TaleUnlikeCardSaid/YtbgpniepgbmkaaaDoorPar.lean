/- What policy.number does. Condition: the library's table of powers of ten is laid (Tab).
   What policy.numbers does: words' numbers, put at places of one block. Conditions: the rows can be read, the block is the call's own.
   A policy that grows, in memory: a domain, a slot, a link more. No condition.
   What policy.domain does. Conditions: the policy grows in memory, the line has six words that can be read.
   What policy.slot does. Conditions: the policy grows in memory, the line has three words that can be read.
   What policy.link does. Conditions: the policy grows in memory, the line has four words that can be read.
   What policy.line does. Conditions: the policy grows in memory, the line's words can be read; it has one at least.
   What policy.Parse does. Conditions: the text is at most 2^47 bytes, the library's table is laid (Tab). -/
import Derived.Test.YtbgpniepgbmkaaaDoorLex3
namespace Go.Proofs.YtbgpniepgbmkaaaDoor
open Go.RowKit BigFrame Go.Sort

def i64B (x : Int) : Prop := -9223372036854775808 ≤ x ∧ x ≤ 9223372036854775807
/-- The table that the library's Itoa reads. -/
def Tab (w : World) : Prop := Lib.TabIs Tryd.prog w "internal/strconv.uint64pow10" .u64 Lib.pow10Tab
theorem tab_global : ∃ g, Tryd.prog.globalNamed "internal/strconv.uint64pow10" = some g := by
  have h : (Tryd.prog.globalNamed "internal/strconv.uint64pow10").isSome = true := by kernel_rfl
  exact Option.isSome_iff_exists.1 h
theorem Tab.below {w w' : World} (h : Tab w) (hb : Below w.heap.size w w') : Tab w' := by
  obtain ⟨g, hg⟩ := tab_global
  unfold Tab Lib.TabIs World.var? at h ⊢
  rw [hg] at h ⊢
  simp only [Option.bind_some] at h ⊢
  have hlt : g < w.heap.size := by
    by_cases h' : g < w.heap.size
    · exact h'
    · rw [Array.getElem?_eq_none (by omega)] at h
      cases h
  rw [hb.block g hlt]
  exact h
theorem below_grew (w : World) (k : Nat) (os : Array Obj) : Below w.heap.size w (grow (w.drewN k) os) :=
  ⟨rfl, rfl, rfl, by simp [grow], fun j hj => heap_grow_old (w.drewN k) os (show j < (w.drewN k).heap.size from hj)⟩
theorem itoa_calls (n : Int) (h0 : 0 ≤ n) (h1 : n ≤ 9999) (w : World) (ht : Tab w) :
    Calls Tryd.prog 15 #[.int .i64 n] w fun e w' => e = .returned (.string ⟨(Lib.itoa n).toArray⟩) ∧ Below w.heap.size w w' :=
  (Tryd.strconv_Itoa n (by omega) (by omega) w ht).mono fun _ _ ⟨e1, k, os, e2⟩ => ⟨e1, by rw [e2]; exact below_grew w k os⟩
theorem empty_list : ByteArray.empty.toList = [] := by rw [ByteArray.toList_eq]; rfl
/-- A number, rune by rune; none: it is none. -/
def numRun (s : ByteArray) : Nat → Nat → Int → Option Int
  | 0, _, n => some n
  | f + 1, pos, n => if pos < s.size then
      (if ((Utf8.decode s pos).1 : Int) < 48 ∨ 57 < ((Utf8.decode s pos).1 : Int) then none
      else if 9999 < n * 10 + (((Utf8.decode s pos).1 : Int) - 48) then none
      else numRun s f (pos + (Utf8.decode s pos).2) (n * 10 + (((Utf8.decode s pos).1 : Int) - 48)))
    else some n
theorem numRun_end {s : ByteArray} {f pos : Nat} {n : Int} (h : ¬ pos < s.size) : numRun s f pos n = some n := by
  cases f with
  | zero => rfl
  | succ f => rw [numRun, if_neg h]
def numOk (s : ByteArray) (n : Int) : Bool := !(decide (s = ByteArray.empty)) && (decide (s.size ≤ 4) && decide ((⟨(Lib.itoa n).toArray⟩ : ByteArray) = s))
def numM (s : ByteArray) : Int × Bool := match numRun s s.size 0 0 with
  | none => (0, false)
  | some n => (n, numOk s n)
end Go.Proofs.YtbgpniepgbmkaaaDoor

namespace Go.Proofs.YtbgpniepgbmkaaaDoor
open Go.RowKit BigFrame

/-- The first j numbers, each at its place. -/
def putN (cs : Array Value) : List Nat → List Int → Nat → Array Value
  | _, _, 0 => cs
  | offs, vals, j + 1 => (putN cs offs vals j).setIfInBounds (offs.getD j 0) (.int .i64 (vals.getD j 0))
theorem putN_size (cs : Array Value) (offs : List Nat) (vals : List Int) (j : Nat) : (putN cs offs vals j).size = cs.size := by
  induction j with
  | zero => rfl
  | succ j ih => rw [putN, Array.size_setIfInBounds, ih]
theorem ext_below3 {w w1 w2 : World} {F : Nat → Prop} (hb : Below w.heap.size w w1) (hx : Ext w1 w2 F) (hF : ∀ k, F k → w.heap.size ≤ k) : Below w.heap.size w w2 :=
  ⟨hx.os.trans hb.os, hx.tape.trans hb.tape, hx.output.trans hb.output, Nat.le_trans hb.size hx.size, fun k hk => (hx.block k (Nat.lt_of_lt_of_le hk hb.size) (fun h => by have := hF k h; omega)).trans (hb.block k hk)⟩
def numAll (W : List ByteArray) : Bool := W.all (fun x => (numM x).2)
theorem numAll_bad {W : List ByteArray} {i : Nat} {x : ByteArray} (h : W[i]? = some x) (hx : (numM x).2 = false) : numAll W = false := by
  unfold numAll
  rw [List.all_eq_false]
  exact ⟨x, List.mem_of_getElem? h, by rw [hx]; simp⟩
theorem numAll_good {W : List ByteArray} (h : ∀ x ∈ W, (numM x).2 = true) : numAll W = true := by
  unfold numAll
  rw [List.all_eq_true]
  exact h
end Go.Proofs.YtbgpniepgbmkaaaDoor

namespace Go.Proofs.YtbgpniepgbmkaaaDoor
open Go.RowKit BigFrame

theorem types_apart1 {w : World} {k j : Nat} {cs cs' : Array Value} {e e' : TypeId} {fr fr' : Nat × Nat} (h : w.heap[k]? = some (.cells cs e fr)) (h' : w.heap[j]? = some (.cells cs' e' fr')) (he : e ≠ e') : k ≠ j := by
  intro hkj
  subst hkj
  rw [h] at h'
  simp only [Option.some.injEq, Obj.cells.injEq] at h'
  exact he h'.2.1
/-- The policy at pb. -/
structure PO (w0 w : World) (pb : Nat) (D : List Dm) (S : List (Int × Int)) (K : List Lk) (vd vs vl : Value) : Prop where
  blk : w.heap[pb]? = some (.cells #[vd, vs, vl] 26 (0, 0))
  d : w.ownsRow w0.heap.size 51 6 vd D.length (D.flatMap Dm.cells)
  s : w.ownsRow w0.heap.size 57 2 vs S.length (S.flatMap slCells)
  k : w.ownsRow w0.heap.size 89 4 vl K.length (K.flatMap lkCells)
  b : Below w0.heap.size w0 w
  ge : w0.heap.size ≤ pb
/-- What a policy's own doings leave alone. -/
structure POF (w w1 : World) (pb : Nat) (vd vs vl : Value) : Prop where
  size : w.heap.size ≤ w1.heap.size
  block : ∀ k, k < w.heap.size → k ≠ pb → vd.ownBlock ≠ some k → vs.ownBlock ≠ some k → vl.ownBlock ≠ some k → w1.heap[k]? = w.heap[k]?
theorem POF.of_below {w w1 : World} {pb : Nat} {vd vs vl : Value} (h : Below w.heap.size w w1) : POF w w1 pb vd vs vl := ⟨h.size, fun k hk _ _ _ _ => h.block k hk⟩
theorem POF.before {w w1 w2 : World} {pb : Nat} {vd vs vl : Value} (h : Below w.heap.size w w1) (h2 : POF w1 w2 pb vd vs vl) : POF w w2 pb vd vs vl :=
  ⟨Nat.le_trans h.size h2.size, fun k hk a b c d => (h2.block k (Nat.lt_of_lt_of_le hk h.size) a b c d).trans (h.block k hk)⟩
section
variable {w0 w w1 w2 : World} {pb : Nat} {D : List Dm} {S : List (Int × Int)} {K : List Lk} {vd vs vl : Value}
theorem PO.nd (h : PO w0 w pb D S K vd vs vl) {k : Nat} (hk : vd.ownBlock = some k) : k ≠ pb := by
  obtain ⟨cs, fr, hc⟩ := owns_type1 h.d hk
  exact types_apart1 hc h.blk (by decide)
theorem PO.ns (h : PO w0 w pb D S K vd vs vl) {k : Nat} (hk : vs.ownBlock = some k) : k ≠ pb := by
  obtain ⟨cs, fr, hc⟩ := owns_type1 h.s hk
  exact types_apart1 hc h.blk (by decide)
theorem PO.nk (h : PO w0 w pb D S K vd vs vl) {k : Nat} (hk : vl.ownBlock = some k) : k ≠ pb := by
  obtain ⟨cs, fr, hc⟩ := owns_type1 h.k hk
  exact types_apart1 hc h.blk (by decide)
/-- What leaves the policy's blocks alone. -/
theorem PO.keep (h : PO w0 w pb D S K vd vs vl) (hb : Below w0.heap.size w0 w1) (hs : ∀ k, k = pb ∨ vd.ownBlock = some k ∨ vs.ownBlock = some k ∨ vl.ownBlock = some k → w1.heap[k]? = w.heap[k]?) : PO w0 w1 pb D S K vd vs vl :=
  ⟨(hs pb (.inl rfl)).trans h.blk, owns_same h.d (fun k hk => hs k (.inr (.inl hk))), owns_same h.s (fun k hk => hs k (.inr (.inr (.inl hk)))), owns_same h.k (fun k hk => hs k (.inr (.inr (.inr hk)))), hb, h.ge⟩
theorem PO.lt (h : PO w0 w pb D S K vd vs vl) : ∀ k, k = pb ∨ vd.ownBlock = some k ∨ vs.ownBlock = some k ∨ vl.ownBlock = some k → k < w.heap.size := by
  rintro k (rfl | hk | hk | hk)
  · exact lt_of_block h.blk
  · exact (h.d.lt k hk).2
  · exact (h.s.lt k hk).2
  · exact (h.k.lt k hk).2
theorem PO.below (h : PO w0 w pb D S K vd vs vl) (hb : Below w.heap.size w w1) : PO w0 w1 pb D S K vd vs vl :=
  h.keep (h.b.trans (hb.mono h.b.size)) (fun k hk => hb.block k (h.lt k hk))
theorem PO.ext (h : PO w0 w pb D S K vd vs vl) {tb : Nat} (hx : Ext w w1 (fun k => k = tb)) (htb : w0.heap.size ≤ tb) (hn : ∀ k, k = pb ∨ vd.ownBlock = some k ∨ vs.ownBlock = some k ∨ vl.ownBlock = some k → k ≠ tb) : PO w0 w1 pb D S K vd vs vl :=
  h.keep (ext_below3 h.b hx (fun k hk => by rw [hk]; exact htb)) (fun k hk => hx.block k (h.lt k hk) (hn k hk))
theorem PO.addD (h : PO w0 w pb D S K vd vs vl) {o : Obj} (hgr : (w.drew.alloc o).grownBy w1 vd.ownBlock) {x : Dm} {v' : Value} (hown : w1.ownsRow w0.heap.size 51 6 v' (D.length + 1) (D.flatMap Dm.cells ++ Dm.cells x)) (hat : v'.ownBlock = vd.ownBlock ∨ v'.ownBlock = some (w.drew.alloc o).heap.size) :
    (PO w0 (w1.setCell ⟨pb, 0, none⟩ v') pb (D ++ [x]) S K v' vs vl ∧ POF w (w1.setCell ⟨pb, 0, none⟩ v') pb vd vs vl) ∧ w1.heap[pb]? = some (.cells #[vd, vs, vl] 26 (0, 0)) := by
  have hsz : w.heap.size ≤ (w.drew.alloc o).heap.size := (plus_one1 w.drew o).size
  have hb1 : Below w0.heap.size w0 (w.drew.alloc o) := (h.b.trans ((Below.refl w0.heap.size w).drew)).alloc (Nat.le_trans h.b.size (Nat.le_refl _)) o
  have hlt := h.lt
  have old : ∀ k, k < w.heap.size → vd.ownBlock ≠ some k → w1.heap[k]? = w.heap[k]? := fun k hk hn => (hgr.block k (Nat.lt_of_lt_of_le hk hsz) (fun e => hn e.symm)).trans (Below.heap_alloc w.drew o k hk)
  have hpb : w1.heap[pb]? = w.heap[pb]? := old pb (hlt pb (.inl rfl)) (fun e => h.nd e rfl)
  have hnv : v'.ownBlock ≠ some pb := by
    intro e
    rcases hat with h1 | h1
    · rw [h1] at e
      exact h.nd e rfl
    · rw [h1] at e
      injection e with e
      have := hlt pb (.inl rfl)
      omega
  refine ⟨⟨⟨?_, owns_same (w := w1) ?_ (fun k hk => heap_setCell_other _ _ _ _ (fun e => hnv (by rw [hk, e]))), owns_same (w := w1) (owns_same h.s (fun k hk => old k (h.s.lt k hk).2 (fun e => ?_))) (fun k hk => heap_setCell_other _ _ _ _ (h.ns hk)), owns_same (w := w1) (owns_same h.k (fun k hk => old k (h.k.lt k hk).2 (fun e => ?_))) (fun k hk => heap_setCell_other _ _ _ _ (h.nk hk)), (hb1.grown hgr hb1.size (fun k hk => (h.d.lt k hk).1)).setCell (p := ⟨pb, 0, none⟩) h.ge _, h.ge⟩, ⟨Nat.le_trans hsz (by have := hgr.size; simpa using this), fun k hk h1 h2 h3 h4 => (heap_setCell_other _ _ _ _ h1).trans (old k hk h2)⟩⟩, hpb.trans h.blk⟩
  · have := blk_set (hpb.trans h.blk) 0 v'
    simpa using this
  · rw [List.length_append, List.flatMap_append]
    simpa using hown
  · obtain ⟨cs, fr, hc⟩ := owns_type1 h.d e
    obtain ⟨cs2, fr2, hc2⟩ := owns_type1 h.s hk
    exact types_apart1 hc hc2 (by decide) rfl
  · obtain ⟨cs, fr, hc⟩ := owns_type1 h.d e
    obtain ⟨cs2, fr2, hc2⟩ := owns_type1 h.k hk
    exact types_apart1 hc hc2 (by decide) rfl
theorem PO.addS (h : PO w0 w pb D S K vd vs vl) {o : Obj} (hgr : (w.drew.alloc o).grownBy w1 vs.ownBlock) {x : Int × Int} {v' : Value} (hown : w1.ownsRow w0.heap.size 57 2 v' (S.length + 1) (S.flatMap slCells ++ slCells x)) (hat : v'.ownBlock = vs.ownBlock ∨ v'.ownBlock = some (w.drew.alloc o).heap.size) :
    (PO w0 (w1.setCell ⟨pb, 1, none⟩ v') pb D (S ++ [x]) K vd v' vl ∧ POF w (w1.setCell ⟨pb, 1, none⟩ v') pb vd vs vl) ∧ w1.heap[pb]? = some (.cells #[vd, vs, vl] 26 (0, 0)) := by
  have hsz : w.heap.size ≤ (w.drew.alloc o).heap.size := (plus_one1 w.drew o).size
  have hb1 : Below w0.heap.size w0 (w.drew.alloc o) := (h.b.trans ((Below.refl w0.heap.size w).drew)).alloc (Nat.le_trans h.b.size (Nat.le_refl _)) o
  have hlt := h.lt
  have old : ∀ k, k < w.heap.size → vs.ownBlock ≠ some k → w1.heap[k]? = w.heap[k]? := fun k hk hn => (hgr.block k (Nat.lt_of_lt_of_le hk hsz) (fun e => hn e.symm)).trans (Below.heap_alloc w.drew o k hk)
  have hpb : w1.heap[pb]? = w.heap[pb]? := old pb (hlt pb (.inl rfl)) (fun e => h.ns e rfl)
  have hnv : v'.ownBlock ≠ some pb := by
    intro e
    rcases hat with h1 | h1
    · rw [h1] at e
      exact h.ns e rfl
    · rw [h1] at e
      injection e with e
      have := hlt pb (.inl rfl)
      omega
  refine ⟨⟨⟨?_, owns_same (w := w1) (owns_same h.d (fun k hk => old k (h.d.lt k hk).2 (fun e => ?_))) (fun k hk => heap_setCell_other _ _ _ _ (h.nd hk)), owns_same (w := w1) ?_ (fun k hk => heap_setCell_other _ _ _ _ (fun e => hnv (by rw [hk, e]))), owns_same (w := w1) (owns_same h.k (fun k hk => old k (h.k.lt k hk).2 (fun e => ?_))) (fun k hk => heap_setCell_other _ _ _ _ (h.nk hk)), (hb1.grown hgr hb1.size (fun k hk => (h.s.lt k hk).1)).setCell (p := ⟨pb, 1, none⟩) h.ge _, h.ge⟩, ⟨Nat.le_trans hsz (by have := hgr.size; simpa using this), fun k hk h1 h2 h3 h4 => (heap_setCell_other _ _ _ _ h1).trans (old k hk h3)⟩⟩, hpb.trans h.blk⟩
  · have := blk_set (hpb.trans h.blk) 1 v'
    simpa using this
  · obtain ⟨cs, fr, hc⟩ := owns_type1 h.s e
    obtain ⟨cs2, fr2, hc2⟩ := owns_type1 h.d hk
    exact types_apart1 hc hc2 (by decide) rfl
  · rw [List.length_append, List.flatMap_append]
    simpa using hown
  · obtain ⟨cs, fr, hc⟩ := owns_type1 h.s e
    obtain ⟨cs2, fr2, hc2⟩ := owns_type1 h.k hk
    exact types_apart1 hc hc2 (by decide) rfl
theorem PO.addK (h : PO w0 w pb D S K vd vs vl) {o : Obj} (hgr : (w.drew.alloc o).grownBy w1 vl.ownBlock) {x : Lk} {v' : Value} (hown : w1.ownsRow w0.heap.size 89 4 v' (K.length + 1) (K.flatMap lkCells ++ lkCells x)) (hat : v'.ownBlock = vl.ownBlock ∨ v'.ownBlock = some (w.drew.alloc o).heap.size) :
    (PO w0 (w1.setCell ⟨pb, 2, none⟩ v') pb D S (K ++ [x]) vd vs v' ∧ POF w (w1.setCell ⟨pb, 2, none⟩ v') pb vd vs vl) ∧ w1.heap[pb]? = some (.cells #[vd, vs, vl] 26 (0, 0)) := by
  have hsz : w.heap.size ≤ (w.drew.alloc o).heap.size := (plus_one1 w.drew o).size
  have hb1 : Below w0.heap.size w0 (w.drew.alloc o) := (h.b.trans ((Below.refl w0.heap.size w).drew)).alloc (Nat.le_trans h.b.size (Nat.le_refl _)) o
  have hlt := h.lt
  have old : ∀ k, k < w.heap.size → vl.ownBlock ≠ some k → w1.heap[k]? = w.heap[k]? := fun k hk hn => (hgr.block k (Nat.lt_of_lt_of_le hk hsz) (fun e => hn e.symm)).trans (Below.heap_alloc w.drew o k hk)
  have hpb : w1.heap[pb]? = w.heap[pb]? := old pb (hlt pb (.inl rfl)) (fun e => h.nk e rfl)
  have hnv : v'.ownBlock ≠ some pb := by
    intro e
    rcases hat with h1 | h1
    · rw [h1] at e
      exact h.nk e rfl
    · rw [h1] at e
      injection e with e
      have := hlt pb (.inl rfl)
      omega
  refine ⟨⟨⟨?_, owns_same (w := w1) (owns_same h.d (fun k hk => old k (h.d.lt k hk).2 (fun e => ?_))) (fun k hk => heap_setCell_other _ _ _ _ (h.nd hk)), owns_same (w := w1) (owns_same h.s (fun k hk => old k (h.s.lt k hk).2 (fun e => ?_))) (fun k hk => heap_setCell_other _ _ _ _ (h.ns hk)), owns_same (w := w1) ?_ (fun k hk => heap_setCell_other _ _ _ _ (fun e => hnv (by rw [hk, e]))), (hb1.grown hgr hb1.size (fun k hk => (h.k.lt k hk).1)).setCell (p := ⟨pb, 2, none⟩) h.ge _, h.ge⟩, ⟨Nat.le_trans hsz (by have := hgr.size; simpa using this), fun k hk h1 h2 h3 h4 => (heap_setCell_other _ _ _ _ h1).trans (old k hk h4)⟩⟩, hpb.trans h.blk⟩
  · have := blk_set (hpb.trans h.blk) 2 v'
    simpa using this
  · obtain ⟨cs, fr, hc⟩ := owns_type1 h.k e
    obtain ⟨cs2, fr2, hc2⟩ := owns_type1 h.d hk
    exact types_apart1 hc hc2 (by decide) rfl
  · obtain ⟨cs, fr, hc⟩ := owns_type1 h.k e
    obtain ⟨cs2, fr2, hc2⟩ := owns_type1 h.s hk
    exact types_apart1 hc hc2 (by decide) rfl
  · rw [List.length_append, List.flatMap_append]
    simpa using hown
end
end Go.Proofs.YtbgpniepgbmkaaaDoor

namespace Go.Proofs.YtbgpniepgbmkaaaDoor
open Go.RowKit BigFrame Go.BigFrame

theorem lit_reads (w : World) (l : List Value) (t : TypeId) (hl : l.length ≤ 1000) : Reads (w.alloc (.cells l.toArray t)) 1 (.slice (some ⟨w.heap.size, 0, none⟩) l.length l.length) l.length l :=
  ⟨by omega, _, _, rfl, Nat.le_refl _, by unfold maxLen; omega, fun _ => ⟨_, _, rfl, fun j u hj => by rw [Nat.zero_add, blk_cell (heap_alloc_new w _)]; simpa using hj⟩⟩
theorem drop_reads {w : World} {b o n c : Nat} {xs : List Value} (m : Nat) (h : Reads w 1 (.slice (some ⟨b, o, none⟩) n c) n xs) (hm : m ≤ n) : Reads w 1 (.slice (some ⟨b, o + m, none⟩) (n - m) (c - m)) (n - m) (xs.drop m) := by
  obtain ⟨h1, a', c', e, h2, h3, h4⟩ := h
  injection e with e1 _ e3
  subst e1 e3
  refine ⟨by rw [List.length_drop, h1]; omega, _, _, rfl, by omega, by omega, fun hp => ?_⟩
  obtain ⟨b', o', e, hc⟩ := h4 (by omega)
  injection e with e
  injection e with e1 e2
  subst e1 e2
  refine ⟨_, _, rfl, fun j u hj => ?_⟩
  rw [List.getElem?_drop] at hj
  rw [Nat.add_assoc]
  exact hc _ _ hj
theorem Tryd.info_dom : (Tryd.prog.info? 51).map (fun i => (i.zero, i.size, i.bytes)) = some (some (.agg #[.string ByteArray.empty, .int .i64 0, .int .i64 0, .int .i64 0, .int .i64 0, .int .i64 0]), 6, 56) := by kernel_rfl
theorem dm_one (d : Dm) : ∀ u ∈ Dm.cells d, u.oneCell' = true := by
  intro u hu
  simp only [Dm.cells, List.mem_cons, List.not_mem_nil, or_false] at hu
  rcases hu with rfl | rfl | rfl | rfl | rfl | rfl <;> rfl
def domE (D : List Dm) (x1 x2 x3 x4 x5 : ByteArray) : Int :=
  if (!(nameB (bl x1 0)) || decide (0 ≤ findD D x1)) = true then 4
  else if (readV x2).2.2 = 0 then (if numAll [x3, x4, x5] = true then 0 else 2) else (readV x2).2.2
def domV (x1 x2 x3 x4 x5 : ByteArray) : Dm := ⟨x1, (readV x2).1, (readV x2).2.1, (numM x3).1, (numM x4).1, (numM x5).1⟩
def domD (D : List Dm) (x1 x2 x3 x4 x5 : ByteArray) : List Dm := if domE D x1 x2 x3 x4 x5 = 0 then D ++ [domV x1 x2 x3 x4 x5] else D
theorem domD_bad {D : List Dm} {x1 x2 x3 x4 x5 : ByteArray} {e : Int} (h : domE D x1 x2 x3 x4 x5 = e) (he : (e == 0) = false) : domD D x1 x2 x3 x4 x5 = D := by
  unfold domD
  rw [if_neg (by rw [h]; simpa using he)]
section
variable {w0 w : World} {pb : Nat} {D : List Dm} {S : List (Int × Int)} {K : List Lk} {vd vs vl : Value}
end
end Go.Proofs.YtbgpniepgbmkaaaDoor

namespace Go.Proofs.YtbgpniepgbmkaaaDoor
open Go.RowKit BigFrame Go.BigFrame

theorem Tryd.info_slot : (Tryd.prog.info? 57).map (fun i => (i.zero, i.size, i.bytes)) = some (some (.agg #[.int .i64 0, .int .i64 0]), 2, 16) := by kernel_rfl
theorem sl_one (d : Int × Int) : ∀ u ∈ slCells d, u.oneCell' = true := by
  intro u hu
  simp only [slCells, List.mem_cons, List.not_mem_nil, or_false] at hu
  rcases hu with rfl | rfl <;> rfl
def slotE (D : List Dm) (x1 x2 : ByteArray) : Int := if findD D x1 < 0 then 4 else if numAll [x2] = true then 0 else 2
def slotS (D : List Dm) (S : List (Int × Int)) (x1 x2 : ByteArray) : List (Int × Int) := if slotE D x1 x2 = 0 then S ++ [(findD D x1, (numM x2).1)] else S
theorem slotS_bad {D : List Dm} {S : List (Int × Int)} {x1 x2 : ByteArray} {e : Int} (h : slotE D x1 x2 = e) (he : (e == 0) = false) : slotS D S x1 x2 = S := by
  unfold slotS
  rw [if_neg (by rw [h]; simpa using he)]
section
variable {w0 w : World} {pb : Nat} {D : List Dm} {S : List (Int × Int)} {K : List Lk} {vd vs vl : Value}
end
end Go.Proofs.YtbgpniepgbmkaaaDoor

namespace Go.Proofs.YtbgpniepgbmkaaaDoor
open Go.RowKit BigFrame Go.BigFrame

theorem Tryd.info_link : (Tryd.prog.info? 89).map (fun i => (i.zero, i.size, i.bytes)) = some (some (.agg #[.int .i64 0, .int .i64 0, .int .i64 0, .int .i64 0]), 4, 32) := by kernel_rfl
theorem lk_one (d : Lk) : ∀ u ∈ lkCells d, u.oneCell' = true := by
  intro u hu
  simp only [lkCells, List.mem_cons, List.not_mem_nil, or_false] at hu
  rcases hu with rfl | rfl | rfl | rfl <;> rfl
def linkE (D : List Dm) (x1 x2 x3 : ByteArray) : Int := if findD D x1 < 0 ∨ findD D x2 < 0 then 4 else if numAll [x3] = true then 0 else 2
def linkK (D : List Dm) (KL : List Lk) (kd : Int) (x1 x2 x3 : ByteArray) : List Lk := if linkE D x1 x2 x3 = 0 then KL ++ [⟨kd, findD D x1, findD D x2, (numM x3).1⟩] else KL
theorem linkK_bad {D : List Dm} {KL : List Lk} {kd : Int} {x1 x2 x3 : ByteArray} {e : Int} (h : linkE D x1 x2 x3 = e) (he : (e == 0) = false) : linkK D KL kd x1 x2 x3 = KL := by
  unfold linkK
  rw [if_neg (by rw [h]; simpa using he)]
section
variable {w0 w : World} {pb : Nat} {D : List Dm} {S : List (Int × Int)} {KL : List Lk} {vd vs vl : Value}
end
end Go.Proofs.YtbgpniepgbmkaaaDoor

namespace Go.Proofs.YtbgpniepgbmkaaaDoor
open Go.RowKit BigFrame Go.BigFrame

def sDomain : ByteArray := ⟨#[100, 111, 109, 97, 105, 110]⟩
def sSlot : ByteArray := ⟨#[115, 108, 111, 116]⟩
def sCell : ByteArray := ⟨#[99, 101, 108, 108]⟩
def sPump : ByteArray := ⟨#[112, 117, 109, 112]⟩
structure P3 where
  D : List Dm
  S : List (Int × Int)
  K : List Lk
/-- A line of words: the error, and the policy behind it. -/
def lineM (p : P3) (W : List ByteArray) : Int × P3 :=
  match W with
  | [x0, x1, x2, x3, x4, x5] => if x0 = sDomain then (domE p.D x1 x2 x3 x4 x5, ⟨domD p.D x1 x2 x3 x4 x5, p.S, p.K⟩) else (2, p)
  | [x0, x1, x2] => if x0 = sSlot then (slotE p.D x1 x2, ⟨p.D, slotS p.D p.S x1 x2, p.K⟩) else (2, p)
  | [x0, x1, x2, x3] => if x0 = sCell then (linkE p.D x1 x2 x3, ⟨p.D, p.S, linkK p.D p.K 1 x1 x2 x3⟩) else if x0 = sPump then (linkE p.D x1 x2 x3, ⟨p.D, p.S, linkK p.D p.K 2 x1 x2 x3⟩) else (2, p)
  | _ => (2, p)
theorem lineM_bad {p : P3} {x0 : ByteArray} {W1 : List ByteArray} {n : Nat} (hn : (x0 :: W1).length = n) (h1 : x0 = sDomain → n ≠ 6) (h2 : x0 = sSlot → n ≠ 3) (h3 : x0 = sCell → n ≠ 4) (h4 : x0 = sPump → n ≠ 4) : lineM p (x0 :: W1) = (2, p) := by
  subst hn
  unfold lineM
  split
  · next e =>
    injection e with e1 e2
    subst e1 e2
    rw [if_neg (fun e => h1 e rfl)]
  · next e =>
    injection e with e1 e2
    subst e1 e2
    rw [if_neg (fun e => h2 e rfl)]
  · next e =>
    injection e with e1 e2
    subst e1 e2
    rw [if_neg (fun e => h3 e rfl), if_neg (fun e => h4 e rfl)]
  · rfl
theorem tl_of {a b : ByteArray} (h : a.toList = b.toList) : a = b := by
  have := tl_eq a b
  rw [h] at this
  simpa using this.symm
theorem tl_lit (l : Array UInt8) : (⟨l⟩ : ByteArray).toList = l.toList := by rw [ByteArray.toList_eq]
theorem six_of {α : Type} {l : List α} (h : l.length = 5) : ∃ a b c d e, l = [a, b, c, d, e] := by
  match l, h with
  | [a, b, c, d, e], _ => exact ⟨a, b, c, d, e, rfl⟩
theorem three_of {α : Type} {l : List α} (h : l.length = 3) : ∃ a b c, l = [a, b, c] := by
  match l, h with
  | [a, b, c], _ => exact ⟨a, b, c, rfl⟩
theorem two_of {α : Type} {l : List α} (h : l.length = 2) : ∃ a b, l = [a, b] := by
  match l, h with
  | [a, b], _ => exact ⟨a, b, rfl⟩
section
variable {w0 w : World} {pb : Nat} {p : P3} {vd vs vl : Value}
end
end Go.Proofs.YtbgpniepgbmkaaaDoor

namespace Go.Proofs.YtbgpniepgbmkaaaDoor
open Go.RowKit BigFrame Go.BigFrame

theorem results_cell_tmp2 {fn : Func} {p u x : Tmp} {ty : TypeId} (h : fn.results = #[.cell p ty, .tmp u, .tmp x]) (tmps : Array Value) (P : Program) (w : World) :
    (results fn tmps).run P w =
      ((asAddr (tmps.getD p undef)).run P w).andThen fun a w₁ => ((loadVar ty a).run P w₁).andThen fun v w₂ => .ok (.tuple #[v, tmps.getD u undef, tmps.getD x undef]) w₂ := by
  simp only [results, h]
  simp [Sem.run_bind, Result.andThen]
theorem pol_load {w : World} {b : Nat} {vd vs vl : Value} (h : w.heap[b]? = some (.cells #[vd, vs, vl] 26 (0, 0))) : (loadVar 26 ⟨b, 0, none⟩).run Tryd.prog w = .ok (.agg #[vd, vs, vl]) w :=
  run_loadVar_row w b _ _ _ _ _ h Tryd.underlying26 rfl (by kernel_rfl)
set_option maxRecDepth 100000 in
theorem pol_ret {fn : Func} {p u x : Tmp} (h : fn.results = #[.cell p 26, .tmp u, .tmp x]) (tmps : Array Value) (w : World) (b : Nat) (vd vs vl : Value) (hp : tmps.getD p undef = .pointer (some ⟨b, 0, none⟩)) (hb : w.heap[b]? = some (.cells #[vd, vs, vl] 26 (0, 0))) :
    (results fn tmps).run Tryd.prog w = .ok (.tuple #[.agg #[vd, vs, vl], tmps.getD u undef, tmps.getD x undef]) w := by
  rw [results_cell_tmp2 h, hp]
  show ((loadVar 26 ⟨b, 0, none⟩).run Tryd.prog w).andThen _ = _
  rw [pol_load hb]
  rfl
def noP : P3 := ⟨[], [], []⟩
/-- The lines of a text's words, one by one. -/
def parseRun : Nat → P3 → List Wd → P3 × Int × Int
  | 0, p, _ => (p, 0, 0)
  | _ + 1, p, [] => (p, 0, 0)
  | f + 1, p, a :: L =>
    if (lineM p (((a :: L).takeWhile (fun d => decide (d.ln = a.ln))).map Wd.tx)).1 = 0 then
      parseRun f (lineM p (((a :: L).takeWhile (fun d => decide (d.ln = a.ln))).map Wd.tx)).2 ((a :: L).dropWhile (fun d => decide (d.ln = a.ln)))
    else (noP, a.ln, (lineM p (((a :: L).takeWhile (fun d => decide (d.ln = a.ln))).map Wd.tx)).1)
def endM (r : P3 × Int × Int) : P3 × Int × Int := if r.2.2 = 0 then (if checkM r.1.D r.1.S r.1.K = 0 then (r.1, 0, 0) else (noP, 0, checkM r.1.D r.1.S r.1.K)) else r
def parseM (s : ByteArray) : P3 × Int × Int := if (lexM s).2.1 = 0 then endM (parseRun (lexM s).1.length noP (lexM s).1) else (noP, (lexM s).2.2.1, (lexM s).2.1)
/-- How long things may be on the way. -/
structure PB (p : P3) (L : List Wd) : Prop where
  d : p.D.length + L.length ≤ 4097
  s : p.S.length + L.length ≤ 4097
  k : p.K.length + L.length ≤ 4097
  n : ∀ x ∈ p.D, x.nm.size ≤ 4096
  t : ∀ x ∈ L, x.tx.size ≤ 4096
theorem lineM_len (p : P3) (W : List ByteArray) : (lineM p W).2.D.length ≤ p.D.length + 1 ∧ (lineM p W).2.S.length ≤ p.S.length + 1 ∧ (lineM p W).2.K.length ≤ p.K.length + 1 := by
  unfold lineM
  split
  · split
    · refine ⟨?_, by simp, by simp⟩
      simp only [domD]
      split <;> simp
    · exact ⟨by simp, by simp, by simp⟩
  · split
    · refine ⟨by simp, ?_, by simp⟩
      simp only [slotS]
      split <;> simp
    · exact ⟨by simp, by simp, by simp⟩
  · split
    · refine ⟨by simp, by simp, ?_⟩
      simp only [linkK]
      split <;> simp
    · split
      · refine ⟨by simp, by simp, ?_⟩
        simp only [linkK]
        split <;> simp
      · exact ⟨by simp, by simp, by simp⟩
  · exact ⟨by simp, by simp, by simp⟩
theorem lineM_nm {p : P3} {W : List ByteArray} (h : ∀ x ∈ p.D, x.nm.size ≤ 4096) (hW : ∀ x ∈ W, x.size ≤ 4096) : ∀ x ∈ (lineM p W).2.D, x.nm.size ≤ 4096 := by
  unfold lineM
  split
  · split
    · simp only [domD]
      split
      · intro x hx
        rcases List.mem_append.1 hx with hx | hx
        · exact h x hx
        · rw [List.mem_singleton] at hx
          rw [hx]
          exact hW _ (by simp [domV])
      · exact h
    · exact h
  · split <;> exact h
  · split
    · exact h
    · split <;> exact h
  · exact h
theorem PB.step {p : P3} {L T R : List Wd} (h : PB p L) (hl : L = T ++ R) (ht : 1 ≤ T.length) : PB (lineM p (T.map Wd.tx)).2 R := by
  obtain ⟨h1, h2, h3, h4, h5⟩ := h
  subst hl
  obtain ⟨e1, e2, e3⟩ := lineM_len p (T.map Wd.tx)
  rw [List.length_append] at h1 h2 h3
  refine ⟨by omega, by omega, by omega, lineM_nm h4 ?_, fun x hx => h5 x (by simp [hx])⟩
  intro x hx
  obtain ⟨d, hd, rfl⟩ := List.mem_map.1 hx
  exact h5 d (by simp [hd])
theorem split_ln {a : Wd} {L T R : List Wd} (hl : a :: L = T ++ R) (hT : ∀ d ∈ T, d.ln = a.ln) (hR : R = [] ∨ ∃ d R', R = d :: R' ∧ d.ln ≠ a.ln) :
    (a :: L).takeWhile (fun d => decide (d.ln = a.ln)) = T ∧ (a :: L).dropWhile (fun d => decide (d.ln = a.ln)) = R ∧ 1 ≤ T.length := by
  refine ⟨?_, ?_, ?_⟩
  · rw [hl, List.takeWhile_append_of_pos (fun d hd => decide_eq_true (hT d hd))]
    rcases hR with rfl | ⟨d, R', rfl, hd⟩
    · simp
    · rw [List.takeWhile_cons, decide_eq_false hd]
      simp
  · rw [hl, List.dropWhile_append_of_pos (fun d hd => decide_eq_true (hT d hd))]
    rcases hR with rfl | ⟨d, R', rfl, hd⟩
    · simp
    · rw [List.dropWhile_cons, decide_eq_false hd]
      simp
  · cases T with
    | nil =>
      exfalso
      rw [List.nil_append] at hl
      subst hl
      rcases hR with h | ⟨d, R', h, hd⟩
      · cases h
      · injection h with e1 e2
        exact hd (by rw [e1])
    | cons => simp
/-- A policy that can be read. -/
structure PR (w : World) (vd vs vl : Value) (p : P3) : Prop where
  d : Reads w 6 vd p.D.length (p.D.flatMap Dm.cells)
  s : Reads w 2 vs p.S.length (p.S.flatMap slCells)
  k : Reads w 4 vl p.K.length (p.K.flatMap lkCells)
theorem PO.pr {w0 w : World} {pb : Nat} {p : P3} {vd vs vl : Value} (h : PO w0 w pb p.D p.S p.K vd vs vl) : PR w vd vs vl p := ⟨Reads.of_owns h.d, Reads.of_owns h.s, Reads.of_owns h.k⟩
theorem PR.empty (w : World) : PR w (.slice none 0 0) (.slice none 0 0) (.slice none 0 0) noP := ⟨Reads.nil _ _, Reads.nil _ _, Reads.nil _ _⟩
/-- The block of a list of words. -/
def WB (w : World) (v : Value) : Prop := ∀ k, v.ownBlock = some k → ∃ cs fr, w.heap[k]? = some (.cells cs 63 fr)
def vlen : Value → Nat
  | .slice _ n _ => n
  | _ => 0
section
variable {w0 w w1 : World} {pb : Nat} {D : List Dm} {S : List (Int × Int)} {K : List Lk} {vd vs vl v : Value}
theorem WB.pof (h : WB w v) (hp : PO w0 w pb D S K vd vs vl) (hf : POF w w1 pb vd vs vl) : ∀ k, v.ownBlock = some k → w1.heap[k]? = w.heap[k]? := by
  intro k hk
  obtain ⟨cs, fr, hc⟩ := h k hk
  refine hf.block k (lt_of_block hc) (types_apart1 hc hp.blk (by decide)) (fun e => ?_) (fun e => ?_) (fun e => ?_)
  · obtain ⟨_, _, hc2⟩ := owns_type1 hp.d e
    exact types_apart1 hc hc2 (by decide) rfl
  · obtain ⟨_, _, hc2⟩ := owns_type1 hp.s e
    exact types_apart1 hc hc2 (by decide) rfl
  · obtain ⟨_, _, hc2⟩ := owns_type1 hp.k e
    exact types_apart1 hc hc2 (by decide) rfl
theorem WB.same (h : WB w v) (hs : ∀ k, v.ownBlock = some k → w1.heap[k]? = w.heap[k]?) : WB w1 v := fun k hk => by rw [hs k hk]; exact h k hk
theorem WB.grown {w w4 : World} {o : Obj} {u : Value} {B n : Nat} {xs : List Value} (h : WB w v) (hown : w.ownsRow B 9 1 u n xs) (hgr : (w.alloc o).grownBy w4 u.ownBlock) : ∀ k, v.ownBlock = some k → w4.heap[k]? = w.heap[k]? := by
  intro k hk
  obtain ⟨cs, fr, hc⟩ := h k hk
  refine (hgr.block k (Nat.lt_of_lt_of_le (lt_of_block hc) (plus_one1 w o).size) (fun e => ?_)).trans (Below.heap_alloc w o k (lt_of_block hc))
  obtain ⟨_, _, hc2⟩ := owns_type1 hown e.symm
  exact types_apart1 hc hc2 (by decide) rfl
theorem WB.below (h : WB w v) (hb : Below w.heap.size w w1) : WB w1 v := h.same (fun k hk => by obtain ⟨_, _, hc⟩ := h k hk; exact hb.block k (lt_of_block hc))
end
theorem PO.put {w0 w : World} {pb : Nat} {D : List Dm} {S : List (Int × Int)} {K : List Lk} {vd vs vl : Value} (h : PO w0 w pb D S K vd vs vl) (x y z : Value) :
    (((w.setCell ⟨pb, 0, none⟩ x).setCell ⟨pb, 1, none⟩ y).setCell ⟨pb, 2, none⟩ z).heap[pb]? = some (.cells #[x, y, z] 26 (0, 0)) ∧ Below w0.heap.size w0 (((w.setCell ⟨pb, 0, none⟩ x).setCell ⟨pb, 1, none⟩ y).setCell ⟨pb, 2, none⟩ z) :=
  ⟨by have := blk_set (blk_set (blk_set h.blk 0 x) 1 y) 2 z; simpa using this, ((h.b.setCell (p := ⟨pb, 0, none⟩) h.ge x).setCell (p := ⟨pb, 1, none⟩) h.ge y).setCell (p := ⟨pb, 2, none⟩) h.ge z⟩
theorem pr_put {w0 w : World} {pb : Nat} {p : P3} {vd vs vl : Value} (h : PO w0 w pb p.D p.S p.K vd vs vl) (x y z : Value) : PR (((w.setCell ⟨pb, 0, none⟩ x).setCell ⟨pb, 1, none⟩ y).setCell ⟨pb, 2, none⟩ z) vd vs vl p := by
  have hs : ∀ k, k ≠ pb → (((w.setCell ⟨pb, 0, none⟩ x).setCell ⟨pb, 1, none⟩ y).setCell ⟨pb, 2, none⟩ z).heap[k]? = w.heap[k]? := fun k hk => (heap_setCell_other _ _ _ _ hk).trans ((heap_setCell_other _ _ _ _ hk).trans (heap_setCell_other _ _ _ _ hk))
  exact ⟨h.pr.d.frame (fun k hk => hs k (h.nd hk)), h.pr.s.frame (fun k hk => hs k (h.ns hk)), h.pr.k.frame (fun k hk => hs k (h.nk hk))⟩
theorem wd_len (d : Wd) : (wdCells d).length = 3 := rfl
theorem reads_vlen {w : World} {k n : Nat} {v : Value} {xs : List Value} (h : Reads w k v n xs) : vlen v = n := by
  obtain ⟨_, _, _, rfl, _⟩ := h
  rfl
theorem words_open {w : World} {v : Value} {d : Wd} {R : List Wd} (h : Reads w 3 v (d :: R).length ((d :: R).flatMap wdCells)) : ∃ bl o c, v = .slice (some ⟨bl, o, none⟩) (R.length + 1) c ∧ R.length + 1 ≤ c ∧ c ≤ maxLen ∧ w.cell? ⟨bl, o, none⟩ = some (.string d.tx) ∧ w.cell? ⟨bl, o + 1, none⟩ = some (.int .i64 d.ln) ∧
    (c = 1 → Reads w 3 (.slice (some ⟨bl, o, none⟩) 0 0) R.length (R.flatMap wdCells)) ∧ (c ≠ 1 → Reads w 3 (.slice (some ⟨bl, o + 3, none⟩) R.length (c - 1)) R.length (R.flatMap wdCells)) := by
  obtain ⟨h1, a, c, rfl, h2, h3, h4⟩ := h
  obtain ⟨bl, o, rfl, hc⟩ := h4 (by simp)
  have hlen : (R.flatMap wdCells).length = R.length * 3 := by
    rw [List.flatMap_cons, List.length_append, wd_len, List.length_cons] at h1
    omega
  rw [List.length_cons] at h2 ⊢
  refine ⟨bl, o, c, rfl, h2, h3, hc 0 _ rfl, hc 1 _ rfl, fun hc1 => ?_, fun hc1 => ⟨hlen, _, _, rfl, by omega, by omega, fun _ => ⟨_, _, rfl, fun j u hj => ?_⟩⟩⟩
  · have h0 : R = [] := List.eq_nil_of_length_eq_zero (by omega)
    subst h0
    exact ⟨rfl, _, _, rfl, Nat.le_refl _, Nat.zero_le _, fun h => by simp at h⟩
  · rw [Nat.add_assoc]
    refine hc _ _ ?_
    rw [List.flatMap_cons, List.getElem?_append_right (by rw [wd_len]; omega), wd_len, show 3 + j - 3 = j by omega]
    exact hj
theorem Tryd.info_str : (Tryd.prog.info? 9).map (fun i => (i.zero, i.size, i.bytes)) = some (some (.string ByteArray.empty), 1, 16) := by kernel_rfl
def headAt (R : List Wd) (x : Int) : Bool := match R with
  | [] => false
  | d :: _ => decide (d.ln = x)
theorem headAt_false {R : List Wd} {x : Int} (h : headAt R x = false) : R = [] ∨ ∃ d R', R = d :: R' ∧ d.ln ≠ x := by
  cases R with
  | nil => exact .inl rfl
  | cons d R' => exact .inr ⟨d, R', rfl, of_decide_eq_false h⟩
theorem headAt_true {R : List Wd} {x : Int} (h : headAt R x = true) : ∃ d R', R = d :: R' ∧ d.ln = x := by
  cases R with
  | nil => cases h
  | cons d R' => exact ⟨d, R', rfl, of_decide_eq_true h⟩
theorem PR.below {w w' : World} {vd vs vl : Value} {p : P3} (h : PR w vd vs vl p) (hb : Below w.heap.size w w') : PR w' vd vs vl p := ⟨h.d.below (by omega) hb, h.s.below (by omega) hb, h.k.below (by omega) hb⟩
theorem reads_shape {w : World} {k n m : Nat} {v : Value} {xs : List Value} (h : Reads w k v n xs) (hn : n = m) : ∃ a c, v = .slice a m c ∧ m ≤ c ∧ c ≤ 9223372036854775807 := by
  subst hn
  obtain ⟨_, a, c, h, h1, h2, _⟩ := h
  exact ⟨a, c, h, h1, h2⟩
theorem cells_at {w : World} {k n : Nat} {a : Option Addr} {c : Nat} {xs : List Value} (h : Reads w k (.slice a n c) n xs) (hn : 0 < n) : ∃ b o, a = some ⟨b, o, none⟩ ∧ ∀ j u, xs[j]? = some u → w.cell? ⟨b, o + j, none⟩ = some u := by
  obtain ⟨_, a', c', e, _, _, h4⟩ := h
  injection e with e1 _ e3
  subst e1 e3
  exact h4 hn
end Go.Proofs.YtbgpniepgbmkaaaDoor
