/- Words about memory that every walk of this seat uses: what a step leaves alone (Ext), rows that an object owns, and small laws about them. No condition. -/
import Derived.Test.YtbgpniepgbmkaaaDoorRows
import Derived.WalkKit
import Derived.WalkSpells
import Derived.WalkLawsBesides
import Derived.BigRegion
import Derived.BigQuiet
import Derived.Deep.QuietTactic
import Derived.Lib.Hide
namespace Go.Proofs.YtbgpniepgbmkaaaDoor
open Go.RowKit

/-- Outside the blocks of F nothing that was there has turned. -/
structure Ext (w w' : World) (F : Nat → Prop) : Prop where
  os : w'.os = w.os
  tape : w'.tape = w.tape
  output : w'.output = w.output
  size : w.heap.size ≤ w'.heap.size
  block : ∀ k, k < w.heap.size → ¬ F k → w'.heap[k]? = w.heap[k]?

theorem Ext.refl (w : World) (F : Nat → Prop) : Ext w w F := ⟨rfl, rfl, rfl, Nat.le_refl _, fun _ _ _ => rfl⟩
theorem Ext.trans {a b c : World} {F G H : Nat → Prop} (h : Ext a b F) (k : Ext b c G) (hF : ∀ i, i < a.heap.size → F i → H i) (hG : ∀ i, i < a.heap.size → G i → H i) : Ext a c H :=
  ⟨k.os.trans h.os, k.tape.trans h.tape, k.output.trans h.output, Nat.le_trans h.size k.size, fun i hi hn =>
    (k.block i (Nat.lt_of_lt_of_le hi h.size) (fun g => hn (hG i hi g))).trans (h.block i hi (fun g => hn (hF i hi g)))⟩
theorem Ext.mono {a b : World} {F H : Nat → Prop} (h : Ext a b F) (hF : ∀ i, i < a.heap.size → F i → H i) : Ext a b H :=
  ⟨h.os, h.tape, h.output, h.size, fun i hi hn => h.block i hi (fun g => hn (hF i hi g))⟩
theorem Ext.then {a b c : World} {F : Nat → Prop} (h : Ext a b F) (k : Ext b c F) : Ext a c F := h.trans k (fun _ _ x => x) (fun _ _ x => x)
theorem Ext.alloc {a w : World} {F : Nat → Prop} (h : Ext a w F) (o : Obj) : Ext a (w.alloc o) F :=
  h.trans (G := fun _ => False) ⟨rfl, rfl, rfl, by simp, fun k hk _ => Below.heap_alloc w o k hk⟩ (fun _ _ x => x) (fun _ _ x => x.elim)
theorem Ext.drew {a w : World} {F : Nat → Prop} (h : Ext a w F) : Ext a w.drew F := ⟨h.os, h.tape, h.output, h.size, h.block⟩
theorem Ext.drewN {a w : World} {F : Nat → Prop} (h : Ext a w F) (n : Nat) : Ext a (w.drewN n) F := ⟨h.os, h.tape, h.output, h.size, h.block⟩
theorem Ext.setCell {a w : World} {F : Nat → Prop} (h : Ext a w F) {p : Addr} (hp : p.block < a.heap.size → F p.block) (u : Value) : Ext a (w.setCell p u) F :=
  h.trans (G := fun k => k = p.block) ⟨rfl, rfl, rfl, by simp [World.setCell], fun k _ hk => heap_setCell_other w p k u hk⟩ (fun _ _ x => x) (fun i hi x => by subst x; exact hp hi)
theorem Ext.grown {a w w' : World} {F : Nat → Prop} {row : Option Nat} (h : Ext a w F) (hg : w.grownBy w' row) (hr : ∀ k, k < a.heap.size → row = some k → F k) : Ext a w' F :=
  h.trans (G := fun k => row = some k) ⟨hg.os, hg.tape, hg.output, hg.size, fun k hk hn => hg.block k hk (fun e => hn e.symm)⟩ (fun _ _ x => x) (fun i hi x => hr i hi x)
theorem Ext.below {w w' : World} {F : Nat → Prop} (h : Ext w w' F) (hF : ∀ k, k < w.heap.size → ¬ F k) : Below w.heap.size w w' :=
  ⟨h.os, h.tape, h.output, h.size, fun k hk => h.block k hk (hF k hk)⟩
theorem Ext.of_below {w w' : World} {F : Nat → Prop} (h : Below w.heap.size w w') : Ext w w' F := ⟨h.os, h.tape, h.output, h.size, fun k hk _ => h.block k hk⟩
theorem Ext.of_grown {w w' : World} (hg : w.grownBy w' none) (F : Nat → Prop) : Ext w w' F := (Ext.refl w F).grown hg (fun _ _ h => by cases h)

/-- What is owned stays owned where its block is left alone. -/
theorem owns_same {w w' : World} {base : Nat} {e : TypeId} {size : Nat} {v : Value} {n : Nat} {xs : List Value} (h : w.ownsRow base e size v n xs)
    (hs : ∀ k, v.ownBlock = some k → w'.heap[k]? = w.heap[k]?) : w'.ownsRow base e size v n xs := by
  obtain ⟨h1, h2⟩ := h
  refine ⟨h1, ?_⟩
  rcases h2 with h2 | ⟨g, cap, cur, rfl, hb, hg, r⟩
  · exact .inl h2
  · exact .inr ⟨g, cap, cur, rfl, hb, (hs g rfl).trans hg, r⟩
theorem owns_base {w : World} {base base' : Nat} {e : TypeId} {size : Nat} {v : Value} {n : Nat} {xs : List Value} (h : w.ownsRow base e size v n xs)
    (hb : ∀ k, v.ownBlock = some k → base' ≤ k) : w.ownsRow base' e size v n xs := by
  obtain ⟨h1, h2⟩ := h
  refine ⟨h1, ?_⟩
  rcases h2 with h2 | ⟨g, cap, cur, rfl, _, hg, r⟩
  · exact .inl h2
  · exact .inr ⟨g, cap, cur, rfl, hb g rfl, hg, r⟩
theorem owns_zero {w : World} {base : Nat} {e : TypeId} {size : Nat} {v : Value} {n : Nat} {xs : List Value} (h : w.ownsRow base e size v n xs) : w.ownsRow 0 e size v n xs :=
  owns_base h (fun _ _ => Nat.zero_le _)
/-- The shape of a value that owns a row, and its cells: nil, or the head of a block. -/
theorem owns_shape {w : World} {base : Nat} {e : TypeId} {size : Nat} {v : Value} {n : Nat} {xs : List Value} (h : w.ownsRow base e size v n xs) :
    ∃ a cap, v = .slice a n cap ∧ n ≤ cap ∧ cap ≤ maxLen ∧ (0 < n → ∃ g, a = some ⟨g, 0, none⟩) := by
  rcases h.2 with ⟨rfl, rfl⟩ | ⟨g, cap, cur, rfl, _, _, h1, h2, _⟩
  · exact ⟨none, 0, rfl, Nat.le_refl _, Nat.zero_le _, fun h => by omega⟩
  · exact ⟨_, cap, rfl, h1, h2, fun _ => ⟨g, rfl⟩⟩
theorem owns_pos {w : World} {base : Nat} {e : TypeId} {size : Nat} {v : Value} {n : Nat} {xs : List Value} (h : w.ownsRow base e size v n xs) (hn : 0 < n) :
    ∃ g cap, v = .slice (some ⟨g, 0, none⟩) n cap ∧ n ≤ cap ∧ cap ≤ maxLen ∧ g < w.heap.size := by
  rcases h.2 with ⟨_, rfl⟩ | ⟨g, cap, cur, rfl, _, hg, h1, h2, _⟩
  · omega
  · exact ⟨g, cap, rfl, h1, h2, lt_of_block hg⟩
theorem owns_len {w : World} {base : Nat} {e : TypeId} {size : Nat} {v : Value} {n : Nat} {xs : List Value} (h : w.ownsRow base e size v n xs) : xs.length = n * size := h.1
theorem blk_cell {w : World} {b : Nat} {cs : Array Value} {t : TypeId} (h : w.heap[b]? = some (.cells cs t (0, 0))) (i : Nat) : w.cell? ⟨b, i, none⟩ = cs[i]? := cell_of_row w b i cs t (0, 0) h
theorem blk_free {w : World} {b : Nat} {cs : Array Value} {t : TypeId} (h : w.heap[b]? = some (.cells cs t (0, 0))) (i : Nat) : w.frozen? ⟨b, i, none⟩ = false := frozen_of_row w b i cs t h
theorem blk_set {w : World} {b : Nat} {cs : Array Value} {t : TypeId} (h : w.heap[b]? = some (.cells cs t (0, 0))) (i : Nat) (u : Value) :
    (w.setCell ⟨b, i, none⟩ u).heap[b]? = some (.cells (cs.setIfInBounds i u) t (0, 0)) := heap_setCell_same w b i cs t u h

/-- A slice that reads as xs (n elements of size cells), wherever it lies. -/
def Reads (w : World) (size : Nat) (v : Value) (n : Nat) (xs : List Value) : Prop :=
  xs.length = n * size ∧ ∃ a cap, v = .slice a n cap ∧ n ≤ cap ∧ cap ≤ maxLen ∧ (0 < n → ∃ b o, a = some ⟨b, o, none⟩ ∧ ∀ j u, xs[j]? = some u → w.cell? ⟨b, o + j, none⟩ = some u)
theorem Reads.frame {w w' : World} {size : Nat} {v : Value} {n : Nat} {xs : List Value} (h : Reads w size v n xs) (hs : ∀ k, v.ownBlock = some k → w'.heap[k]? = w.heap[k]?) : Reads w' size v n xs := by
  obtain ⟨h1, a, cap, rfl, h2, h3, h4⟩ := h
  refine ⟨h1, a, cap, rfl, h2, h3, fun hn => ?_⟩
  obtain ⟨b, o, rfl, hc⟩ := h4 hn
  exact ⟨b, o, rfl, fun j u hj => (World.cell?_of_block (hs b rfl)).trans (hc j u hj)⟩
theorem Reads.of_owns {w : World} {base : Nat} {e : TypeId} {size : Nat} {v : Value} {n : Nat} {xs : List Value} (h : w.ownsRow base e size v n xs) : Reads w size v n xs := by
  obtain ⟨a, cap, rfl, h1, h2, h3⟩ := owns_shape h
  refine ⟨h.1, a, cap, rfl, h1, h2, fun hn => ?_⟩
  obtain ⟨b, rfl⟩ := h3 hn
  refine ⟨b, 0, rfl, fun j u hj => ?_⟩
  have hl : j < n * size := by rw [← h.1]; exact (List.getElem?_eq_some_iff.1 hj).1
  rw [Nat.zero_add, h.cellAt j hl, hj]
theorem Reads.nil (w : World) (size : Nat) : Reads w size (.slice none 0 0) 0 [] := ⟨by simp, none, 0, rfl, Nat.le_refl _, Nat.zero_le _, fun h => by omega⟩
theorem Reads.lt {w : World} {size : Nat} {v : Value} {n : Nat} {xs : List Value} (h : Reads w size v n xs) (hn : 0 < n) (hs : 0 < size) : ∀ k, v.ownBlock = some k → k < w.heap.size := by
  obtain ⟨h1, a, cap, rfl, h2, h3, h4⟩ := h
  obtain ⟨b, o, rfl, hc⟩ := h4 hn
  intro k hk
  simp only [Value.ownBlock, Option.some.injEq] at hk
  subst hk
  have h0 : 0 < xs.length := by rw [h1]; exact Nat.mul_pos hn hs
  exact block_lt_of_cell (hc 0 _ (List.getElem?_eq_getElem h0))
def ints (l : List Int) : List Value := l.map (Value.int .i64)
theorem ints_len (l : List Int) : (ints l).length = l.length := by simp [ints]
theorem ints_get (l : List Int) (i : Nat) (h : i < l.length) : (ints l)[i]? = some (.int .i64 l[i]) := by simp [ints, h]
theorem ints_snoc (l : List Int) (x : Int) : ints (l ++ [x]) = ints l ++ [.int .i64 x] := by simp [ints]
/-- One more element is laid ahead of an append: its block, and its one cell. -/
theorem news_one (w : World) (v : Value) (t : TypeId) : ∀ j u, [v][j]? = some u → (w.alloc (.cells #[v] t)).cell? ((⟨w.heap.size, 0, none⟩ : Addr).add j) = some u := cell_one_new w v t
theorem news_at (w : World) (v : Value) (t : TypeId) (k : Nat) (hk : k = w.heap.size) : ∀ j u, [v][j]? = some u → (w.alloc (.cells #[v] t)).cell? ((⟨k, 0, none⟩ : Addr).add j) = some u := by subst hk; exact cell_one_new w v t
theorem news_cells (w : World) (cs : Array Value) (t : TypeId) (k : Nat) (hk : k = w.heap.size) : ∀ j u, cs.toList[j]? = some u → (w.alloc (.cells cs t)).cell? ((⟨k, 0, none⟩ : Addr).add j) = some u := by
  subst hk
  intro j u hj
  have e : ((⟨w.heap.size, 0, none⟩ : Addr).add j) = ⟨w.heap.size, j, none⟩ := by
    unfold Addr.add
    split
    · rename_i h; subst h; rfl
    · simp
  rw [e, blk_cell (heap_alloc_new w _)]
  simpa using hj
theorem news_int (n : Int) : ∀ u ∈ [Value.int .i64 n], u.oneCell' = true := by intro u hu; simp at hu; subst hu; rfl

theorem Tryd.info_int : (Tryd.prog.info? 3).map (fun i => (i.zero, i.size, i.bytes)) = some (some (.int .i64 0), 1, 8) := by kernel_rfl

def bools (l : List Bool) : List Value := l.map Value.bool
theorem bools_len (l : List Bool) : (bools l).length = l.length := by simp [bools]
theorem bools_snoc (l : List Bool) (x : Bool) : bools (l ++ [x]) = bools l ++ [.bool x] := by simp [bools]
theorem bools_set (l : List Bool) (i : Nat) (x : Bool) : bools (l.set i x) = (bools l).set i (.bool x) := by simp [bools, List.map_set]
theorem ints_set (l : List Int) (i : Nat) (x : Int) : ints (l.set i x) = (ints l).set i (.int .i64 x) := by simp [ints, List.map_set]
theorem news_bool (b : Bool) : ∀ u ∈ [Value.bool b], u.oneCell' = true := by intro u hu; simp at hu; subst hu; rfl
theorem ints_one (l : List Int) : ∀ u ∈ ints l, u.oneCell' = true := by intro u hu; simp [ints] at hu; obtain ⟨a, _, rfl⟩ := hu; rfl
/-- The cell of a row of the call's own. -/
theorem owns_int {w : World} {base : Nat} {e : TypeId} {b n cap : Nat} {l : List Int} (h : w.ownsRow base e 1 (.slice (some ⟨b, 0, none⟩) n cap) n (ints l)) {i : Nat} {x : Int} (hi : l[i]? = some x) : w.cell? ⟨b, i, none⟩ = some (.int .i64 x) := by
  have h1 := (List.getElem?_eq_some_iff.1 hi).1
  have h2 := h.1
  rw [ints_len] at h2
  rw [h.cellAt i (by omega)]
  simp [ints, hi]
theorem owns_bool {w : World} {base : Nat} {e : TypeId} {b n cap : Nat} {l : List Bool} (h : w.ownsRow base e 1 (.slice (some ⟨b, 0, none⟩) n cap) n (bools l)) {i : Nat} {x : Bool} (hi : l[i]? = some x) : w.cell? ⟨b, i, none⟩ = some (.bool x) := by
  have h1 := (List.getElem?_eq_some_iff.1 hi).1
  have h2 := h.1
  rw [bools_len] at h2
  rw [h.cellAt i (by omega)]
  simp [bools, hi]
/-- A block's element type, where a row owns it; rows of unlike types lie apart. -/
theorem owns_type {w : World} {base : Nat} {e : TypeId} {size : Nat} {v : Value} {n : Nat} {xs : List Value} (h : w.ownsRow base e size v n xs) {k : Nat} (hk : v.ownBlock = some k) : ∃ cs fr, w.heap[k]? = some (.cells cs e fr) := by
  rcases h.2 with ⟨rfl, _⟩ | ⟨g, cap, cur, rfl, _, hg, _⟩
  · cases hk
  · simp only [Value.ownBlock, Option.some.injEq] at hk
    subst hk
    exact ⟨_, _, hg⟩
theorem types_apart {w : World} {k k' : Nat} {cs cs' : Array Value} {e e' : TypeId} {fr fr' : Nat × Nat} (h : w.heap[k]? = some (.cells cs e fr)) (h' : w.heap[k']? = some (.cells cs' e' fr')) (hne : e ≠ e') : k ≠ k' := by
  rintro rfl
  rw [h] at h'
  injection h' with h'
  injection h' with _ h2 _
  exact hne h2
theorem owns_apart {w : World} {base base' : Nat} {e e' : TypeId} {size size' : Nat} {v v' : Value} {n n' : Nat} {xs xs' : List Value} (h : w.ownsRow base e size v n xs) (h' : w.ownsRow base' e' size' v' n' xs') (hne : e ≠ e') :
    v.ownBlock = none ∨ v.ownBlock ≠ v'.ownBlock := by
  cases hv : v.ownBlock with
  | none => exact .inl rfl
  | some k =>
    refine .inr (fun hv' => ?_)
    obtain ⟨c, f, hc⟩ := owns_type h hv
    obtain ⟨c', f', hc'⟩ := owns_type h' hv'.symm
    exact types_apart hc hc' hne rfl
theorem Tryd.info_bool : (Tryd.prog.info? 4).map (fun i => (i.zero, i.size, i.bytes)) = some (some (.bool false), 1, 1) := by kernel_rfl
/-- A callee that leaves the world alone, met inside a region of an open order. -/
theorem quiet_eq {P : Program} {f : FuncId} {args : Array Value} {w : World} {n : Nat} {v : Value} (h : Calls P f args (w.drewN n) fun e w' => e = .returned v ∧ w.drewN n = w') :
    Calls P f args (w.drewN n) fun e w'' => e = .returned v ∧ ∃ m, w'' = w.drewN m := h.mono fun _ _ ⟨he, hm⟩ => ⟨he, n, hm.symm⟩
end Go.Proofs.YtbgpniepgbmkaaaDoor
