/- What sign.Read does. Condition: the text's length, at most 2^47 bytes. -/
import Derived.Test.YtbgpniepgbmkaaaDoorSignRead
namespace Go.Proofs.YtbgpniepgbmkaaaDoor
open Go.RowKit

def readV (s : ByteArray) : Int × Int × Int := match parseL (bl s 0) with | some (l, c) => (l, c, 0) | none => (0, 0, 3)
theorem readV_none {s : ByteArray} (h : parseL (bl s 0) = none) : readV s = (0, 0, 3) := by unfold readV; rw [h]
theorem readV_some {s : ByteArray} {l c : Int} (h : parseL (bl s 0) = some (l, c)) : readV s = (l, c, 0) := by unfold readV; rw [h]
def readOut (s : ByteArray) : Value := .tuple #[lab (readV s).1 (readV s).2.1, .int .i64 (readV s).2.2]

/-- The reader's three blocks. -/
structure RInv (w wr : World) (s : ByteArray) (pos : Nat) (lv m : Int) : Prop where
  e : wr.heap[w.heap.size]? = some (.cells #[.int .i64 0, .int .i64 0] 49 (0, 0))
  o : wr.heap[w.heap.size + 1]? = some (.cells #[.int .i64 lv, .int .i64 m] 49 (0, 0))
  i : wr.heap[w.heap.size + 2]? = some (.stringIter s pos)
  b : Below w.heap.size w wr
section
variable {w wr : World} {s : ByteArray} {pos : Nat} {lv m : Int}
theorem RInv.next (h : RInv w wr s pos lv m) (p : Nat) : RInv w (wr.iterAt (w.heap.size + 2) s p) s p lv m :=
  ⟨(Lib.iterAt_other _ _ _ _ _ (by omega)).trans h.e, (Lib.iterAt_other _ _ _ _ _ (by omega)).trans h.o, Lib.iterAt_heap _ _ _ _ _ h.i, Lib.below_iterAt h.b (by omega) _ _⟩
theorem RInv.level (h : RInv w wr s pos lv m) (x : Int) : RInv w (wr.setCell ⟨w.heap.size + 1, 0, none⟩ (.int .i64 x)) s pos x m :=
  ⟨(Below.heap_setCell _ _ _ _ (by simp)).trans h.e, blk_set h.o 0 (.int .i64 x), (Below.heap_setCell _ _ _ _ (by simp)).trans h.i, h.b.setCell (by simp) _⟩
theorem RInv.mask (h : RInv w wr s pos lv m) (x : Int) : RInv w (wr.setCell ⟨w.heap.size + 1, 1, none⟩ (.int .i64 x)) s pos lv x :=
  ⟨(Below.heap_setCell _ _ _ _ (by simp)).trans h.e, blk_set h.o 1 (.int .i64 x), (Below.heap_setCell _ _ _ _ (by simp)).trans h.i, h.b.setCell (by simp) _⟩
theorem RInv.put (h : RInv w wr s pos lv m) (x y : Int) : ((wr.setCell ⟨w.heap.size, 0, none⟩ (.int .i64 x)).setCell ⟨w.heap.size, 1, none⟩ (.int .i64 y)).heap[w.heap.size]? = some (.cells #[.int .i64 x, .int .i64 y] 49 (0, 0)) ∧ Below w.heap.size w ((wr.setCell ⟨w.heap.size, 0, none⟩ (.int .i64 x)).setCell ⟨w.heap.size, 1, none⟩ (.int .i64 y)) :=
  ⟨blk_set (blk_set h.e 0 (.int .i64 x)) 1 (.int .i64 y), (h.b.setCell (p := ⟨w.heap.size, 0, none⟩) (Nat.le_refl _) _).setCell (p := ⟨w.heap.size, 1, none⟩) (Nat.le_refl _) _⟩
theorem RInv.drew (h : RInv w wr s pos lv m) : RInv w wr.drew s pos lv m := ⟨h.e, h.o, h.i, h.b.drew⟩
end

theorem label_load {w : World} {b : Nat} {x y : Int} (h : w.heap[b]? = some (.cells #[.int .i64 x, .int .i64 y] 49 (0, 0))) : (loadVar 49 ⟨b, 0, none⟩).run Tryd.prog w = .ok (lab x y) w :=
  run_loadVar_row w b _ _ _ _ _ h Tryd.underlying49 rfl (by kernel_rfl)
set_option maxRecDepth 100000 in
theorem label_ret {fn : Func} {p u : Tmp} (h : fn.results = #[.cell p 49, .tmp u]) (tmps : Array Value) (w : World) (b : Nat) (x y : Int) (hp : tmps.getD p undef = .pointer (some ⟨b, 0, none⟩)) (hb : w.heap[b]? = some (.cells #[.int .i64 x, .int .i64 y] 49 (0, 0))) :
    (results fn tmps).run Tryd.prog w = .ok (.tuple #[lab x y, tmps.getD u undef]) w := by
  rw [results_cell_tmp h, hp]
  show ((loadVar 49 ⟨b, 0, none⟩).run Tryd.prog w).andThen _ = _
  rw [label_load hb]
  rfl

end Go.Proofs.YtbgpniepgbmkaaaDoor
