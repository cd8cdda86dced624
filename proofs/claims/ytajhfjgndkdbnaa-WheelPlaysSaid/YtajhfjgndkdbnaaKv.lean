/- Rows that are kept and read while other things are turned; small words on worlds. No condition. -/
import Derived.Test.YtajhfjgndkdbnaaInts
namespace Go.Proofs.Ytajhfjgndkdbnaa
open Go.RowKit BigFrame

theorem Try.info_int1 : (Try.prog.info? 3).map (fun i => (i.zero, i.size, i.bytes)) = some (some (.int .i64 0), 1, 8) := by kernel_rfl
theorem size_drew1 (w : World) : w.drew.heap.size = w.heap.size := rfl
theorem size_alloc1 (w : World) (o : Obj) : (w.alloc o).heap.size = w.heap.size + 1 := by simp
theorem below_drewN {B : Nat} {a w : World} (h : Below B a w) (q : Nat) : Below B a (w.drewN q) := ⟨h.os, h.tape, h.output, h.size, h.block⟩
theorem ext_below2 {w w1 w2 : World} {F : Nat → Prop} (hb : Below w.heap.size w w1) (hx : Ext w1 w2 F) (hF : ∀ k, F k → w.heap.size ≤ k) : Below w.heap.size w w2 :=
  ⟨hx.os.trans hb.os, hx.tape.trans hb.tape, hx.output.trans hb.output, Nat.le_trans hb.size hx.size, fun k hk => (hx.block k (Nat.lt_of_lt_of_le hk hb.size) (fun h => by have := hF k h; omega)).trans (hb.block k hk)⟩
/-- A row of numbers that stays whatever is done to the blocks Ft. -/
def Kv (w : World) (Ft : Nat → Prop) (v : Value) (l : List Int) : Prop := Reads w 1 v l.length (ints l) ∧ ∀ k, v.ownBlock = some k → l ≠ [] → k < w.heap.size ∧ ¬ Ft k
theorem Kv.ext {w w' : World} {Ft : Nat → Prop} {v : Value} {l : List Int} (h : Kv w Ft v l) (hx : Ext w w' Ft) : Kv w' Ft v l := by
  by_cases hl : l = []
  · subst hl
    obtain ⟨⟨h1, a, c, e, h2, h3, h4⟩, _⟩ := h
    exact ⟨⟨h1, a, c, e, h2, h3, fun h0 => by simp at h0⟩, fun _ _ h => absurd rfl h⟩
  · exact ⟨h.1.frame (fun k hk => hx.block k (h.2 k hk hl).1 (h.2 k hk hl).2), fun k hk _ => ⟨Nat.lt_of_lt_of_le (h.2 k hk hl).1 hx.size, (h.2 k hk hl).2⟩⟩
theorem Kv.below {w w' : World} {Ft : Nat → Prop} {v : Value} {l : List Int} (h : Kv w Ft v l) (hb : Below w.heap.size w w') : Kv w' Ft v l := h.ext (Ext.of_below hb)
/-- What was handed over anew: it lies beside the blocks that were there. -/
theorem Kv.new {w w' : World} {Ft : Nat → Prop} {v : Value} {l : List Int} (h : Reads w' 1 v l.length (ints l)) (hv : ∀ k, v.ownBlock = some k → w.heap.size ≤ k) (hF : ∀ k, Ft k → k < w.heap.size) : Kv w' Ft v l :=
  ⟨h, fun k hk hl => ⟨h.lt (by cases l with | nil => exact absurd rfl hl | cons => simp) (by decide) k hk, fun hf => by have := hF k hf; have := hv k hk; omega⟩⟩
theorem Kv.shape {w : World} {Ft : Nat → Prop} {v : Value} {l : List Int} (h : Kv w Ft v l) (hn : 0 < l.length) : ∃ bv o cap, v = .slice (some ⟨bv, o, none⟩) l.length cap ∧ l.length ≤ cap ∧ cap ≤ maxLen := by
  obtain ⟨⟨_, a, cap, rfl, h2, h3, h4⟩, _⟩ := h
  obtain ⟨bv, o, rfl, _⟩ := h4 hn
  exact ⟨bv, o, cap, rfl, h2, h3⟩
theorem Kv.cell {w : World} {Ft : Nat → Prop} {bv o n cap : Nat} {l : List Int} (h : Kv w Ft (.slice (some ⟨bv, o, none⟩) n cap) l) {i : Nat} {x : Int} (hx : l[i]? = some x) : w.cell? ⟨bv, o + i, none⟩ = some (.int .i64 x) := by
  obtain ⟨⟨_, a, c, e, h2, h3, h4⟩, _⟩ := h
  have hi := (List.getElem?_eq_some_iff.1 hx).1
  injection e with e1 e2 e3
  subst e1
  obtain ⟨b', o', e, hc⟩ := h4 (by omega)
  injection e with e
  injection e with e1 e2
  subst e1 e2
  exact hc i _ (by simp [ints, hx])
theorem Kv.belowB {w w' : World} {Ft : Nat → Prop} {v : Value} {l : List Int} {B : Nat} (h : Kv w Ft v l) (hb : Below B w w') (hB : ∀ k, v.ownBlock = some k → k < B) : Kv w' Ft v l :=
  ⟨h.1.frame (fun k hk => hb.block k (hB k hk)), fun k hk hl => ⟨Nat.lt_of_lt_of_le (h.2 k hk hl).1 hb.size, (h.2 k hk hl).2⟩⟩
/-- What was read stays where a row of one's own grows. -/
theorem reads_grown {w0 wr w2 : World} {o : Obj} {u v : Value} {B n : Nat} {xs : List Value} {e : TypeId} {m : Nat} {l : List Int} (hown : w0.ownsRow B e 1 u n xs) (hgr : (wr.alloc o).grownBy w2 u.ownBlock) (hr : Reads wr 1 v m (ints l)) (hm : 0 < m) (hv : ∀ k, v.ownBlock = some k → w0.heap.size ≤ k) : Reads w2 1 v m (ints l) :=
  hr.frame (fun k hk => by
    have q1 := hv k hk
    have q2 := hr.lt hm (by decide) k hk
    rw [hgr.block k (by simp; omega) (fun e => by have := (hown.lt k e.symm).2; omega), Below.heap_alloc _ _ _ q2])
theorem reads_lit (w : World) (l : List Int) (t : TypeId) (hl : l.length ≤ 1000) : Reads (w.alloc (.cells (ints l).toArray t)) 1 (.slice (some ⟨w.heap.size, 0, none⟩) l.length l.length) l.length (ints l) :=
  ⟨by rw [ints_len, Nat.mul_one], _, _, rfl, Nat.le_refl _, by unfold maxLen; omega, fun _ => ⟨_, _, rfl, fun j u hj => by rw [Nat.zero_add, blk_cell (heap_alloc_new w _)]; simpa using hj⟩⟩
theorem ints_any {w : World} {v u : Value} {n m : Nat} {l k : List Int} {ok : Bool} (ho : decide (l = k) = ok) (hv : Reads w 1 v n (ints l)) (hu : Reads w 1 u m (ints k)) :
    Calls Try.prog 15 #[v, u] w fun e w' => e = .returned (.bool ok) ∧ ∃ q, w' = w.drewN q := by
  have := ints_calls hv hu
  rw [ho] at this
  exact this
theorem ints_same {w : World} {v u : Value} {n m : Nat} {l : List Int} (hv : Reads w 1 v n (ints l)) (hu : Reads w 1 u m (ints l)) :
    Calls Try.prog 15 #[v, u] w fun e w' => e = .returned (.bool true) ∧ ∃ q, w' = w.drewN q := ints_any (decide_eq_true rfl) hv hu
end Go.Proofs.Ytajhfjgndkdbnaa
