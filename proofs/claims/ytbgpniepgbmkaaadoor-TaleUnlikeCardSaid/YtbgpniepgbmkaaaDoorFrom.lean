/- An append of all of a slice that may be nil, to a row of the call's own. No condition but those named. -/
import Derived.Test.YtbgpniepgbmkaaaDoorObj
import Derived.Laws.AppendOwnNone
namespace Go.Proofs.YtbgpniepgbmkaaaDoor
open Go.RowKit

section
variable {P : Program} {w : World} {ops : Array Oper} {o : Oper} {a : Act} {K : Act → World → Prop} {Q : Exit → Act → World → Prop} {E : Prop}
theorem name_world {W' : World} (h : ∀ W, W = W' → K a W) : K a W' := h _ rfl
/-- An append of all of a slice that may be nil. -/
theorem step_append_from (hgd : o.guard = none) (s x : Operand) (t : TypeId)
    (ho : o.op = .call { callee := .builtin .append, args := #[s, x], argTypes := #[t, t] })
    (base : Nat) (e : TypeId) (i : TypeInfo) (z : Value) (size bytes : Nat) (ht : P.underlying t = some (.slice e)) (hi : P.info? e = some i) (hz : i.zero = some z)
    (hsize : i.size = size) (hby : i.bytes = bytes) (hzs : z.cells.size = size) (hsz : 0 < size)
    (v : Value) (n : Nat) (xs : List Value) (hs : a.eval s = v) (hown : w.ownsRow base e size v n xs)
    (u : Value) (m : Nat) (news : List Value) (hx : a.eval x = u) (hu : Reads w size u m news) (hu2 : u = .slice none 0 0 ∨ ∃ bl o n c, u = .slice (some ⟨bl, o, none⟩) n c) (h1 : ∀ u ∈ news, u.oneCell' = true)
    (h63 : n + m ≤ maxLen) (hbytes : (n + m) * bytes ≤ 140737488355328) (hbase : base ≤ w.heap.size)
    (h : ∀ v' w', w'.ownsRow base e size v' (n + m) (xs ++ news) → w.grownBy w' v.ownBlock → (v'.ownBlock = v.ownBlock ∨ v'.ownBlock = some w.heap.size) → K (a.put o.dst v') w') :
    if Region.wanted o (yielded ops a.tmps) = true then Oper.wp P o a w K Q else E := by
  obtain ⟨hl, a', c, rfl, h2, h3, h4⟩ := hu
  rcases hu2 with hu2 | ⟨bl, of, n', c', hu2⟩
  · injection hu2 with e1 e2 e3
    subst e1 e2 e3
    have hnil : news = [] := List.eq_nil_of_length_eq_zero (by simpa using hl)
    subst hnil
    rw [if_pos (by simp [Region.wanted, hgd])]
    have hrun := run_append_owned_none (P := P) (w := w) base t o.type e i size ht hi v n xs hown
    unfold Oper.wp
    simp [execOp, ho, resolve, invoke, builtin, hs, hx, hrun, Result.andThen]
    exact h v w (by simpa using hown) ⟨rfl, rfl, rfl, Nat.le_refl _, fun _ _ _ => rfl⟩ (.inl rfl)
  · injection hu2 with e1 e2 e3
    subst e1 e2 e3
    refine step_append_at hgd s x t ho base e i z size bytes ht hi hz hsize hby hzs hsz v n xs hs hown ⟨bl, of, none⟩ m c news hx hl ?_ h1 h63 hbytes hbase h
    intro j y hj
    have hm : 0 < m := by
      have := (List.getElem?_eq_some_iff.1 hj).1
      rw [hl] at this
      exact Nat.pos_of_mul_pos_right (Nat.lt_of_le_of_lt (Nat.zero_le _) this)
    obtain ⟨b2, o2, e4, h5⟩ := h4 hm
    injection e4 with e4
    injection e4 with e4 e5
    subst e4 e5
    rw [← h5 j y hj]
    unfold Addr.add
    split
    · rename_i h0; subst h0; rfl
    · rfl
/-- The same, in a walk in the order of the text. -/
theorem wpList_append_from {rest : List Oper} (hgd : o.guard = none) (s x : Operand) (t : TypeId)
    (ho : o.op = .call { callee := .builtin .append, args := #[s, x], argTypes := #[t, t] })
    (base : Nat) (e : TypeId) (i : TypeInfo) (z : Value) (size bytes : Nat) (ht : P.underlying t = some (.slice e)) (hi : P.info? e = some i) (hz : i.zero = some z)
    (hsize : i.size = size) (hby : i.bytes = bytes) (hzs : z.cells.size = size) (hsz : 0 < size)
    (v : Value) (n : Nat) (xs : List Value) (hs : a.eval s = v) (hown : w.ownsRow base e size v n xs)
    (u : Value) (m : Nat) (news : List Value) (hx : a.eval x = u) (hu : Reads w size u m news) (hu2 : u = .slice none 0 0 ∨ ∃ bl o n c, u = .slice (some ⟨bl, o, none⟩) n c) (h1 : ∀ u ∈ news, u.oneCell' = true)
    (h63 : n + m ≤ maxLen) (hbytes : (n + m) * bytes ≤ 140737488355328) (hbase : base ≤ w.heap.size)
    (h : ∀ v' w', w'.ownsRow base e size v' (n + m) (xs ++ news) → w.grownBy w' v.ownBlock → (v'.ownBlock = v.ownBlock ∨ v'.ownBlock = some w.heap.size) → wpList P ops Q rest (a.put o.dst v') w') : wpList P ops Q (o :: rest) a w :=
  wpList_step fun _ hK => step_append_from hgd s x t ho base e i z size bytes ht hi hz hsize hby hzs hsz v n xs hs hown u m news hx hu hu2 h1 h63 hbytes hbase (fun v' w' h2 h3 h4 => hK _ _ (h v' w' h2 h3 h4))
end
theorem one_reads (w : World) (x : Int) (t : TypeId) : Reads (w.alloc (.cells #[.int .i64 x] t)) 1 (.slice (some ⟨w.heap.size, 0, none⟩) 1 1) 1 (ints [x]) := by
  refine ⟨rfl, _, _, rfl, Nat.le_refl _, by unfold maxLen; omega, fun _ => ⟨_, _, rfl, fun j u hj => ?_⟩⟩
  rw [Nat.zero_add, blk_cell (heap_alloc_new w _)]
  simpa [ints] using hj
theorem Reads.grown {w w' : World} {row : Option Nat} {size n : Nat} {v : Value} {xs : List Value} (h : Reads w size v n xs) (hg : w.grownBy w' row) (hlt : ∀ k, v.ownBlock = some k → k < w.heap.size) (hne : ∀ k, v.ownBlock = some k → row ≠ some k) : Reads w' size v n xs :=
  h.frame (fun k hk => hg.block k (hlt k hk) (fun e => hne k hk e.symm))
end Go.Proofs.YtbgpniepgbmkaaaDoor
