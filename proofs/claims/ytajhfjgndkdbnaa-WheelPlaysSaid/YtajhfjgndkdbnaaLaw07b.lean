/- The walk of the statement FifoMiddle: it returns true. Conditions: the numbers are bytes. -/
import Derived.Test.YtajhfjgndkdbnaaFifoAll2
import Derived.Test.YtajhfjgndkdbnaaInts
namespace Go.Proofs.Ytajhfjgndkdbnaa
open Go.RowKit BigFrame

/-- Queues, and a row of whole numbers beside them. -/
structure FR (w wr : World) (g bq bn : Nat) (L : List (List Nat)) (N : Nat) (v : Value) (xs : List Int) : Prop where
  f : IsF wr g bq bn L N
  r : wr.ownsRow w.heap.size 3 1 v xs.length (ints xs)
  b : Below w.heap.size w wr
  hq : w.heap.size ≤ bq
  hn : w.heap.size ≤ bn
section
variable {w wr w2 : World} {g bq bn N : Nat} {L L' : List (List Nat)} {v : Value} {xs : List Int}
theorem IsF.apart (h : IsF wr g bq bn L N) (hr : wr.ownsRow w.heap.size 3 1 v xs.length (ints xs)) : ∀ k, v.ownBlock = some k → k ≠ g ∧ k ≠ bq ∧ k ≠ bn := by
  intro k hk
  obtain ⟨qs, ns, h1, _⟩ := h
  obtain ⟨cs, fr, hc⟩ := owns_type hr hk
  exact ⟨types_apart hc h1.gb (by decide), types_apart hc h1.qb (by decide), types_apart hc h1.nb (by decide)⟩
theorem FR.act (h : FR w wr g bq bn L N v xs) (hf : IsF w2 g bq bn L' N) (hx : Ext wr w2 (FqF bq bn)) : FR w w2 g bq bn L' N v xs := by
  refine ⟨hf, owns_same h.r (fun k hk => hx.block k (h.r.lt k hk).2 ?_), ext_below h.b hx h.hq h.hn h.b.size, h.hq, h.hn⟩
  have := h.f.apart h.r k hk
  rintro (rfl | rfl)
  · exact this.2.1 rfl
  · exact this.2.2 rfl
theorem FR.plus (h : FR w wr g bq bn L N v xs) (hb : Below wr.heap.size wr w2) : FR w w2 g bq bn L N v xs := by
  refine ⟨h.f.frame (fun k hk => hb.block k ?_), owns_same h.r (fun k hk => hb.block k (h.r.lt k hk).2), h.b.trans (hb.mono h.b.size), h.hq, h.hn⟩
  have := h.f.lt
  omega
theorem FR.push (h : FR w wr g bq bn L N v xs) {o : Obj} {v' : Value} {x : Int} (hown : w2.ownsRow w.heap.size 3 1 v' (xs.length + 1) (ints xs ++ [.int .i64 x])) (hgr : (wr.alloc o).grownBy w2 v.ownBlock) : FR w w2 g bq bn L N v' (xs ++ [x]) := by
  have hlt := h.f.lt
  have hap := h.f.apart h.r
  refine ⟨h.f.frame (fun k hk => ?_), ?_, ((h.b.alloc h.b.size o).grown hgr (by have := h.b.size; simp; omega) (fun k hk => (h.r.lt k hk).1)), h.hq, h.hn⟩
  · have hk2 : k < wr.heap.size := by omega
    rw [hgr.block k (by simp; omega) (fun e => ?_), Below.heap_alloc _ _ _ hk2]
    have := hap k e.symm
    rcases hk with rfl | rfl | rfl
    · exact this.1 rfl
    · exact this.2.1 rfl
    · exact this.2.2 rfl
  · rw [ints_snoc]
    simpa using hown
theorem FR.reads (h : FR w wr g bq bn L N v xs) : Reads wr 1 v xs.length (ints xs) := Reads.of_owns h.r
end

theorem owns_empty (w : World) (B : Nat) (E : TypeId) (hB : B ≤ w.heap.size) : (w.alloc (.cells #[] E)).ownsRow B E 1 (.slice (some ⟨w.heap.size, 0, none⟩) 0 0) 0 [] :=
  ⟨rfl, .inr ⟨w.heap.size, 0, #[], rfl, hB, heap_alloc_new w _, Nat.le_refl _, Nat.zero_le _, rfl, rfl⟩⟩

theorem below_draws (B : Nat) (w : World) (n : Nat) : Below B w (w.drewN n) := ⟨rfl, rfl, rfl, Nat.le_refl _, fun _ _ => rfl⟩
theorem range_push (i : Nat) (hi : i < 32) : pushL [List.range i] 32 0 i = (true, [List.range (i + 1)]) := by
  unfold pushL
  rw [if_pos ⟨by omega, by simp, by omega, by omega, by simp [hasL]⟩]
  simp [List.range_succ]
theorem range_remove {k x : Nat} (hx : x < k) : removeL [List.range k] x = (true, [(List.range k).erase x]) := by
  unfold removeL
  rw [if_pos ⟨by omega, by simp [hasL, hx]⟩]
  simp
theorem range_removed (k x : Nat) : removeL [(List.range k).erase x] x = (false, [(List.range k).erase x]) := by
  unfold removeL
  rw [if_neg]
  rintro ⟨_, h⟩
  obtain ⟨i, l, hl, hx⟩ := hasL_iff.1 h
  match i, hl with
  | 0, hl =>
    simp at hl
    subst hl
    exact (List.Nodup.not_mem_erase List.nodup_range) hx
  | i + 1, hl => simp at hl
theorem range_again (k x : Nat) (hx : x < 32) : pushL [(List.range k).erase x] 32 0 x = (true, [(List.range k).erase x ++ [x]]) := by
  have hh : hasL [(List.range k).erase x] (x : Int).toNat = false := by
    cases h : hasL [(List.range k).erase x] (x : Int).toNat with
    | false => rfl
    | true =>
      obtain ⟨i, l, hl, hx⟩ := hasL_iff.1 h
      match i, hl with
      | 0, hl =>
        simp at hl
        subst hl
        exact absurd hx (List.Nodup.not_mem_erase List.nodup_range)
      | i + 1, hl => simp at hl
  unfold pushL
  rw [if_pos ⟨by omega, by simp, by omega, by omega, hh⟩]
  first | rfl | simp
theorem allL_one (l : List Nat) : allL [l] 0 = l := by simp [allL]
def skipL (k x : Nat) : List Int := asInts ((List.range k).filter (fun i => decide (i ≠ x)))
theorem asInts_erase (k x : Nat) : asInts ((List.range k).erase x) = skipL k x := by
  unfold skipL
  rw [List.Nodup.erase_eq_filter List.nodup_range]
  congr 1
  apply List.filter_congr
  intro y _
  by_cases h : y = x <;> simp [h]
theorem filter_hit (i x : Nat) (h : i ≠ x) : skipL (i + 1) x = skipL i x ++ [(i : Int)] := by
  unfold skipL
  rw [List.range_succ, List.filter_append]
  simp [asInts, h]
theorem filter_miss (x : Nat) : skipL (x + 1) x = skipL x x := by
  unfold skipL
  rw [List.range_succ, List.filter_append]
  simp [asInts]
theorem filter_len (i x : Nat) : (skipL i x).length ≤ i := by
  unfold skipL asInts
  rw [List.length_map]
  exact Nat.le_trans (List.length_filter_le _ _) (by simp)

/-- append under a guard that holds. -/
theorem wpList_append_wanted {P : Program} {ops : Array Oper} {rest : List Oper} {o : Oper} {a : Act} {w : World} {Q : Exit → Act → World → Prop} (s x : Operand) (t : TypeId)
    (ho : o.op = .call { callee := .builtin .append, args := #[s, x], argTypes := #[t, t] }) (hw : Region.wanted o (yielded ops a.tmps) = true)
    (base : Nat) (e : TypeId) (i : TypeInfo) (z : Value) (size bytes : Nat) (ht : P.underlying t = some (.slice e)) (hi : P.info? e = some i) (hz : i.zero = some z)
    (hsize : i.size = size) (hby : i.bytes = bytes) (hzs : z.cells.size = size) (hsz : 0 < size)
    (v : Value) (n : Nat) (xs : List Value) (hs : a.eval s = v) (hown : w.ownsRow base e size v n xs)
    (ad : Addr) (m c : Nat) (news : List Value) (hx : a.eval x = .slice (some ad) m c) (hl : news.length = m * size) (hnews : ∀ j u, news[j]? = some u → w.cell? (ad.add j) = some u) (h1 : ∀ u ∈ news, u.oneCell' = true)
    (h63 : n + m ≤ maxLen) (hbytes : (n + m) * bytes ≤ 140737488355328) (hbase : base ≤ w.heap.size)
    (h : ∀ v' w', w'.ownsRow base e size v' (n + m) (xs ++ news) → w.grownBy w' v.ownBlock → wpList P ops Q rest (a.put o.dst v') w') : wpList P ops Q (o :: rest) a w :=
  wpList_step fun _ hK => by
    rw [if_pos hw]
    exact wp_append_own w s x t ho base e i z size bytes ht hi hz hsize hby hzs hsz v n xs hs hown ad m c news hx hl hnews h1 h63 hbytes hbase (fun v' w' h2 h3 _ => hK _ _ (h v' w' h2 h3))

end Go.Proofs.Ytajhfjgndkdbnaa
