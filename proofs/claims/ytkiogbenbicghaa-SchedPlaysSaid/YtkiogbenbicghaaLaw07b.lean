/- The walk of the statement FifoMiddle: it returns true. Conditions: the numbers are bytes. -/
import Derived.Test.YtkiogbenbicghaaFifoAll2
import Derived.Test.YtkiogbenbicghaaInts
namespace Go.Proofs.Ytkiogbenbicghaa
open Go.RowKit BigFrame

/-- Queues, and a row of whole numbers beside them. -/
structure FR (w wr : World) (g bq bn : Nat) (L : List (List Nat)) (N : Nat) (v : Value) (xs : List Int) : Prop where
  f : IsF wr g bq bn L N
  r : wr.ownsRow w.heap.size 3 1 v xs.length (ints xs)
  b : Below w.heap.size w wr
  hq : w.heap.size ≤ bq
  hn : w.heap.size ≤ bn
section
variable {w wr w2 : World} {g bq bn N : Nat} {L L' : List (List Nat)} {v : Value} {xs : List Int}
theorem IsF.apart (h : IsF wr g bq bn L N) (hr : wr.ownsRow w.heap.size 3 1 v xs.length (ints xs)) : ∀ k, v.ownBlock = some k → k ≠ g ∧ k ≠ bq ∧ k ≠ bn := by
  intro k hk
  obtain ⟨qs, ns, h1, _⟩ := h
  obtain ⟨cs, fr, hc⟩ := owns_type hr hk
  exact ⟨types_apart hc h1.gb (by decide), types_apart hc h1.qb (by decide), types_apart hc h1.nb (by decide)⟩
theorem FR.act (h : FR w wr g bq bn L N v xs) (hf : IsF w2 g bq bn L' N) (hx : Ext wr w2 (FqF bq bn)) : FR w w2 g bq bn L' N v xs := by
  refine ⟨hf, owns_same h.r (fun k hk => hx.block k (h.r.lt k hk).2 ?_), ext_below h.b hx h.hq h.hn h.b.size, h.hq, h.hn⟩
  have := h.f.apart h.r k hk
  rintro (rfl | rfl)
  · exact this.2.1 rfl
  · exact this.2.2 rfl
theorem FR.plus (h : FR w wr g bq bn L N v xs) (hb : Below wr.heap.size wr w2) : FR w w2 g bq bn L N v xs := by
  refine ⟨h.f.frame (fun k hk => hb.block k ?_), owns_same h.r (fun k hk => hb.block k (h.r.lt k hk).2), h.b.trans (hb.mono h.b.size), h.hq, h.hn⟩
  have := h.f.lt
  omega
theorem FR.push (h : FR w wr g bq bn L N v xs) {o : Obj} {v' : Value} {x : Int} (hown : w2.ownsRow w.heap.size 3 1 v' (xs.length + 1) (ints xs ++ [.int .i64 x])) (hgr : (wr.alloc o).grownBy w2 v.ownBlock) : FR w w2 g bq bn L N v' (xs ++ [x]) := by
  have hlt := h.f.lt
  have hap := h.f.apart h.r
  refine ⟨h.f.frame (fun k hk => ?_), ?_, ((h.b.alloc h.b.size o).grown hgr (by have := h.b.size; simp; omega) (fun k hk => (h.r.lt k hk).1)), h.hq, h.hn⟩
  · have hk2 : k < wr.heap.size := by omega
    rw [hgr.block k (by simp; omega) (fun e => ?_), Below.heap_alloc _ _ _ hk2]
    have := hap k e.symm
    rcases hk with rfl | rfl | rfl
    · exact this.1 rfl
    · exact this.2.1 rfl
    · exact this.2.2 rfl
  · rw [ints_snoc]
    simpa using hown
theorem FR.reads (h : FR w wr g bq bn L N v xs) : Reads wr 1 v xs.length (ints xs) := Reads.of_owns h.r
end

theorem owns_empty (w : World) (B : Nat) (E : TypeId) (hB : B ≤ w.heap.size) : (w.alloc (.cells #[] E)).ownsRow B E 1 (.slice (some ⟨w.heap.size, 0, none⟩) 0 0) 0 [] :=
  ⟨rfl, .inr ⟨w.heap.size, 0, #[], rfl, hB, heap_alloc_new w _, Nat.le_refl _, Nat.zero_le _, rfl, rfl⟩⟩

theorem below_draws (B : Nat) (w : World) (n : Nat) : Below B w (w.drewN n) := ⟨rfl, rfl, rfl, Nat.le_refl _, fun _ _ => rfl⟩
theorem range_push (i : Nat) (hi : i < 32) : pushL [List.range i] 32 0 i = (true, [List.range (i + 1)]) := by
  unfold pushL
  rw [if_pos ⟨by omega, by simp, by omega, by omega, by simp [hasL]⟩]
  simp [List.range_succ]
theorem range_remove {k x : Nat} (hx : x < k) : removeL [List.range k] x = (true, [(List.range k).erase x]) := by
  unfold removeL
  rw [if_pos ⟨by omega, by simp [hasL, hx]⟩]
  simp
theorem range_removed (k x : Nat) : removeL [(List.range k).erase x] x = (false, [(List.range k).erase x]) := by
  unfold removeL
  rw [if_neg]
  rintro ⟨_, h⟩
  obtain ⟨i, l, hl, hx⟩ := hasL_iff.1 h
  match i, hl with
  | 0, hl =>
    simp at hl
    subst hl
    exact (List.Nodup.not_mem_erase List.nodup_range) hx
  | i + 1, hl => simp at hl
theorem range_again (k x : Nat) (hx : x < 32) : pushL [(List.range k).erase x] 32 0 x = (true, [(List.range k).erase x ++ [x]]) := by
  have hh : hasL [(List.range k).erase x] (x : Int).toNat = false := by
    cases h : hasL [(List.range k).erase x] (x : Int).toNat with
    | false => rfl
    | true =>
      obtain ⟨i, l, hl, hx⟩ := hasL_iff.1 h
      match i, hl with
      | 0, hl =>
        simp at hl
        subst hl
        exact absurd hx (List.Nodup.not_mem_erase List.nodup_range)
      | i + 1, hl => simp at hl
  unfold pushL
  rw [if_pos ⟨by omega, by simp, by omega, by omega, hh⟩]
  first | rfl | simp
theorem allL_one (l : List Nat) : allL [l] 0 = l := by simp [allL]
def skipL (k x : Nat) : List Int := asInts ((List.range k).filter (fun i => decide (i ≠ x)))
theorem asInts_erase (k x : Nat) : asInts ((List.range k).erase x) = skipL k x := by
  unfold skipL
  rw [List.Nodup.erase_eq_filter List.nodup_range]
  congr 1
  apply List.filter_congr
  intro y _
  by_cases h : y = x <;> simp [h]
theorem filter_hit (i x : Nat) (h : i ≠ x) : skipL (i + 1) x = skipL i x ++ [(i : Int)] := by
  unfold skipL
  rw [List.range_succ, List.filter_append]
  simp [asInts, h]
theorem filter_miss (x : Nat) : skipL (x + 1) x = skipL x x := by
  unfold skipL
  rw [List.range_succ, List.filter_append]
  simp [asInts]
theorem filter_len (i x : Nat) : (skipL i x).length ≤ i := by
  unfold skipL asInts
  rw [List.length_map]
  exact Nat.le_trans (List.length_filter_le _ _) (by simp)

/-- append under a guard that holds. -/
theorem wpList_append_wanted {P : Program} {ops : Array Oper} {rest : List Oper} {o : Oper} {a : Act} {w : World} {Q : Exit → Act → World → Prop} (s x : Operand) (t : TypeId)
    (ho : o.op = .call { callee := .builtin .append, args := #[s, x], argTypes := #[t, t] }) (hw : Region.wanted o (yielded ops a.tmps) = true)
    (base : Nat) (e : TypeId) (i : TypeInfo) (z : Value) (size bytes : Nat) (ht : P.underlying t = some (.slice e)) (hi : P.info? e = some i) (hz : i.zero = some z)
    (hsize : i.size = size) (hby : i.bytes = bytes) (hzs : z.cells.size = size) (hsz : 0 < size)
    (v : Value) (n : Nat) (xs : List Value) (hs : a.eval s = v) (hown : w.ownsRow base e size v n xs)
    (ad : Addr) (m c : Nat) (news : List Value) (hx : a.eval x = .slice (some ad) m c) (hl : news.length = m * size) (hnews : ∀ j u, news[j]? = some u → w.cell? (ad.add j) = some u) (h1 : ∀ u ∈ news, u.oneCell' = true)
    (h63 : n + m ≤ maxLen) (hbytes : (n + m) * bytes ≤ 140737488355328) (hbase : base ≤ w.heap.size)
    (h : ∀ v' w', w'.ownsRow base e size v' (n + m) (xs ++ news) → w.grownBy w' v.ownBlock → wpList P ops Q rest (a.put o.dst v') w') : wpList P ops Q (o :: rest) a w :=
  wpList_step fun _ hK => by
    rw [if_pos hw]
    exact wp_append_own w s x t ho base e i z size bytes ht hi hz hsize hby hzs hsz v n xs hs hown ad m c news hx hl hnews h1 h63 hbytes hbase (fun v' w' h2 h3 _ => hK _ _ (h v' w' h2 h3))

set_option maxRecDepth 100000 in
set_option maxHeartbeats 8000000 in
theorem fifoMiddle_walk (w : World) (n : Int) (n0 : 0 ≤ n) (n1 : n ≤ 255) (at_ : Int) (a0 : 0 ≤ at_) (a1 : at_ ≤ 255) :
    Calls Try.prog 6 #[.int .u8 n, .int .u8 at_] w fun e w' => e = .returned (.bool true) ∧ Below w.heap.size w w' := by
  obtain ⟨k, hk⟩ : ∃ k : Nat, (k : Int) = 1 + n % 32 := ⟨(1 + n % 32).toNat, by omega⟩
  obtain ⟨x, hx⟩ : ∃ x : Nat, (x : Int) = at_ % (k : Int) := ⟨(at_ % (k : Int)).toNat, by have := Int.emod_nonneg at_ (show (k : Int) ≠ 0 by omega); omega⟩
  have hk1 : 1 ≤ k ∧ k ≤ 32 := by omega
  have hxk : x < k := by have := Int.emod_lt_of_pos at_ (show (0 : Int) < k by omega); omega
  have hk2 : 1 + n % 32 = (k : Int) := hk.symm
  have hx2 : at_ % (k : Int) = (x : Int) := hx.symm
  have hkpos : (0 : Int) < (k : Int) := by omega
  obtain ⟨i0, hi, hz0, hz1, hz2⟩ := info_parts Try.info_int
  have HI := Lib.hid hi
  clear hi hk hx
  go_enter Try.func6, Try.ntmps6
  go_wp2_with fail
  refine (new_calls 1 32 _).mono ?_
  rintro e w1 ⟨g, bq, bn, rfl, h1, hg, hq, hn, hb1⟩
  have h1' : IsF w1 g bq bn [List.range 0] 32 := h1
  have H1 := Lib.hid h1'
  have HB1 := Lib.hid hb1
  clear h1 h1' hb1
  go_wp2_with fail
  go_loopw [7] (fun v wr => ∃ i : Nat, v = .int .i64 i ∧ i ≤ k ∧ IsF wr g bq bn [List.range i] 32 ∧ Below w.heap.size w wr) (fun v _ => k - (intOf v).toNat)
  case atStart => exact ⟨0, rfl, Nat.zero_le _, H1.out, HB1.out⟩
  case round =>
    obtain ⟨i, rfl, hik, hf, hb⟩ := hrel
    have i0' : (0 : Int) ≤ (i : Int) := Int.natCast_nonneg _
    by_cases hlt : i < k
    · have hlt1 : (i : Int) < (k : Int) := by omega
      have hp := push_calls hf 0 i
      rw [range_push i (by omega)] at hp
      have HBB := Lib.hid hb
      clear hf hb
      go_wp2_with fail
      refine hp.mono ?_
      rintro e w2 ⟨rfl, hf2, hx2'⟩
      have HF2 := Lib.hid hf2
      have HX2 := Lib.hid hx2'
      clear hf2 hx2'
      go_wp2_with fail
      go_roundw
      case rel => exact ⟨i + 1, by go_num, by omega, HF2.out, ext_below HBB.out HX2.out hq hn HBB.out.size⟩
      case measure => simp [intOf]; omega
    · obtain rfl : i = k := by omega
      have hr1 := remove_calls hf x
      rw [range_remove hxk] at hr1
      have HBB := Lib.hid hb
      clear hf hb
      go_wp2_with fail
      refine hr1.mono ?_
      rintro e w2 ⟨rfl, hf2, hx3⟩
      have hr2 := remove_calls hf2 x
      rw [range_removed] at hr2
      have HB2 := Lib.hid (ext_below HBB.out hx3 hq hn HBB.out.size)
      clear hr1 hf2 hx3
      go_wp2_with fail
      refine hr2.mono ?_
      rintro e w3 ⟨rfl, hf3, hx4⟩
      have HB3 := Lib.hid (ext_below HB2.out hx4 hq hn HB2.out.size)
      have HF3 := Lib.hid hf3
      clear hr2 hf3 hx4
      go_wp2_with fail
      have hR0 : FR w (w3.alloc (.cells #[] 3)) g bq bn [(List.range i).erase x] 32 (.slice (some ⟨w3.heap.size, 0, none⟩) 0 0) [] :=
        ⟨HF3.out.frame (fun k hk => Below.heap_alloc _ _ _ (by have := HF3.out.lt; omega)), owns_empty w3 _ _ HB3.out.size, HB3.out.alloc HB3.out.size _, hq, hn⟩
      have HR0 := Lib.hid hR0
      clear hR0
      go_loopw [11, 12] (fun v u wr => ∃ j : Nat, u = .int .i64 j ∧ j ≤ i ∧ FR w wr g bq bn [(List.range i).erase x] 32 v (skipL j x)) (fun _ u _ => i - (intOf u).toNat)
      case atStart => exact ⟨0, rfl, Nat.zero_le _, HR0.out⟩
      case round =>
        obtain ⟨j, rfl, hji, hR⟩ := hrel
        have j0 : (0 : Int) ≤ (j : Int) := Int.natCast_nonneg _
        have hfl := filter_len j x
        by_cases hlt2 : j < i
        · have hlt3 : (j : Int) < (i : Int) := by omega
          by_cases hjx : j = x
          · have hb : ((j : Int) != (x : Int)) = false := by simp [hjx]
            have HJ := Lib.hid hjx
            have HR := Lib.hid hR
            clear hjx hR
            go_wp2_with fail
            go_roundw
            case rel => exact ⟨j + 1, by go_num, by omega, by have h := HR.out; rw [HJ.out] at h ⊢; rw [filter_miss]; exact h⟩
            case measure => simp [intOf]; omega
          · have hb : ((j : Int) != (x : Int)) = true := by rw [bne_iff_ne]; omega
            have HJ := Lib.hid hjx
            have HR := Lib.hid hR
            have hown := hR.r
            have hbs := hR.b.size
            clear hjx hR
            go_wp2_with (at_builtin; refine wpList_append_own _ rfl _ _ 37 rfl w.heap.size 3 i0 (.int .i64 0) 1 8 Try.underlying37 HI.out hz0 hz1 hz2 rfl (by decide) _ _ _ rfl (hown.alloc _) ⟨wr.heap.size, 0, none⟩ 1 1 [.int .i64 j] rfl rfl ?c1 ?c2 ?c3 ?c4 ?c5 ?_)
            case c1 => exact news_one wr _ _
            case c2 => exact news_int _
            case c3 => unfold maxLen; omega
            case c4 => omega
            case c5 => simp; omega
            intro v' w4 hown' hgr _
            go_wp2_with fail
            go_roundw
            case rel => exact ⟨j + 1, by go_num, by omega, by rw [filter_hit j x HJ.out]; exact HR.out.push hown' hgr⟩
            case measure => simp [intOf]; omega
        · obtain rfl : j = i := by omega
          have hal := all_calls hR.f 0
          rw [allL_one] at hal
          have HR := Lib.hid hR
          have HLR := Lib.hid (asInts_erase j x)
          clear hR
          go_wp2_with fail
          refine hal.mono ?_
          rintro e w4 ⟨vv, rfl, hrd, hvb, hb4⟩
          have hR4 := HR.out.plus hb4
          go_wp2_with fail
          have hcmp := ints_calls (hrd) hR4.reads
          rw [decide_eq_true HLR.out] at hcmp
          have HR4 := Lib.hid hR4
          clear hrd hvb hb4 hal hR4
          refine hcmp.mono ?_
          rintro e w5 ⟨rfl, nq, rfl⟩
          have HR5 := Lib.hid (HR4.out.plus (below_draws _ _ nq))
          go_wp2_with fail
          refine (awake7_calls _).mono ?_
          rintro e w6 ⟨rfl, hb6⟩
          have hR6 := HR5.out.plus hb6
          have hp := push_calls hR6.f 0 x
          rw [range_again j x (by omega)] at hp
          have HR6 := Lib.hid hR6
          clear hR6 hb6
          go_wp2_with fail
          refine hp.mono ?_
          rintro e w7 ⟨rfl, hf7, hx7⟩
          have hR7 := HR6.out.act hf7 hx7
          have hal := all_calls hR7.f 0
          rw [allL_one] at hal
          have HR7 := Lib.hid hR7
          clear hp hf7 hx7 hR7
          go_wp2_with fail
          refine hal.mono ?_
          rintro e w8 ⟨v2, rfl, hrd, hvb, hb8⟩
          have hR8 := HR7.out.plus hb8
          have hown := hR8.r
          have hbs := hR8.b.size
          have HR8 := Lib.hid hR8
          have HV := Lib.hid hvb
          have HRD := Lib.hid hrd
          have HS8 := Lib.hid hb8.size
          clear hal hb8 hR8 hvb hrd
          go_wp2_with (refine wpList_append_wanted (.tmp 71) (.tmp 73) 37 rfl (by rfl) w.heap.size 3 i0 (.int .i64 0) 1 8 Try.underlying37 HI.out hz0 hz1 hz2 rfl (by decide) _ _ _ rfl (hown.alloc _) ⟨w8.heap.size, 0, none⟩ 1 1 [.int .i64 x] rfl rfl ?c1 ?c2 ?c3 ?c4 ?c5 ?_)
          case c1 => exact news_one w8 _ _
          case c2 => exact news_int _
          case c3 => unfold maxLen; omega
          case c4 => omega
          case c5 => simp; omega
          intro v' w9 hown9 hgr9
          have hR9 := HR8.out.push hown9 hgr9
          have hrd9 : Reads w9 1 v2 ((List.range j).erase x ++ [x]).length (ints (asInts ((List.range j).erase x ++ [x]))) := by
            refine HRD.out.frame (fun q hq => ?_)
            have q1 := HV.out q hq
            have q2 := HRD.out.lt (by simp) (by omega) q hq
            rw [hgr9.block q (by simp; omega) (fun e => ?_), Below.heap_alloc _ _ _ q2]
            have := (HR7.out.r.lt q e.symm).2
            omega
          have hcmp := ints_calls hrd9 hR9.reads
          rw [decide_eq_true (show asInts ((List.range j).erase x ++ [x]) = skipL j x ++ [(x : Int)] by
            rw [← HLR.out]
            simp [asInts])] at hcmp
          have HB9 := Lib.hid hR9.b
          clear hrd9 hR9 hown9 hgr9
          go_wp2_with fail
          refine hcmp.mono ?_
          rintro e w10 ⟨rfl, nq2, rfl⟩
          go_wp2_with fail
          go_ret
          exact ⟨rfl, HB9.out.trans (below_draws _ _ nq2)⟩
end Go.Proofs.Ytkiogbenbicghaa
