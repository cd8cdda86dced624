/- What the document's queues (parcloseref07) do on New and Push. Condition of each: they lie in memory (IsQ). -/
import Derived.Test.YtkiogbenbicghaaRef07
import Derived.Test.YtkiogbenbicghaaOrd
import Derived.Test.YtkiogbenbicghaaObj
import Derived.Deep.RegionHeld3
import Derived.Deep.OwnRows
import Derived.Laws.OwnMore
namespace Go.Proofs.Ytkiogbenbicghaa
open Go.RowKit BigFrame

theorem Try.info_ints : (Try.prog.info? 37).map (fun i => (i.zero, i.size, i.bytes)) = some (some (.slice none 0 0), 1, 24) := by kernel_rfl
theorem isQ_new (w : World) (m n : Nat) (hm : m ≤ 32) (hn : n ≤ 32) :
    IsQ (((w.alloc (.cells (madeCells #[.slice none 0 0] m) 37)).alloc (.cells #[.slice (some ⟨w.heap.size, 0, none⟩) m m, .int .i64 n] 35))) w.heap.size (w.heap.size + 1) w.heap.size (List.replicate m []) n := by
  have e : (w.alloc (.cells (madeCells #[Value.slice none 0 0] m) 37)).heap.size = w.heap.size + 1 := by simp
  refine ⟨?_, ⟨madeCells #[.slice none 0 0] m, (Below.heap_alloc _ _ _ (by omega)).trans (heap_alloc_new w _), by simp [size_madeCells], fun i l hl => ?_⟩, by omega, by omega, Nat.le_refl _, by simpa using hm, hn⟩
  · rw [List.length_replicate]
    have := heap_alloc_new (w.alloc (.cells (madeCells #[.slice none 0 0] m) 37)) (.cells #[.slice (some ⟨w.heap.size, 0, none⟩) m m, .int .i64 n] 35)
    rw [e] at this
    exact this
  · rw [List.getElem?_replicate] at hl
    split at hl
    · rename_i him
      injection hl with hl
      subst hl
      refine ⟨.slice none 0 0, by rw [← Array.getElem?_toList, toList_madeCells_one, List.getElem?_replicate, if_pos him], Reads.nil _ _, (fun k hk => by cases hk), .inl rfl⟩
    · cases hl
set_option maxRecDepth 100000 in
set_option maxHeartbeats 8000000 in
theorem rnew7_calls (x y : Int) (w : World) :
    Calls Try.prog 14 #[.int .i64 x, .int .i64 y] w fun e w' => ∃ g b, e = .returned (.pointer (some ⟨g, 0, none⟩)) ∧ IsQ w' w.heap.size g b (List.replicate (heldN x) []) (heldN y) ∧ Below w.heap.size w w' := by
  have h1 := fun u : World => rheld_calls x u
  have h2 := fun u : World => rheld_calls y u
  have hm32 := heldN_le x
  have hn32 := heldN_le y
  generalize heldN x = m at h1 hm32 ⊢
  generalize heldN y = n at h2 hn32 ⊢
  have H1 := Lib.hid h1
  have H2 := Lib.hid h2
  clear h1 h2
  have hmk := fun u : World => run_make_row' (P := Try.prog) 33 37 (.slice none 0 0) 24 Try.underlying33 Try.info_ints rfl .i64 .i64 m (by omega) (by omega) u
  go_enter Try.func14, Try.ntmps14
  go_wp2_with fail
  go_region_held3 (fun w' => True) (first | go_keep | trivial) (first | (go_at_call 51; refine (H1.out _).mono ?_; rintro e w8 ⟨rfl, rfl⟩) | (go_at_call 51; refine (H2.out _).mono ?_; rintro e w8 ⟨rfl, rfl⟩))
  all_goals
    go_wp2_with fail
    go_ret
    have hd : ∀ (B : Nat) (u : World), Below B u u.drew := fun B u => ⟨rfl, rfl, rfl, Nat.le_refl _, fun _ _ => rfl⟩
    exact ⟨w.heap.size + 1, w.heap.size, rfl, (isQ_new w m n hm32 hn32).below (hd _ _), (((Below.refl _ w).alloc (Nat.le_refl _) _).alloc (by simp) _).trans (hd _ _)⟩
section
variable {P : Program} {w : World} {ops : Array Oper} {o : Oper} {a : Act} {K : Act → World → Prop} {Q : Exit → Act → World → Prop} {E : Prop}
theorem name_world {W' : World} (h : ∀ W, W = W' → K a W) : K a W' := h _ rfl
/-- An append of all of a slice that may be nil. -/
theorem step_append_from (hgd : o.guard = none) (s x : Operand) (t : TypeId)
    (ho : o.op = .call { callee := .builtin .append, args := #[s, x], argTypes := #[t, t] })
    (base : Nat) (e : TypeId) (i : TypeInfo) (z : Value) (size bytes : Nat) (ht : P.underlying t = some (.slice e)) (hi : P.info? e = some i) (hz : i.zero = some z)
    (hsize : i.size = size) (hby : i.bytes = bytes) (hzs : z.cells.size = size) (hsz : 0 < size)
    (v : Value) (n : Nat) (xs : List Value) (hs : a.eval s = v) (hown : w.ownsRow base e size v n xs)
    (u : Value) (m : Nat) (news : List Value) (hx : a.eval x = u) (hu : Reads w size u m news) (hu2 : u = .slice none 0 0 ∨ ∃ bl o n c, u = .slice (some ⟨bl, o, none⟩) n c) (h1 : ∀ u ∈ news, u.oneCell' = true)
    (h63 : n + m ≤ maxLen) (hbytes : (n + m) * bytes ≤ 140737488355328) (hbase : base ≤ w.heap.size)
    (h : ∀ v' w', w'.ownsRow base e size v' (n + m) (xs ++ news) → w.grownBy w' v.ownBlock → (v'.ownBlock = v.ownBlock ∨ v'.ownBlock = some w.heap.size) → K (a.put o.dst v') w') :
    if Region.wanted o (yielded ops a.tmps) = true then Oper.wp P o a w K Q else E := by
  obtain ⟨hl, a', c, rfl, h2, h3, h4⟩ := hu
  rcases hu2 with hu2 | ⟨bl, of, n', c', hu2⟩
  · injection hu2 with e1 e2 e3
    subst e1 e2 e3
    have hnil : news = [] := List.eq_nil_of_length_eq_zero (by simpa using hl)
    subst hnil
    rw [if_pos (by simp [Region.wanted, hgd])]
    have hrun := run_append_owned_none (P := P) (w := w) base t o.type e i size ht hi v n xs hown
    unfold Oper.wp
    simp [execOp, ho, resolve, invoke, builtin, hs, hx, hrun, Result.andThen]
    exact h v w (by simpa using hown) ⟨rfl, rfl, rfl, Nat.le_refl _, fun _ _ _ => rfl⟩ (.inl rfl)
  · injection hu2 with e1 e2 e3
    subst e1 e2 e3
    refine step_append_at hgd s x t ho base e i z size bytes ht hi hz hsize hby hzs hsz v n xs hs hown ⟨bl, of, none⟩ m c news hx hl ?_ h1 h63 hbytes hbase h
    intro j y hj
    have hm : 0 < m := by
      have := (List.getElem?_eq_some_iff.1 hj).1
      rw [hl] at this
      exact Nat.pos_of_mul_pos_right (Nat.lt_of_le_of_lt (Nat.zero_le _) this)
    obtain ⟨b2, o2, e4, h5⟩ := h4 hm
    injection e4 with e4
    injection e4 with e4 e5
    subst e4 e5
    rw [← h5 j y hj]
    unfold Addr.add
    split
    · rename_i h0; subst h0; rfl
    · rfl
end
theorem one_reads (w : World) (x : Int) (t : TypeId) : Reads (w.alloc (.cells #[.int .i64 x] t)) 1 (.slice (some ⟨w.heap.size, 0, none⟩) 1 1) 1 (ints [x]) := by
  refine ⟨rfl, _, _, rfl, Nat.le_refl _, by unfold maxLen; omega, fun _ => ⟨_, _, rfl, fun j u hj => ?_⟩⟩
  rw [Nat.zero_add, blk_cell (heap_alloc_new w _)]
  simpa [ints] using hj
theorem Reads.grown {w w' : World} {row : Option Nat} {size n : Nat} {v : Value} {xs : List Value} (h : Reads w size v n xs) (hg : w.grownBy w' row) (hlt : ∀ k, v.ownBlock = some k → k < w.heap.size) (hne : ∀ k, v.ownBlock = some k → row ≠ some k) : Reads w' size v n xs :=
  h.frame (fun k hk => hg.block k (hlt k hk) (fun e => hne k hk e.symm))
theorem whereL_some {L : List (List Nat)} {x : Nat} (h : hasL L x = true) : 0 ≤ whereL L x := by
  unfold whereL
  rw [if_neg (by omega)]
  cases hf : L.findIdx? (fun l => l.contains (x : Int).toNat) with
  | some i => exact Int.natCast_nonneg _
  | none =>
    exfalso
    rw [List.findIdx?_eq_none_iff] at hf
    obtain ⟨i, l, hl, hx⟩ := hasL_iff.1 h
    have := hf l (List.mem_of_getElem? hl)
    simp at this
    exact this hx
/-- The slice is a row of the call's own: at rest as one of the lists. -/
theorem RowV.of_owns {w : World} {n0 g b B : Nat} {v : Value} {l : List Nat} {e : TypeId} (h : w.ownsRow B e 1 v l.length (ints (asInts l))) (h0 : n0 ≤ B) (hg : g < B) (hb : b < B) : RowV w n0 g b v l := by
  refine ⟨Reads.of_owns h, fun k hk => ?_, ?_⟩
  · obtain ⟨h1, h2⟩ := h.lt k hk
    exact ⟨by omega, by omega, by omega, h2⟩
  · rcases h.2 with ⟨rfl, _⟩ | ⟨g', cap, cur, rfl, _⟩
    · exact .inl rfl
    · exact .inr ⟨_, _, _, _, rfl⟩

set_option maxRecDepth 100000 in
set_option maxHeartbeats 8000000 in
theorem rpush7_calls {w : World} {n0 g b N : Nat} {L : List (List Nat)} (h : IsQ w n0 g b L N) (hn0 : n0 ≤ w.heap.size) (hlen : ∀ (i : Nat) (l : List Nat), L[i]? = some l → l.length ≤ 32) (n x : Int) :
    Calls Try.prog 20 #[.pointer (some ⟨g, 0, none⟩), .int .i64 n, .int .i64 x] w fun e w' => e = .returned (.bool (pushL L N n x).1) ∧ IsQ w' n0 g b (pushL L N n x).2 N ∧ Ext w w' (fun k => k = b) := by
  have H := Lib.hid h
  have c0 := h.c0
  have c1 := h.c1
  have hsm := h.small
  have hit := h.items
  have hbr := Lib.hid (Ext.refl w (fun k => k = b))
  have HW := Lib.hid (rwhere_calls h x)
  obtain ⟨nl, hnl⟩ : ∃ n, n = L.length := ⟨_, rfl⟩
  rw [← hnl] at c0 hsm
  have HN := Lib.hid hnl
  by_cases a1 : n < 0
  · have hv : pushL L N n x = (false, L) := by unfold pushL; rw [if_neg (by omega)]
    rw [hv]
    clear h hv hnl
    go_enter Try.func20, Try.ntmps20
    go_wp2_with fail
    go_ret
    exact ⟨rfl, H.out, hbr.out⟩
  obtain ⟨i, rfl⟩ : ∃ i : Nat, n = i := ⟨n.toNat, by omega⟩
  have iz : (0 : Int) ≤ (i : Int) := Int.natCast_nonneg _
  by_cases a2 : nl ≤ i
  · have hv : pushL L N i x = (false, L) := by unfold pushL; rw [if_neg (by omega)]
    rw [hv]
    have a2' : (nl : Int) ≤ (i : Int) := by omega
    clear h hv hnl
    go_enter Try.func20, Try.ntmps20
    go_wp2_with fail
    go_ret
    exact ⟨rfl, H.out, hbr.out⟩
  have a2' : ¬ (nl : Int) ≤ (i : Int) := by omega
  by_cases a3 : x < 0
  · have hv : pushL L N i x = (false, L) := by unfold pushL; rw [if_neg (by omega)]
    rw [hv]
    clear h hv hnl
    go_enter Try.func20, Try.ntmps20
    go_wp2_with fail
    go_ret
    exact ⟨rfl, H.out, hbr.out⟩
  obtain ⟨y, rfl⟩ : ∃ y : Nat, x = y := ⟨x.toNat, by omega⟩
  have yz : (0 : Int) ≤ (y : Int) := Int.natCast_nonneg _
  by_cases a4 : N ≤ y
  · have hv : pushL L N i y = (false, L) := by unfold pushL; rw [if_neg (by omega)]
    rw [hv]
    have a4' : (N : Int) ≤ (y : Int) := by omega
    clear h hv hnl
    go_enter Try.func20, Try.ntmps20
    go_wp2_with fail
    go_ret
    exact ⟨rfl, H.out, hbr.out⟩
  have a4' : ¬ (N : Int) ≤ (y : Int) := by omega
  by_cases a5 : hasL L y = true
  · have hv : pushL L N i y = (false, L) := by unfold pushL; rw [if_neg (by simp [a5])]
    rw [hv]
    have HS := whereL_some a5
    obtain ⟨r, hr⟩ : ∃ r, r = whereL L (y : Int) := ⟨_, rfl⟩
    rw [← hr] at HW HS
    clear h hv hnl a5 hr
    go_enter Try.func20, Try.ntmps20
    go_wp2_with fail
    refine HW.out.mono ?_
    rintro e w1 ⟨rfl, rfl⟩
    go_wp2_with fail
    go_ret
    exact ⟨rfl, H.out, hbr.out⟩
  have a5' : hasL L y = false := by simpa using a5
  obtain ⟨l, hl⟩ : ∃ l, L[i]? = some l := ⟨_, List.getElem?_eq_getElem (by omega)⟩
  have hv : pushL L N i y = (true, L.set i (l ++ [y])) := by
    unfold pushL
    rw [if_pos ⟨by omega, by omega, by omega, by omega, by simpa using a5'⟩]
    simp [hl]
  rw [hv]
  have hwl := whereL_none a5'
  rw [hwl] at HW
  obtain ⟨al, cl, d0, hlc, hcm, hrv, _⟩ := h.list hl
  have hl32 := hlen i l hl
  have hglt := h.glt
  have hblt := h.blt
  obtain ⟨i0, hi, hz0, hz1, hz2⟩ := info_parts Try.info_int
  have HI := Lib.hid hi
  have HRV := Lib.hid hrv
  obtain ⟨nn, hnn⟩ : ∃ n, n = l.length := ⟨_, rfl⟩
  rw [← hnn] at d0 hlc hl32 HRV
  have HNN := Lib.hid hnn
  clear h hv hnl a5 a5' hl hwl hi hrv hnn hlen
  go_enter Try.func20, Try.ntmps20
  go_wp2_with fail
  refine HW.out.mono ?_
  rintro e w1 ⟨rfl, rfl⟩
  go_wp2_with fail
  refine wp_region_W 19 18 (fun w' : World => Below w.heap.size w w') (by kernel_rfl) (by kernel_rfl) ⟨rfl, rfl, rfl, Nat.le_refl _, fun _ _ => rfl⟩ (fun hT => ?_)
  refine wpAnyW_take (i := 0) (some 36) rfl rfl (by kernel_rfl) (by kernel_rfl) (by kernel_rfl) (by kernel_rfl) (fun _ _ _ h => h) (v := ?_) (.inl ⟨by rfl, ?_⟩) (.inr hT) ?_
  rotate_left
  · (intro wT _; go_simp <;> with_reducible rfl)
  simp only [Act.put, List.setIfInBounds_toArray, List.set_cons_zero, List.set_cons_succ]
  refine wpAnyW_take (i := 1) (some 37) rfl rfl (by kernel_rfl) (by kernel_rfl) (by kernel_rfl) (by kernel_rfl) (fun _ _ _ h => h) (v := ?_) (.inl ⟨by rfl, ?_⟩) (.inr hT) ?_
  rotate_left
  · (intro wT _; go_simp <;> with_reducible rfl)
  simp only [Act.put, List.setIfInBounds_toArray, List.set_cons_zero, List.set_cons_succ]
  refine wpAnyW_take (i := 2) (some 38) rfl rfl (by kernel_rfl) (by kernel_rfl) (by kernel_rfl) (by kernel_rfl) (fun _ _ _ h => h) (v := ?_) (.inl ⟨by rfl, ?_⟩) (.inr hT) ?_
  rotate_left
  · (intro wT _; go_simp <;> with_reducible rfl)
  simp only [Act.put, List.setIfInBounds_toArray, List.set_cons_zero, List.set_cons_succ]
  refine wpAnyW_load (i := 3) (some 39) rfl rfl (by kernel_rfl) (by kernel_rfl) (by kernel_rfl) (by kernel_rfl) (by kernel_rfl) (fun _ _ _ h => h) (v := ?_) (.inl ⟨by rfl, ?_⟩) hT ?_
  rotate_left
  · (intro wT hT; try dsimp only at hT); (have t0 : wT.cell? ⟨g, 0, none⟩ = some (.slice (some ⟨b, 0, none⟩) nl nl) := (hT.cell (p := ⟨g, 0, none⟩) hglt).trans c0); (have t1 : wT.cell? ⟨b, i, none⟩ = some (.slice al nn cl) := (hT.cell (p := ⟨b, i, none⟩) hblt).trans d0); clear hT; (go_simp <;> with_reducible rfl)
  simp only [Act.put, List.setIfInBounds_toArray, List.set_cons_zero, List.set_cons_succ]
  refine wpAnyW_take (i := 4) (some 40) rfl rfl (by kernel_rfl) (by kernel_rfl) (by kernel_rfl) (by kernel_rfl) (fun _ _ _ h => h) (v := ?_) (.inl ⟨by rfl, ?_⟩) (.inr hT) ?_
  rotate_left
  · (intro wT _; go_simp <;> with_reducible rfl)
  simp only [Act.put, List.setIfInBounds_toArray, List.set_cons_zero, List.set_cons_succ]
  refine wpAnyW_take (i := 6) (some 42) rfl rfl (by kernel_rfl) (by kernel_rfl) (by kernel_rfl) (by kernel_rfl) (fun _ _ _ h => h) (v := ?_) (.inl ⟨by rfl, ?_⟩) (.inr hT) ?_
  rotate_left
  · (intro wT _; go_simp <;> with_reducible rfl)
  simp only [Act.put, List.setIfInBounds_toArray, List.set_cons_zero, List.set_cons_succ]
  refine wpAnyW_take (i := 7) (some 43) rfl rfl (by kernel_rfl) (by kernel_rfl) (by kernel_rfl) (by kernel_rfl) (fun _ _ _ h => h) (v := ?_) (.inl ⟨by rfl, ?_⟩) (.inr hT) ?_
  rotate_left
  · (intro wT _; go_simp <;> with_reducible rfl)
  simp only [Act.put, List.setIfInBounds_toArray, List.set_cons_zero, List.set_cons_succ]
  refine wpAnyW_take (i := 8) (some 44) rfl rfl (by kernel_rfl) (by kernel_rfl) (by kernel_rfl) (by kernel_rfl) (fun _ _ _ h => h) (v := ?_) (.inl ⟨by rfl, ?_⟩) (.inr hT) ?_
  rotate_left
  · (intro wT _; go_simp <;> with_reducible rfl)
  simp only [Act.put, List.setIfInBounds_toArray, List.set_cons_zero, List.set_cons_succ]
  refine wpAnyW_load (i := 9) (some 45) rfl rfl (by kernel_rfl) (by kernel_rfl) (by kernel_rfl) (by kernel_rfl) (by kernel_rfl) (fun _ _ _ h => h) (v := ?_) (.inl ⟨by rfl, ?_⟩) hT ?_
  rotate_left
  · (intro wT hT; try dsimp only at hT); (have t0 : wT.cell? ⟨g, 0, none⟩ = some (.slice (some ⟨b, 0, none⟩) nl nl) := (hT.cell (p := ⟨g, 0, none⟩) hglt).trans c0); (have t1 : wT.cell? ⟨b, i, none⟩ = some (.slice al nn cl) := (hT.cell (p := ⟨b, i, none⟩) hblt).trans d0); clear hT; (go_simp <;> with_reducible rfl)
  simp only [Act.put, List.setIfInBounds_toArray, List.set_cons_zero, List.set_cons_succ]
  refine wpAnyW_take (i := 10) (some 46) rfl rfl (by kernel_rfl) (by kernel_rfl) (by kernel_rfl) (by kernel_rfl) (fun _ _ _ h => h) (v := ?_) (.inl ⟨by rfl, ?_⟩) (.inr hT) ?_
  rotate_left
  · (intro wT _; go_simp <;> with_reducible rfl)
  simp only [Act.put, List.setIfInBounds_toArray, List.set_cons_zero, List.set_cons_succ]
  refine wpAnyW_take (i := 11) (some 47) rfl rfl (by kernel_rfl) (by kernel_rfl) (by kernel_rfl) (by kernel_rfl) (fun _ _ _ h => h) (v := ?_) (.inl ⟨by rfl, ?_⟩) (.inr hT) ?_
  rotate_left
  · (intro wT _; go_simp <;> with_reducible rfl)
  simp only [Act.put, List.setIfInBounds_toArray, List.set_cons_zero, List.set_cons_succ]
  refine wpAnyW_load (i := 12) (some 48) rfl rfl (by kernel_rfl) (by kernel_rfl) (by kernel_rfl) (by kernel_rfl) (by kernel_rfl) (fun _ _ _ h => h) (v := ?_) (.inl ⟨by rfl, ?_⟩) hT ?_
  rotate_left
  · (intro wT hT; try dsimp only at hT); (have t0 : wT.cell? ⟨g, 0, none⟩ = some (.slice (some ⟨b, 0, none⟩) nl nl) := (hT.cell (p := ⟨g, 0, none⟩) hglt).trans c0); (have t1 : wT.cell? ⟨b, i, none⟩ = some (.slice al nn cl) := (hT.cell (p := ⟨b, i, none⟩) hblt).trans d0); clear hT; (go_simp <;> with_reducible rfl)
  simp only [Act.put, List.setIfInBounds_toArray, List.set_cons_zero, List.set_cons_succ]
  refine wpAnyW_take (i := 14) (some 50) rfl rfl (by kernel_rfl) (by kernel_rfl) (by kernel_rfl) (by kernel_rfl) (fun _ _ _ h => h) (v := ?_) (.inl ⟨by rfl, ?_⟩) (.inr hT) ?_
  rotate_left
  · (intro wT _; go_simp <;> with_reducible rfl)
  simp only [Act.put, List.setIfInBounds_toArray, List.set_cons_zero, List.set_cons_succ]
  refine wpAnyW_two (i := 5) (j := 15) (by kernel_rfl) rfl rfl (fun K hK => ?_) (fun K hK => ?_)
  · go_simp
    refine name_world (fun W5 hW5 => ?_)
    have hb5 : Below w.heap.size w W5 := by rw [hW5]; exact (⟨rfl, rfl, rfl, Nat.le_refl _, fun _ _ => rfl⟩ : Below w.heap.size w w.drew).alloc (Nat.le_refl _) _
    have own5 : W5.ownsRow w.heap.size 3 1 (.slice (some ⟨w.heap.size, 0, none⟩) 0 0) 0 [] := by rw [hW5]; exact owns_empty _ _ _ (Nat.le_refl _)
    have lt5 : w.heap.size < W5.heap.size := by rw [hW5]; simp
    clear hW5
    refine step_owe hK ?_ (fun hT => ?_)
    · first | exact hb5 | exact hb13 | exact hb15 | exact hb16
    clear hK K
    refine wpAnyW_two (i := 13) (j := 15) (by kernel_rfl) rfl rfl (fun K hK => ?_) (fun K hK => ?_)
    · refine step_append_from (by rfl) (.tmp 41) (.tmp 48) 37 (by rfl) w.heap.size 3 i0 (.int .i64 0) 1 8 Try.underlying37 HI.out hz0 hz1 hz2 rfl (by omega) (.slice (some ⟨w.heap.size, 0, none⟩) 0 0) 0 [] (by rfl) own5 (.slice al nn cl) nn (ints (asInts l)) (by rfl) (HNN.out ▸ HRV.out.1.frame (fun k hk => hb5.block k (HRV.out.2.1 k hk).2.2.2)) HRV.out.2.2 (ints_one _) (by unfold maxLen; omega) (by omega) hb5.size ?_
      intro v13 W13 own13 grow13 at13
      simp only [Nat.zero_add, List.nil_append] at own13
      have hb13 : Below w.heap.size w W13 := hb5.grown grow13 hb5.size (fun k hk => by simp only [Value.ownBlock, Option.some.injEq] at hk; subst hk; exact Nat.le_refl _)
      refine step_owe hK ?_ (fun hT => ?_)
      · first | exact hb5 | exact hb13 | exact hb15 | exact hb16
      clear hK K
      refine wpAnyW_one (i := 15) (by kernel_rfl) rfl (fun K hK => ?_)
      go_simp
      refine name_world (fun W15 hW15 => ?_)
      have hb15 : Below w.heap.size w W15 := by rw [hW15]; exact hb13.alloc hb13.size _
      have news15 : Reads W15 1 (.slice (some ⟨W13.heap.size, 0, none⟩) 1 1) 1 (ints [(y : Int)]) := by rw [hW15]; exact one_reads _ _ _
      have new15 : ∀ k, (Value.slice (some ⟨W13.heap.size, 0, none⟩) 1 1).ownBlock = some k → k < W15.heap.size ∧ k = W13.heap.size := fun k hk => by simp only [Value.ownBlock, Option.some.injEq] at hk; subst hk; exact ⟨by rw [hW15]; simp, rfl⟩
      have own15 := own13.alloc (.cells #[.int .i64 (y : Int)] 3)
      rw [← hW15] at own15
      have apart15 : v13.ownBlock ≠ some W13.heap.size := fun e => by have := (own13.lt _ e).2; omega
      clear hW15
      refine step_owe hK ?_ (fun hT => ?_)
      · first | exact hb5 | exact hb13 | exact hb15 | exact hb16
      clear hK K
      refine wpAnyW_one (i := 16) (by kernel_rfl) rfl (fun K hK => ?_)
      refine step_append_from (by rfl) (.tmp 49) (.tmp 51) 37 (by rfl) w.heap.size 3 i0 (.int .i64 0) 1 8 Try.underlying37 HI.out hz0 hz1 hz2 rfl (by omega) v13 nn (ints (asInts l)) (by rfl) own15 (.slice (some ⟨W13.heap.size, 0, none⟩) 1 1) 1 (ints [(y : Int)]) (by rfl) news15 (.inr ⟨_, _, _, _, rfl⟩) (ints_one _) (by unfold maxLen; omega) (by omega) hb15.size ?_
      intro v16 W16 own16 grow16 at16
      have hb16 : Below w.heap.size w W16 := hb15.grown grow16 hb15.size (fun k hk => (own13.lt k hk).1)
      obtain ⟨a16, c16, rfl, _, _, _⟩ := owns_shape own16
      have HQ16 := Lib.hid (H.out.below hb16)
      have z16 := HQ16.out.free i
      have m16 : W16.cell? ⟨b, i, none⟩ = some (.slice al nn cl) := (hb16.cell (p := ⟨b, i, none⟩) hblt).trans d0
      refine step_owe hK ?_ (fun hT => ?_)
      · first | exact hb5 | exact hb13 | exact hb15 | exact hb16
      clear hK K
      refine wpAnyW_take (i := 17) (some 53) rfl rfl (by kernel_rfl) (by kernel_rfl) (by kernel_rfl) (by kernel_rfl) (fun _ _ _ h => h) (v := ?_) (.inl ⟨by rfl, ?_⟩) (.inr hT) ?_
      rotate_left
      · (intro wT _; go_simp <;> with_reducible rfl)
      simp only [Act.put, List.setIfInBounds_toArray, List.set_cons_zero, List.set_cons_succ]
      refine wpAnyW_one (i := 18) (by kernel_rfl) rfl (fun K hK => ?_)
      go_simp
      refine step_paid hK (by kernel_rfl) ?_
      clear hK K
      refine wpAnyW_done (by kernel_rfl) ?_
      go_wp2_with fail
      go_ret
      have hrow : RowV W16 n0 g b (.slice a16 (nn + 1) c16) (l ++ [y]) := by
        refine RowV.of_owns (B := w.heap.size) (e := 3) ?_ hn0 hglt hblt
        rw [show ints (asInts (l ++ [y])) = ints (asInts l) ++ ints [(y : Int)] by simp [ints, asInts], List.length_append, ← HNN.out]
        exact own16
      exact ⟨rfl, HQ16.out.set i hrow, Ext.setCell (F := fun k => k = b) (Ext.of_below hb16) (p := ⟨b, i, none⟩) (fun _ => rfl) _⟩
    · go_simp
      refine name_world (fun W15 hW15 => ?_)
      have hb15 : Below w.heap.size w W15 := by rw [hW15]; exact hb5.alloc hb5.size _
      have news15 : Reads W15 1 (.slice (some ⟨W5.heap.size, 0, none⟩) 1 1) 1 (ints [(y : Int)]) := by rw [hW15]; exact one_reads _ _ _
      have new15 : ∀ k, (Value.slice (some ⟨W5.heap.size, 0, none⟩) 1 1).ownBlock = some k → k < W15.heap.size ∧ k = W5.heap.size := fun k hk => by simp only [Value.ownBlock, Option.some.injEq] at hk; subst hk; exact ⟨by rw [hW15]; simp, rfl⟩
      have own15 := own5.alloc (.cells #[.int .i64 (y : Int)] 3)
      rw [← hW15] at own15
      clear hW15
      refine step_owe hK ?_ (fun hT => ?_)
      · first | exact hb5 | exact hb13 | exact hb15 | exact hb16
      clear hK K
      refine wpAnyW_one (i := 13) (by kernel_rfl) rfl (fun K hK => ?_)
      refine step_append_from (by rfl) (.tmp 41) (.tmp 48) 37 (by rfl) w.heap.size 3 i0 (.int .i64 0) 1 8 Try.underlying37 HI.out hz0 hz1 hz2 rfl (by omega) (.slice (some ⟨w.heap.size, 0, none⟩) 0 0) 0 [] (by rfl) own15 (.slice al nn cl) nn (ints (asInts l)) (by rfl) (HNN.out ▸ HRV.out.1.frame (fun k hk => hb15.block k (HRV.out.2.1 k hk).2.2.2)) HRV.out.2.2 (ints_one _) (by unfold maxLen; omega) (by omega) hb15.size ?_
      intro v13 W13 own13 grow13 at13
      simp only [Nat.zero_add, List.nil_append] at own13
      have hb13 : Below w.heap.size w W13 := hb15.grown grow13 hb15.size (fun k hk => by simp only [Value.ownBlock, Option.some.injEq] at hk; subst hk; exact Nat.le_refl _)
      have news13 := news15.grown grow13 (fun k hk => (new15 k hk).1) (fun k hk e => by simp only [Value.ownBlock, Option.some.injEq] at e; have := (new15 k hk).2; have := lt5; omega)
      have apart13 : v13.ownBlock ≠ some W5.heap.size := by
        intro e
        rcases at13 with h | h
        · rw [h] at e; simp only [Value.ownBlock, Option.some.injEq] at e; have := lt5; omega
        · rw [h] at e; injection e with e; have := (new15 W5.heap.size rfl).1; omega
      refine step_owe hK ?_ (fun hT => ?_)
      · first | exact hb5 | exact hb13 | exact hb15 | exact hb16
      clear hK K
      refine wpAnyW_one (i := 16) (by kernel_rfl) rfl (fun K hK => ?_)
      refine step_append_from (by rfl) (.tmp 49) (.tmp 51) 37 (by rfl) w.heap.size 3 i0 (.int .i64 0) 1 8 Try.underlying37 HI.out hz0 hz1 hz2 rfl (by omega) v13 nn (ints (asInts l)) (by rfl) own13 (.slice (some ⟨W5.heap.size, 0, none⟩) 1 1) 1 (ints [(y : Int)]) (by rfl) news13 (.inr ⟨_, _, _, _, rfl⟩) (ints_one _) (by unfold maxLen; omega) (by omega) hb13.size ?_
      intro v16 W16 own16 grow16 at16
      have hb16 : Below w.heap.size w W16 := hb13.grown grow16 hb13.size (fun k hk => (own13.lt k hk).1)
      obtain ⟨a16, c16, rfl, _, _, _⟩ := owns_shape own16
      have HQ16 := Lib.hid (H.out.below hb16)
      have z16 := HQ16.out.free i
      have m16 : W16.cell? ⟨b, i, none⟩ = some (.slice al nn cl) := (hb16.cell (p := ⟨b, i, none⟩) hblt).trans d0
      refine step_owe hK ?_ (fun hT => ?_)
      · first | exact hb5 | exact hb13 | exact hb15 | exact hb16
      clear hK K
      refine wpAnyW_take (i := 17) (some 53) rfl rfl (by kernel_rfl) (by kernel_rfl) (by kernel_rfl) (by kernel_rfl) (fun _ _ _ h => h) (v := ?_) (.inl ⟨by rfl, ?_⟩) (.inr hT) ?_
      rotate_left
      · (intro wT _; go_simp <;> with_reducible rfl)
      simp only [Act.put, List.setIfInBounds_toArray, List.set_cons_zero, List.set_cons_succ]
      refine wpAnyW_one (i := 18) (by kernel_rfl) rfl (fun K hK => ?_)
      go_simp
      refine step_paid hK (by kernel_rfl) ?_
      clear hK K
      refine wpAnyW_done (by kernel_rfl) ?_
      go_wp2_with fail
      go_ret
      have hrow : RowV W16 n0 g b (.slice a16 (nn + 1) c16) (l ++ [y]) := by
        refine RowV.of_owns (B := w.heap.size) (e := 3) ?_ hn0 hglt hblt
        rw [show ints (asInts (l ++ [y])) = ints (asInts l) ++ ints [(y : Int)] by simp [ints, asInts], List.length_append, ← HNN.out]
        exact own16
      exact ⟨rfl, HQ16.out.set i hrow, Ext.setCell (F := fun k => k = b) (Ext.of_below hb16) (p := ⟨b, i, none⟩) (fun _ => rfl) _⟩
  · go_simp
    refine name_world (fun W15 hW15 => ?_)
    have hb15 : Below w.heap.size w W15 := by rw [hW15]; exact (⟨rfl, rfl, rfl, Nat.le_refl _, fun _ _ => rfl⟩ : Below w.heap.size w w.drew).alloc (Nat.le_refl _) _
    have news15 : Reads W15 1 (.slice (some ⟨w.heap.size, 0, none⟩) 1 1) 1 (ints [(y : Int)]) := by rw [hW15]; exact one_reads _ _ _
    have new15 : ∀ k, (Value.slice (some ⟨w.heap.size, 0, none⟩) 1 1).ownBlock = some k → k < W15.heap.size ∧ k = w.heap.size := fun k hk => by simp only [Value.ownBlock, Option.some.injEq] at hk; subst hk; exact ⟨by rw [hW15]; simp, rfl⟩
    clear hW15
    refine step_owe hK ?_ (fun hT => ?_)
    · first | exact hb5 | exact hb13 | exact hb15 | exact hb16
    clear hK K
    refine wpAnyW_one (i := 5) (by kernel_rfl) rfl (fun K hK => ?_)
    go_simp
    refine name_world (fun W5 hW5 => ?_)
    have hb5 : Below w.heap.size w W5 := by rw [hW5]; exact hb15.alloc hb15.size _
    have own5 : W5.ownsRow w.heap.size 3 1 (.slice (some ⟨W15.heap.size, 0, none⟩) 0 0) 0 [] := by rw [hW5]; exact owns_empty _ _ _ hb15.size
    have news5 := (news15.frame (w' := W5) (fun k hk => by rw [hW5]; exact Below.heap_alloc _ _ _ (new15 k hk).1))
    have new5 : ∀ k, (Value.slice (some ⟨w.heap.size, 0, none⟩) 1 1).ownBlock = some k → k < W5.heap.size ∧ k ≠ W15.heap.size := fun k hk => ⟨Nat.lt_of_lt_of_le (new15 k hk).1 (by rw [hW5]; simp), fun e => by have := (new15 k hk).1; omega⟩
    have blk5 : W15.heap.size < W5.heap.size := by rw [hW5]; simp
    clear hW5
    refine step_owe hK ?_ (fun hT => ?_)
    · first | exact hb5 | exact hb13 | exact hb15 | exact hb16
    clear hK K
    refine wpAnyW_one (i := 13) (by kernel_rfl) rfl (fun K hK => ?_)
    refine step_append_from (by rfl) (.tmp 41) (.tmp 48) 37 (by rfl) w.heap.size 3 i0 (.int .i64 0) 1 8 Try.underlying37 HI.out hz0 hz1 hz2 rfl (by omega) (.slice (some ⟨W15.heap.size, 0, none⟩) 0 0) 0 [] (by rfl) own5 (.slice al nn cl) nn (ints (asInts l)) (by rfl) (HNN.out ▸ HRV.out.1.frame (fun k hk => hb5.block k (HRV.out.2.1 k hk).2.2.2)) HRV.out.2.2 (ints_one _) (by unfold maxLen; omega) (by omega) hb5.size ?_
    intro v13 W13 own13 grow13 at13
    simp only [Nat.zero_add, List.nil_append] at own13
    have hb13 : Below w.heap.size w W13 := hb5.grown grow13 hb5.size (fun k hk => by simp only [Value.ownBlock, Option.some.injEq] at hk; subst hk; exact hb15.size)
    have news13 := news5.grown grow13 (fun k hk => (new5 k hk).1) (fun k hk e => by simp only [Value.ownBlock, Option.some.injEq] at e; have := (new5 k hk).2; omega)
    have apart13 : v13.ownBlock ≠ some w.heap.size := by
      intro e
      rcases at13 with h | h
      · rw [h] at e; simp only [Value.ownBlock, Option.some.injEq] at e; have := (new15 w.heap.size rfl).1; omega
      · rw [h] at e; injection e with e; have := (new15 w.heap.size rfl).1; have := (new5 w.heap.size rfl).1; omega
    refine step_owe hK ?_ (fun hT => ?_)
    · first | exact hb5 | exact hb13 | exact hb15 | exact hb16
    clear hK K
    refine wpAnyW_one (i := 16) (by kernel_rfl) rfl (fun K hK => ?_)
    refine step_append_from (by rfl) (.tmp 49) (.tmp 51) 37 (by rfl) w.heap.size 3 i0 (.int .i64 0) 1 8 Try.underlying37 HI.out hz0 hz1 hz2 rfl (by omega) v13 nn (ints (asInts l)) (by rfl) own13 (.slice (some ⟨w.heap.size, 0, none⟩) 1 1) 1 (ints [(y : Int)]) (by rfl) news13 (.inr ⟨_, _, _, _, rfl⟩) (ints_one _) (by unfold maxLen; omega) (by omega) hb13.size ?_
    intro v16 W16 own16 grow16 at16
    have hb16 : Below w.heap.size w W16 := hb13.grown grow16 hb13.size (fun k hk => (own13.lt k hk).1)
    obtain ⟨a16, c16, rfl, _, _, _⟩ := owns_shape own16
    have HQ16 := Lib.hid (H.out.below hb16)
    have z16 := HQ16.out.free i
    have m16 : W16.cell? ⟨b, i, none⟩ = some (.slice al nn cl) := (hb16.cell (p := ⟨b, i, none⟩) hblt).trans d0
    refine step_owe hK ?_ (fun hT => ?_)
    · first | exact hb5 | exact hb13 | exact hb15 | exact hb16
    clear hK K
    refine wpAnyW_take (i := 17) (some 53) rfl rfl (by kernel_rfl) (by kernel_rfl) (by kernel_rfl) (by kernel_rfl) (fun _ _ _ h => h) (v := ?_) (.inl ⟨by rfl, ?_⟩) (.inr hT) ?_
    rotate_left
    · (intro wT _; go_simp <;> with_reducible rfl)
    simp only [Act.put, List.setIfInBounds_toArray, List.set_cons_zero, List.set_cons_succ]
    refine wpAnyW_one (i := 18) (by kernel_rfl) rfl (fun K hK => ?_)
    go_simp
    refine step_paid hK (by kernel_rfl) ?_
    clear hK K
    refine wpAnyW_done (by kernel_rfl) ?_
    go_wp2_with fail
    go_ret
    have hrow : RowV W16 n0 g b (.slice a16 (nn + 1) c16) (l ++ [y]) := by
      refine RowV.of_owns (B := w.heap.size) (e := 3) ?_ hn0 hglt hblt
      rw [show ints (asInts (l ++ [y])) = ints (asInts l) ++ ints [(y : Int)] by simp [ints, asInts], List.length_append, ← HNN.out]
      exact own16
    exact ⟨rfl, HQ16.out.set i hrow, Ext.setCell (F := fun k => k = b) (Ext.of_below hb16) (p := ⟨b, i, none⟩) (fun _ => rfl) _⟩
end Go.Proofs.Ytkiogbenbicghaa
