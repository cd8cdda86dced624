/- What fifo's Remove does. Condition: the queues lie in memory (IsFq), the numbers in them are in range. -/
import Derived.Test.YtajhfjgndkdbnaaFifo3
namespace Go.Proofs.Ytajhfjgndkdbnaa
open Go.RowKit BigFrame

theorem fremove_no {w : World} {g bq bn : Nat} {qs ns : List T3} (h : IsFq w g bq bn qs ns) (x : Int) (hno : whereF ns x = -1) :
    Calls Try.prog 23 #[.pointer (some ⟨g, 0, none⟩), .int .i64 x] w fun e w' => e = .returned (.bool false) ∧ w = w' := by
  have hw := fwhere_calls h x
  rw [hno] at hw
  clear h hno
  go_enter Try.func23, Try.ntmps23
  go_wp2_with fail
  refine hw.mono ?_
  rintro e w' ⟨rfl, rfl⟩
  go_wp2_with fail
  go_ret
  exact ⟨rfl, rfl⟩
theorem IsFq.setQ1 {w : World} {g bq bn : Nat} {qs ns : List T3} (h : IsFq w g bq bn qs ns) {i : Nat} {t : T3} (ht : qs[i]? = some t) (v : Int) : IsFq (w.setCell ⟨bq, i * 3, none⟩ (.int .i64 v)) g bq bn (qs.set i (v, t.2.1, t.2.2)) ns := h.setQ ht (j := 0) (by omega) v
theorem set_get {α : Type} {l : List α} {i : Nat} {x : α} (h : l[i]? = some x) (y : α) : (l.set i y)[i]? = some y := by
  have := (List.getElem?_eq_some_iff.1 h).1
  simp [this]
theorem set_other {α : Type} {l : List α} {i j : Nat} {x y : α} (h : l[j]? = some x) (hne : i ≠ j) : (l.set i y)[j]? = some x := by
  rw [List.getElem?_set_ne hne]; exact h

set_option maxRecDepth 100000 in
set_option maxHeartbeats 4000000 in
theorem fremove_first_last {w : World} {g bq bn : Nat} {qs ns : List T3} (h : IsFq w g bq bn qs ns) (x i : Nat) (f l s : Int) (hx : ns[x]? = some ((i : Int), (-1), (-1))) (hi : qs[i]? = some (f, l, s)) (hs0 : 0 < s) (hs1 : s < 1000) :
    Calls Try.prog 23 #[.pointer (some ⟨g, 0, none⟩), .int .i64 x] w fun e w' => e = .returned (.bool true) ∧ IsFq w' g bq bn (qs.set i ((-1), (-1), s - 1)) (ns.set x (-1, -1, -1)) ∧ Ext w w' (FqF bq bn) := by
  have hil : i < qs.length := (List.getElem?_eq_some_iff.1 hi).1
  have hxl : x < ns.length := (List.getElem?_eq_some_iff.1 hx).1
  have hWh := fwhere_calls h x
  rw [show whereF ns x = (i : Int) by unfold whereF; rw [if_neg (by omega)]; simp [hx]] at hWh
  obtain ⟨ap1, ap2, ap3⟩ := h.apart
  have ap4 := Ne.symm ap1
  have ap5 := Ne.symm ap2
  have ap6 := Ne.symm ap3
  have hlt := h.lt
  have c0 := h.g0
  have c1 := h.g1
  have n0 := h.n0 hx
  have n1 := h.n1 hx
  have n2 := h.n2 hx
  simp only at n0 n1 n2
  have hql := h.ql
  have hnl := h.nl
  have HI := Lib.hid hi
  have HX := Lib.hid hx
  have HH := Lib.hid h
  obtain ⟨lq, hlq⟩ : ∃ l, l = qs.length := ⟨_, rfl⟩
  obtain ⟨ln, hln⟩ : ∃ l, l = ns.length := ⟨_, rfl⟩
  rw [← hlq] at c0 hil hql
  rw [← hln] at c1 hxl hnl
  have HLQ := Lib.hid hlq
  have HLN := Lib.hid hln
  clear hi hx h hlq hln
  have i0 : (0 : Int) ≤ (i : Int) := Int.natCast_nonneg _
  have i1 : (i : Int) < (lq : Int) := by omega
  have x0 : (0 : Int) ≤ (x : Int) := Int.natCast_nonneg _
  have x1 : (x : Int) < (ln : Int) := by omega
  have hne0 : ((i : Int) == -1) = false := by simp
  go_enter Try.func23, Try.ntmps23
  go_wp2_with fail
  refine hWh.mono ?_
  rintro e w' ⟨rfl, rfl⟩
  clear hWh
  go_wp2_with fail
  go_region
  obtain ⟨W, hW⟩ : ∃ W, W = (w.alloc (.cells #[.int .i64 i, .int .i64 (-1), .int .i64 (-1)] 65)).drew := ⟨_, rfl⟩
  rw [← hW]
  have hI : IsFq W g bq bn qs ns := by rw [hW]; exact (HH.out.alloc _).drew
  have hX : Ext w W (FqF bq bn) := by rw [hW]; exact ((Ext.refl w _).alloc _).drew
  have hB : W.heap[w.heap.size]? = some (.cells #[.int .i64 i, .int .i64 (-1), .int .i64 (-1)] 65 (0, 0)) := by rw [hW]; exact heap_alloc_new w _
  have hbb : bq ≠ w.heap.size ∧ bn ≠ w.heap.size ∧ g ≠ w.heap.size := by omega
  obtain ⟨bb, hbb1⟩ : ∃ bb, bb = w.heap.size := ⟨_, rfl⟩
  rw [← hbb1] at hB hbb ⊢
  have HBB := Lib.hid hbb1
  obtain ⟨ap7, ap8, ap9⟩ := hbb
  have ap10 := Ne.symm ap7
  have ap11 := Ne.symm ap8
  clear hW c0 c1 n0 n1 n2 hlt hbb1
  have c0 := hI.g0
  have c1 := hI.g1
  try simp only [List.length_set] at c0
  try simp only [List.length_set] at c1
  rw [← HLQ.out] at c0
  rw [← HLN.out] at c1
  have HQ := Lib.hid (HI.out)
  have HXX := Lib.hid (HX.out)
  have d0 := hI.q0 HQ.out
  have d1 := hI.q1 HQ.out
  have d2 := hI.q2 HQ.out
  simp only at d0 d1 d2
  have y0 := hI.qf (i * 3)
  have y1 := hI.qf (i * 3 + 1)
  have y2 := hI.qf (i * 3 + 2)
  have n0 := hI.n0 HXX.out
  have n1 := hI.n1 HXX.out
  have n2 := hI.n2 HXX.out
  simp only at n0 n1 n2
  have z0 := hI.nf (x * 3)
  have z1 := hI.nf (x * 3 + 1)
  have z2 := hI.nf (x * 3 + 2)
  have e0 : W.cell? ⟨bb, 0, none⟩ = some (.int .i64 i) := blk_cell hB 0
  have e1 : W.cell? ⟨bb, 1, none⟩ = some (.int .i64 (-1)) := blk_cell hB 1
  have e2 : W.cell? ⟨bb, 2, none⟩ = some (.int .i64 (-1)) := blk_cell hB 2
  have HFQ := Lib.hid hI
  have HFX := Lib.hid hX
  have HFB := Lib.hid hB
  clear hI hX hB
  go_wp2_with fail
  go_ret
  have f1 := HFQ.out.setQ1 HQ.out (-1)
  have f2 := (f1).setQ (set_get (HQ.out) _) (j := 1) (by omega) (-1)
  have f3 := f2.setN3 HXX.out (-1) (-1) (-1)
  have f4 := (f3).setQ (set_get (set_get (HQ.out) _) _) (j := 2) (by omega) (s - 1)
  exact ⟨rfl, by simpa [upd] using f4, ((((((HFX.out.q _ _).q _ _).n _ _).n _ _).n _ _).q _ _)⟩

set_option maxRecDepth 100000 in
set_option maxHeartbeats 4000000 in
theorem fremove_first_more {w : World} {g bq bn : Nat} {qs ns : List T3} (h : IsFq w g bq bn qs ns) (x i : Nat) (f l s : Int) (r : Nat) (tr : T3) (hr : ns[r]? = some tr) (hrx : r ≠ x) (hx : ns[x]? = some ((i : Int), (-1), (r : Int))) (hi : qs[i]? = some (f, l, s)) (hs0 : 0 < s) (hs1 : s < 1000) :
    Calls Try.prog 23 #[.pointer (some ⟨g, 0, none⟩), .int .i64 x] w fun e w' => e = .returned (.bool true) ∧ IsFq w' g bq bn (qs.set i ((r : Int), l, s - 1)) ((ns.set r (tr.1, (-1), tr.2.2)).set x (-1, -1, -1)) ∧ Ext w w' (FqF bq bn) := by
  have hil : i < qs.length := (List.getElem?_eq_some_iff.1 hi).1
  have hxl : x < ns.length := (List.getElem?_eq_some_iff.1 hx).1
  have hrl : r < ns.length := (List.getElem?_eq_some_iff.1 hr).1
  have hWh := fwhere_calls h x
  rw [show whereF ns x = (i : Int) by unfold whereF; rw [if_neg (by omega)]; simp [hx]] at hWh
  obtain ⟨ap1, ap2, ap3⟩ := h.apart
  have ap4 := Ne.symm ap1
  have ap5 := Ne.symm ap2
  have ap6 := Ne.symm ap3
  have hlt := h.lt
  have c0 := h.g0
  have c1 := h.g1
  have n0 := h.n0 hx
  have n1 := h.n1 hx
  have n2 := h.n2 hx
  simp only at n0 n1 n2
  have hql := h.ql
  have hnl := h.nl
  have HI := Lib.hid hi
  have HX := Lib.hid hx
  have HH := Lib.hid h
  have HR := Lib.hid hr
  have HRX := Lib.hid hrx
  obtain ⟨lq, hlq⟩ : ∃ l, l = qs.length := ⟨_, rfl⟩
  obtain ⟨ln, hln⟩ : ∃ l, l = ns.length := ⟨_, rfl⟩
  rw [← hlq] at c0 hil hql
  rw [← hln] at c1 hxl hnl hrl
  have HLQ := Lib.hid hlq
  have HLN := Lib.hid hln
  clear hi hx h hlq hln hr hrx
  have i0 : (0 : Int) ≤ (i : Int) := Int.natCast_nonneg _
  have i1 : (i : Int) < (lq : Int) := by omega
  have x0 : (0 : Int) ≤ (x : Int) := Int.natCast_nonneg _
  have x1 : (x : Int) < (ln : Int) := by omega
  have hne0 : ((i : Int) == -1) = false := by simp
  have r0 : (0 : Int) ≤ (r : Int) := Int.natCast_nonneg _
  have r1 : (r : Int) < (ln : Int) := by omega
  have hne2 : ((r : Int) == -1) = false := by simp
  go_enter Try.func23, Try.ntmps23
  go_wp2_with fail
  refine hWh.mono ?_
  rintro e w' ⟨rfl, rfl⟩
  clear hWh
  go_wp2_with fail
  go_region
  obtain ⟨W, hW⟩ : ∃ W, W = (w.alloc (.cells #[.int .i64 i, .int .i64 (-1), .int .i64 (r : Int)] 65)).drew := ⟨_, rfl⟩
  rw [← hW]
  have hI : IsFq W g bq bn qs ns := by rw [hW]; exact (HH.out.alloc _).drew
  have hX : Ext w W (FqF bq bn) := by rw [hW]; exact ((Ext.refl w _).alloc _).drew
  have hB : W.heap[w.heap.size]? = some (.cells #[.int .i64 i, .int .i64 (-1), .int .i64 (r : Int)] 65 (0, 0)) := by rw [hW]; exact heap_alloc_new w _
  have hbb : bq ≠ w.heap.size ∧ bn ≠ w.heap.size ∧ g ≠ w.heap.size := by omega
  obtain ⟨bb, hbb1⟩ : ∃ bb, bb = w.heap.size := ⟨_, rfl⟩
  rw [← hbb1] at hB hbb ⊢
  have HBB := Lib.hid hbb1
  obtain ⟨ap7, ap8, ap9⟩ := hbb
  have ap10 := Ne.symm ap7
  have ap11 := Ne.symm ap8
  clear hW c0 c1 n0 n1 n2 hlt hbb1
  have c0 := hI.g0
  have c1 := hI.g1
  try simp only [List.length_set] at c0
  try simp only [List.length_set] at c1
  rw [← HLQ.out] at c0
  rw [← HLN.out] at c1
  have HQ := Lib.hid (HI.out)
  have HXX := Lib.hid (HX.out)
  have d0 := hI.q0 HQ.out
  have d1 := hI.q1 HQ.out
  have d2 := hI.q2 HQ.out
  simp only at d0 d1 d2
  have y0 := hI.qf (i * 3)
  have y1 := hI.qf (i * 3 + 1)
  have y2 := hI.qf (i * 3 + 2)
  have n0 := hI.n0 HXX.out
  have n1 := hI.n1 HXX.out
  have n2 := hI.n2 HXX.out
  simp only at n0 n1 n2
  have z0 := hI.nf (x * 3)
  have z1 := hI.nf (x * 3 + 1)
  have z2 := hI.nf (x * 3 + 2)
  have e0 : W.cell? ⟨bb, 0, none⟩ = some (.int .i64 i) := blk_cell hB 0
  have e1 : W.cell? ⟨bb, 1, none⟩ = some (.int .i64 (-1)) := blk_cell hB 1
  have e2 : W.cell? ⟨bb, 2, none⟩ = some (.int .i64 (r : Int)) := blk_cell hB 2
  have HRR := Lib.hid (HR.out)
  have k1 := hI.n1 HRR.out
  have u1 := hI.nf (r * 3 + 1)
  have HFQ := Lib.hid hI
  have HFX := Lib.hid hX
  have HFB := Lib.hid hB
  clear hI hX hB
  go_wp2_with fail
  obtain ⟨U, hU⟩ : ∃ U, U = W.setCell ⟨bq, i * 3, none⟩ (.int .i64 (r : Int)) := ⟨_, rfl⟩
  rw [← hU]
  have hI : IsFq U g bq bn (qs.set i ((r : Int), l, s)) ns := by rw [hU]; exact HFQ.out.setQ1 HQ.out (r : Int)
  have hX : Ext w U (FqF bq bn) := by rw [hU]; exact HFX.out.q _ _
  have hB : U.heap[bb]? = some (.cells #[.int .i64 i, .int .i64 (-1), .int .i64 (r : Int)] 65 (0, 0)) := by rw [hU]; exact (Below.heap_setCell _ _ _ _ ap10).trans HFB.out
  clear hU c0 c1 d0 d1 d2 y0 y1 y2 n0 n1 n2 z0 z1 z2 e0 e1 e2 k1 u1
  have c0 := hI.g0
  have c1 := hI.g1
  try simp only [List.length_set] at c0
  try simp only [List.length_set] at c1
  rw [← HLQ.out] at c0
  rw [← HLN.out] at c1
  have HQ := Lib.hid (set_get HQ.out ((r : Int), l, s))
  have HXX := Lib.hid (HXX.out)
  have d0 := hI.q0 HQ.out
  have d1 := hI.q1 HQ.out
  have d2 := hI.q2 HQ.out
  simp only at d0 d1 d2
  have y0 := hI.qf (i * 3)
  have y1 := hI.qf (i * 3 + 1)
  have y2 := hI.qf (i * 3 + 2)
  have n0 := hI.n0 HXX.out
  have n1 := hI.n1 HXX.out
  have n2 := hI.n2 HXX.out
  simp only at n0 n1 n2
  have z0 := hI.nf (x * 3)
  have z1 := hI.nf (x * 3 + 1)
  have z2 := hI.nf (x * 3 + 2)
  have e0 : U.cell? ⟨bb, 0, none⟩ = some (.int .i64 i) := blk_cell hB 0
  have e1 : U.cell? ⟨bb, 1, none⟩ = some (.int .i64 (-1)) := blk_cell hB 1
  have e2 : U.cell? ⟨bb, 2, none⟩ = some (.int .i64 (r : Int)) := blk_cell hB 2
  have HRR := Lib.hid (HRR.out)
  have k1 := hI.n1 HRR.out
  have u1 := hI.nf (r * 3 + 1)
  have HFQ := Lib.hid hI
  have HFX := Lib.hid hX
  have HFB := Lib.hid hB
  clear hI hX hB
  go_region
  obtain ⟨T, hT⟩ : ∃ T, T = (U.setCell ⟨bn, r * 3 + 1, none⟩ (.int .i64 (-1))).drew := ⟨_, rfl⟩
  rw [← hT]
  have hI : IsFq T g bq bn (qs.set i ((r : Int), l, s)) (ns.set r (tr.1, (-1), tr.2.2)) := by rw [hT]; exact (HFQ.out.setN HRR.out (j := 1) (by omega) (-1)).drew
  have hX : Ext w T (FqF bq bn) := by rw [hT]; exact (HFX.out.n _ _).drew
  have hB : T.heap[bb]? = some (.cells #[.int .i64 i, .int .i64 (-1), .int .i64 (r : Int)] 65 (0, 0)) := by rw [hT]; exact (Below.heap_setCell _ _ _ _ ap11).trans HFB.out
  clear hT c0 c1 d0 d1 d2 y0 y1 y2 n0 n1 n2 z0 z1 z2 e0 e1 e2 k1 u1
  have c0 := hI.g0
  have c1 := hI.g1
  try simp only [List.length_set] at c0
  try simp only [List.length_set] at c1
  rw [← HLQ.out] at c0
  rw [← HLN.out] at c1
  have HQ := Lib.hid (HQ.out)
  have HXX := Lib.hid (set_other (y := (tr.1, (-1), tr.2.2)) HXX.out HRX.out)
  have d0 := hI.q0 HQ.out
  have d1 := hI.q1 HQ.out
  have d2 := hI.q2 HQ.out
  simp only at d0 d1 d2
  have y0 := hI.qf (i * 3)
  have y1 := hI.qf (i * 3 + 1)
  have y2 := hI.qf (i * 3 + 2)
  have n0 := hI.n0 HXX.out
  have n1 := hI.n1 HXX.out
  have n2 := hI.n2 HXX.out
  simp only at n0 n1 n2
  have z0 := hI.nf (x * 3)
  have z1 := hI.nf (x * 3 + 1)
  have z2 := hI.nf (x * 3 + 2)
  have e0 : T.cell? ⟨bb, 0, none⟩ = some (.int .i64 i) := blk_cell hB 0
  have e1 : T.cell? ⟨bb, 1, none⟩ = some (.int .i64 (-1)) := blk_cell hB 1
  have e2 : T.cell? ⟨bb, 2, none⟩ = some (.int .i64 (r : Int)) := blk_cell hB 2
  have HFQ := Lib.hid hI
  have HFX := Lib.hid hX
  have HFB := Lib.hid hB
  clear hI hX hB
  go_wp2_with fail
  go_ret
  have f1 := HFQ.out.setN3 HXX.out (-1) (-1) (-1)
  have f2 := (f1).setQ (HQ.out) (j := 2) (by omega) (s - 1)
  exact ⟨rfl, by simpa [upd] using f2, ((((HFX.out.n _ _).n _ _).n _ _).q _ _)⟩

set_option maxRecDepth 100000 in
set_option maxHeartbeats 4000000 in
theorem fremove_mid_last {w : World} {g bq bn : Nat} {qs ns : List T3} (h : IsFq w g bq bn qs ns) (x i : Nat) (f l s : Int) (p : Nat) (tp : T3) (hp : ns[p]? = some tp) (hpx : p ≠ x) (hx : ns[x]? = some ((i : Int), (p : Int), (-1))) (hi : qs[i]? = some (f, l, s)) (hs0 : 0 < s) (hs1 : s < 1000) :
    Calls Try.prog 23 #[.pointer (some ⟨g, 0, none⟩), .int .i64 x] w fun e w' => e = .returned (.bool true) ∧ IsFq w' g bq bn (qs.set i (f, (p : Int), s - 1)) ((ns.set p (tp.1, tp.2.1, (-1))).set x (-1, -1, -1)) ∧ Ext w w' (FqF bq bn) := by
  have hil : i < qs.length := (List.getElem?_eq_some_iff.1 hi).1
  have hxl : x < ns.length := (List.getElem?_eq_some_iff.1 hx).1
  have hpl : p < ns.length := (List.getElem?_eq_some_iff.1 hp).1
  have hWh := fwhere_calls h x
  rw [show whereF ns x = (i : Int) by unfold whereF; rw [if_neg (by omega)]; simp [hx]] at hWh
  obtain ⟨ap1, ap2, ap3⟩ := h.apart
  have ap4 := Ne.symm ap1
  have ap5 := Ne.symm ap2
  have ap6 := Ne.symm ap3
  have hlt := h.lt
  have c0 := h.g0
  have c1 := h.g1
  have n0 := h.n0 hx
  have n1 := h.n1 hx
  have n2 := h.n2 hx
  simp only at n0 n1 n2
  have hql := h.ql
  have hnl := h.nl
  have HI := Lib.hid hi
  have HX := Lib.hid hx
  have HH := Lib.hid h
  have HP := Lib.hid hp
  have HPX := Lib.hid hpx
  obtain ⟨lq, hlq⟩ : ∃ l, l = qs.length := ⟨_, rfl⟩
  obtain ⟨ln, hln⟩ : ∃ l, l = ns.length := ⟨_, rfl⟩
  rw [← hlq] at c0 hil hql
  rw [← hln] at c1 hxl hnl hpl
  have HLQ := Lib.hid hlq
  have HLN := Lib.hid hln
  clear hi hx h hlq hln hp hpx
  have i0 : (0 : Int) ≤ (i : Int) := Int.natCast_nonneg _
  have i1 : (i : Int) < (lq : Int) := by omega
  have x0 : (0 : Int) ≤ (x : Int) := Int.natCast_nonneg _
  have x1 : (x : Int) < (ln : Int) := by omega
  have hne0 : ((i : Int) == -1) = false := by simp
  have p0 : (0 : Int) ≤ (p : Int) := Int.natCast_nonneg _
  have p1 : (p : Int) < (ln : Int) := by omega
  have hne1 : ((p : Int) == -1) = false := by simp
  go_enter Try.func23, Try.ntmps23
  go_wp2_with fail
  refine hWh.mono ?_
  rintro e w' ⟨rfl, rfl⟩
  clear hWh
  go_wp2_with fail
  go_region
  obtain ⟨W, hW⟩ : ∃ W, W = (w.alloc (.cells #[.int .i64 i, .int .i64 (p : Int), .int .i64 (-1)] 65)).drew := ⟨_, rfl⟩
  rw [← hW]
  have hI : IsFq W g bq bn qs ns := by rw [hW]; exact (HH.out.alloc _).drew
  have hX : Ext w W (FqF bq bn) := by rw [hW]; exact ((Ext.refl w _).alloc _).drew
  have hB : W.heap[w.heap.size]? = some (.cells #[.int .i64 i, .int .i64 (p : Int), .int .i64 (-1)] 65 (0, 0)) := by rw [hW]; exact heap_alloc_new w _
  have hbb : bq ≠ w.heap.size ∧ bn ≠ w.heap.size ∧ g ≠ w.heap.size := by omega
  obtain ⟨bb, hbb1⟩ : ∃ bb, bb = w.heap.size := ⟨_, rfl⟩
  rw [← hbb1] at hB hbb ⊢
  have HBB := Lib.hid hbb1
  obtain ⟨ap7, ap8, ap9⟩ := hbb
  have ap10 := Ne.symm ap7
  have ap11 := Ne.symm ap8
  clear hW c0 c1 n0 n1 n2 hlt hbb1
  have c0 := hI.g0
  have c1 := hI.g1
  try simp only [List.length_set] at c0
  try simp only [List.length_set] at c1
  rw [← HLQ.out] at c0
  rw [← HLN.out] at c1
  have HQ := Lib.hid (HI.out)
  have HXX := Lib.hid (HX.out)
  have d0 := hI.q0 HQ.out
  have d1 := hI.q1 HQ.out
  have d2 := hI.q2 HQ.out
  simp only at d0 d1 d2
  have y0 := hI.qf (i * 3)
  have y1 := hI.qf (i * 3 + 1)
  have y2 := hI.qf (i * 3 + 2)
  have n0 := hI.n0 HXX.out
  have n1 := hI.n1 HXX.out
  have n2 := hI.n2 HXX.out
  simp only at n0 n1 n2
  have z0 := hI.nf (x * 3)
  have z1 := hI.nf (x * 3 + 1)
  have z2 := hI.nf (x * 3 + 2)
  have e0 : W.cell? ⟨bb, 0, none⟩ = some (.int .i64 i) := blk_cell hB 0
  have e1 : W.cell? ⟨bb, 1, none⟩ = some (.int .i64 (p : Int)) := blk_cell hB 1
  have e2 : W.cell? ⟨bb, 2, none⟩ = some (.int .i64 (-1)) := blk_cell hB 2
  have m2 := hI.n2 HP.out
  have v2 := hI.nf (p * 3 + 2)
  have HFQ := Lib.hid hI
  have HFX := Lib.hid hX
  have HFB := Lib.hid hB
  clear hI hX hB
  go_wp2_with fail
  go_region
  obtain ⟨V, hV⟩ : ∃ V, V = (W.setCell ⟨bn, p * 3 + 2, none⟩ (.int .i64 (-1))).drew := ⟨_, rfl⟩
  rw [← hV]
  have hI : IsFq V g bq bn qs (ns.set p (tp.1, tp.2.1, (-1))) := by rw [hV]; exact (HFQ.out.setN HP.out (j := 2) (by omega) (-1)).drew
  have hX : Ext w V (FqF bq bn) := by rw [hV]; exact (HFX.out.n _ _).drew
  have hB : V.heap[bb]? = some (.cells #[.int .i64 i, .int .i64 (p : Int), .int .i64 (-1)] 65 (0, 0)) := by rw [hV]; exact (Below.heap_setCell _ _ _ _ ap11).trans HFB.out
  clear hV c0 c1 d0 d1 d2 y0 y1 y2 n0 n1 n2 z0 z1 z2 e0 e1 e2 m2 v2
  have c0 := hI.g0
  have c1 := hI.g1
  try simp only [List.length_set] at c0
  try simp only [List.length_set] at c1
  rw [← HLQ.out] at c0
  rw [← HLN.out] at c1
  have HQ := Lib.hid (HI.out)
  have HXX := Lib.hid (set_other (y := (tp.1, tp.2.1, (-1))) HXX.out HPX.out)
  have d0 := hI.q0 HQ.out
  have d1 := hI.q1 HQ.out
  have d2 := hI.q2 HQ.out
  simp only at d0 d1 d2
  have y0 := hI.qf (i * 3)
  have y1 := hI.qf (i * 3 + 1)
  have y2 := hI.qf (i * 3 + 2)
  have n0 := hI.n0 HXX.out
  have n1 := hI.n1 HXX.out
  have n2 := hI.n2 HXX.out
  simp only at n0 n1 n2
  have z0 := hI.nf (x * 3)
  have z1 := hI.nf (x * 3 + 1)
  have z2 := hI.nf (x * 3 + 2)
  have e0 : V.cell? ⟨bb, 0, none⟩ = some (.int .i64 i) := blk_cell hB 0
  have e1 : V.cell? ⟨bb, 1, none⟩ = some (.int .i64 (p : Int)) := blk_cell hB 1
  have e2 : V.cell? ⟨bb, 2, none⟩ = some (.int .i64 (-1)) := blk_cell hB 2
  have HFQ := Lib.hid hI
  have HFX := Lib.hid hX
  have HFB := Lib.hid hB
  clear hI hX hB
  go_wp2_with fail
  go_ret
  have f1 := (HFQ.out).setQ (HQ.out) (j := 1) (by omega) (p : Int)
  have f2 := f1.setN3 HXX.out (-1) (-1) (-1)
  have f3 := (f2).setQ (set_get (HQ.out) _) (j := 2) (by omega) (s - 1)
  exact ⟨rfl, by simpa [upd] using f3, (((((HFX.out.q _ _).n _ _).n _ _).n _ _).q _ _)⟩

set_option maxRecDepth 100000 in
set_option maxHeartbeats 4000000 in
theorem fremove_mid_more {w : World} {g bq bn : Nat} {qs ns : List T3} (h : IsFq w g bq bn qs ns) (x i : Nat) (f l s : Int) (p : Nat) (tp : T3) (hp : ns[p]? = some tp) (hpx : p ≠ x) (r : Nat) (tr : T3) (hr : ns[r]? = some tr) (hrx : r ≠ x) (hpr : p ≠ r) (hx : ns[x]? = some ((i : Int), (p : Int), (r : Int))) (hi : qs[i]? = some (f, l, s)) (hs0 : 0 < s) (hs1 : s < 1000) :
    Calls Try.prog 23 #[.pointer (some ⟨g, 0, none⟩), .int .i64 x] w fun e w' => e = .returned (.bool true) ∧ IsFq w' g bq bn (qs.set i (f, l, s - 1)) (((ns.set p (tp.1, tp.2.1, (r : Int))).set r (tr.1, (p : Int), tr.2.2)).set x (-1, -1, -1)) ∧ Ext w w' (FqF bq bn) := by
  have hil : i < qs.length := (List.getElem?_eq_some_iff.1 hi).1
  have hxl : x < ns.length := (List.getElem?_eq_some_iff.1 hx).1
  have hpl : p < ns.length := (List.getElem?_eq_some_iff.1 hp).1
  have hrl : r < ns.length := (List.getElem?_eq_some_iff.1 hr).1
  have hWh := fwhere_calls h x
  rw [show whereF ns x = (i : Int) by unfold whereF; rw [if_neg (by omega)]; simp [hx]] at hWh
  obtain ⟨ap1, ap2, ap3⟩ := h.apart
  have ap4 := Ne.symm ap1
  have ap5 := Ne.symm ap2
  have ap6 := Ne.symm ap3
  have hlt := h.lt
  have c0 := h.g0
  have c1 := h.g1
  have n0 := h.n0 hx
  have n1 := h.n1 hx
  have n2 := h.n2 hx
  simp only at n0 n1 n2
  have hql := h.ql
  have hnl := h.nl
  have HI := Lib.hid hi
  have HX := Lib.hid hx
  have HH := Lib.hid h
  have HP := Lib.hid hp
  have HPX := Lib.hid hpx
  have HR := Lib.hid hr
  have HRX := Lib.hid hrx
  have HPR := Lib.hid hpr
  obtain ⟨lq, hlq⟩ : ∃ l, l = qs.length := ⟨_, rfl⟩
  obtain ⟨ln, hln⟩ : ∃ l, l = ns.length := ⟨_, rfl⟩
  rw [← hlq] at c0 hil hql
  rw [← hln] at c1 hxl hnl hpl hrl
  have HLQ := Lib.hid hlq
  have HLN := Lib.hid hln
  clear hi hx h hlq hln hp hpx hr hrx hpr
  have i0 : (0 : Int) ≤ (i : Int) := Int.natCast_nonneg _
  have i1 : (i : Int) < (lq : Int) := by omega
  have x0 : (0 : Int) ≤ (x : Int) := Int.natCast_nonneg _
  have x1 : (x : Int) < (ln : Int) := by omega
  have hne0 : ((i : Int) == -1) = false := by simp
  have p0 : (0 : Int) ≤ (p : Int) := Int.natCast_nonneg _
  have p1 : (p : Int) < (ln : Int) := by omega
  have hne1 : ((p : Int) == -1) = false := by simp
  have r0 : (0 : Int) ≤ (r : Int) := Int.natCast_nonneg _
  have r1 : (r : Int) < (ln : Int) := by omega
  have hne2 : ((r : Int) == -1) = false := by simp
  go_enter Try.func23, Try.ntmps23
  go_wp2_with fail
  refine hWh.mono ?_
  rintro e w' ⟨rfl, rfl⟩
  clear hWh
  go_wp2_with fail
  go_region
  obtain ⟨W, hW⟩ : ∃ W, W = (w.alloc (.cells #[.int .i64 i, .int .i64 (p : Int), .int .i64 (r : Int)] 65)).drew := ⟨_, rfl⟩
  rw [← hW]
  have hI : IsFq W g bq bn qs ns := by rw [hW]; exact (HH.out.alloc _).drew
  have hX : Ext w W (FqF bq bn) := by rw [hW]; exact ((Ext.refl w _).alloc _).drew
  have hB : W.heap[w.heap.size]? = some (.cells #[.int .i64 i, .int .i64 (p : Int), .int .i64 (r : Int)] 65 (0, 0)) := by rw [hW]; exact heap_alloc_new w _
  have hbb : bq ≠ w.heap.size ∧ bn ≠ w.heap.size ∧ g ≠ w.heap.size := by omega
  obtain ⟨bb, hbb1⟩ : ∃ bb, bb = w.heap.size := ⟨_, rfl⟩
  rw [← hbb1] at hB hbb ⊢
  have HBB := Lib.hid hbb1
  obtain ⟨ap7, ap8, ap9⟩ := hbb
  have ap10 := Ne.symm ap7
  have ap11 := Ne.symm ap8
  clear hW c0 c1 n0 n1 n2 hlt hbb1
  have c0 := hI.g0
  have c1 := hI.g1
  try simp only [List.length_set] at c0
  try simp only [List.length_set] at c1
  rw [← HLQ.out] at c0
  rw [← HLN.out] at c1
  have HQ := Lib.hid (HI.out)
  have HXX := Lib.hid (HX.out)
  have d0 := hI.q0 HQ.out
  have d1 := hI.q1 HQ.out
  have d2 := hI.q2 HQ.out
  simp only at d0 d1 d2
  have y0 := hI.qf (i * 3)
  have y1 := hI.qf (i * 3 + 1)
  have y2 := hI.qf (i * 3 + 2)
  have n0 := hI.n0 HXX.out
  have n1 := hI.n1 HXX.out
  have n2 := hI.n2 HXX.out
  simp only at n0 n1 n2
  have z0 := hI.nf (x * 3)
  have z1 := hI.nf (x * 3 + 1)
  have z2 := hI.nf (x * 3 + 2)
  have e0 : W.cell? ⟨bb, 0, none⟩ = some (.int .i64 i) := blk_cell hB 0
  have e1 : W.cell? ⟨bb, 1, none⟩ = some (.int .i64 (p : Int)) := blk_cell hB 1
  have e2 : W.cell? ⟨bb, 2, none⟩ = some (.int .i64 (r : Int)) := blk_cell hB 2
  have m2 := hI.n2 HP.out
  have v2 := hI.nf (p * 3 + 2)
  have HRR := Lib.hid (HR.out)
  have k1 := hI.n1 HRR.out
  have u1 := hI.nf (r * 3 + 1)
  have HFQ := Lib.hid hI
  have HFX := Lib.hid hX
  have HFB := Lib.hid hB
  clear hI hX hB
  go_wp2_with fail
  go_region
  obtain ⟨V, hV⟩ : ∃ V, V = (W.setCell ⟨bn, p * 3 + 2, none⟩ (.int .i64 (r : Int))).drew := ⟨_, rfl⟩
  rw [← hV]
  have hI : IsFq V g bq bn qs (ns.set p (tp.1, tp.2.1, (r : Int))) := by rw [hV]; exact (HFQ.out.setN HP.out (j := 2) (by omega) (r : Int)).drew
  have hX : Ext w V (FqF bq bn) := by rw [hV]; exact (HFX.out.n _ _).drew
  have hB : V.heap[bb]? = some (.cells #[.int .i64 i, .int .i64 (p : Int), .int .i64 (r : Int)] 65 (0, 0)) := by rw [hV]; exact (Below.heap_setCell _ _ _ _ ap11).trans HFB.out
  clear hV c0 c1 d0 d1 d2 y0 y1 y2 n0 n1 n2 z0 z1 z2 e0 e1 e2 m2 v2 k1 u1
  have c0 := hI.g0
  have c1 := hI.g1
  try simp only [List.length_set] at c0
  try simp only [List.length_set] at c1
  rw [← HLQ.out] at c0
  rw [← HLN.out] at c1
  have HQ := Lib.hid (HI.out)
  have HXX := Lib.hid (set_other (y := (tp.1, tp.2.1, (r : Int))) HXX.out HPX.out)
  have d0 := hI.q0 HQ.out
  have d1 := hI.q1 HQ.out
  have d2 := hI.q2 HQ.out
  simp only at d0 d1 d2
  have y0 := hI.qf (i * 3)
  have y1 := hI.qf (i * 3 + 1)
  have y2 := hI.qf (i * 3 + 2)
  have n0 := hI.n0 HXX.out
  have n1 := hI.n1 HXX.out
  have n2 := hI.n2 HXX.out
  simp only at n0 n1 n2
  have z0 := hI.nf (x * 3)
  have z1 := hI.nf (x * 3 + 1)
  have z2 := hI.nf (x * 3 + 2)
  have e0 : V.cell? ⟨bb, 0, none⟩ = some (.int .i64 i) := blk_cell hB 0
  have e1 : V.cell? ⟨bb, 1, none⟩ = some (.int .i64 (p : Int)) := blk_cell hB 1
  have e2 : V.cell? ⟨bb, 2, none⟩ = some (.int .i64 (r : Int)) := blk_cell hB 2
  have HRR := Lib.hid (set_other (y := (tp.1, tp.2.1, (r : Int))) HRR.out HPR.out)
  have k1 := hI.n1 HRR.out
  have u1 := hI.nf (r * 3 + 1)
  have HFQ := Lib.hid hI
  have HFX := Lib.hid hX
  have HFB := Lib.hid hB
  clear hI hX hB
  go_wp2_with fail
  go_region
  obtain ⟨T, hT⟩ : ∃ T, T = (V.setCell ⟨bn, r * 3 + 1, none⟩ (.int .i64 (p : Int))).drew := ⟨_, rfl⟩
  rw [← hT]
  have hI : IsFq T g bq bn qs ((ns.set p (tp.1, tp.2.1, (r : Int))).set r (tr.1, (p : Int), tr.2.2)) := by rw [hT]; exact (HFQ.out.setN HRR.out (j := 1) (by omega) (p : Int)).drew
  have hX : Ext w T (FqF bq bn) := by rw [hT]; exact (HFX.out.n _ _).drew
  have hB : T.heap[bb]? = some (.cells #[.int .i64 i, .int .i64 (p : Int), .int .i64 (r : Int)] 65 (0, 0)) := by rw [hT]; exact (Below.heap_setCell _ _ _ _ ap11).trans HFB.out
  clear hT c0 c1 d0 d1 d2 y0 y1 y2 n0 n1 n2 z0 z1 z2 e0 e1 e2 k1 u1
  have c0 := hI.g0
  have c1 := hI.g1
  try simp only [List.length_set] at c0
  try simp only [List.length_set] at c1
  rw [← HLQ.out] at c0
  rw [← HLN.out] at c1
  have HQ := Lib.hid (HQ.out)
  have HXX := Lib.hid (set_other (y := (tr.1, (p : Int), tr.2.2)) HXX.out HRX.out)
  have d0 := hI.q0 HQ.out
  have d1 := hI.q1 HQ.out
  have d2 := hI.q2 HQ.out
  simp only at d0 d1 d2
  have y0 := hI.qf (i * 3)
  have y1 := hI.qf (i * 3 + 1)
  have y2 := hI.qf (i * 3 + 2)
  have n0 := hI.n0 HXX.out
  have n1 := hI.n1 HXX.out
  have n2 := hI.n2 HXX.out
  simp only at n0 n1 n2
  have z0 := hI.nf (x * 3)
  have z1 := hI.nf (x * 3 + 1)
  have z2 := hI.nf (x * 3 + 2)
  have e0 : T.cell? ⟨bb, 0, none⟩ = some (.int .i64 i) := blk_cell hB 0
  have e1 : T.cell? ⟨bb, 1, none⟩ = some (.int .i64 (p : Int)) := blk_cell hB 1
  have e2 : T.cell? ⟨bb, 2, none⟩ = some (.int .i64 (r : Int)) := blk_cell hB 2
  have HFQ := Lib.hid hI
  have HFX := Lib.hid hX
  have HFB := Lib.hid hB
  clear hI hX hB
  go_wp2_with fail
  go_ret
  have f1 := HFQ.out.setN3 HXX.out (-1) (-1) (-1)
  have f2 := (f1).setQ (HQ.out) (j := 2) (by omega) (s - 1)
  exact ⟨rfl, by simpa [upd] using f2, ((((HFX.out.n _ _).n _ _).n _ _).q _ _)⟩
end Go.Proofs.Ytajhfjgndkdbnaa
