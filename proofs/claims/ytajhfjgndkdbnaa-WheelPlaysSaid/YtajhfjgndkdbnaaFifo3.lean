/- What fifo's Push does. Condition: the queues lie in memory (IsFq), the numbers in them are in range. -/
import Derived.Test.YtajhfjgndkdbnaaFifo2
namespace Go.Proofs.Ytajhfjgndkdbnaa
open Go.RowKit BigFrame

def FqF (bq bn : Nat) : Nat → Prop := fun k => k = bq ∨ k = bn
theorem IsFq.setN3 {w : World} {g bq bn : Nat} {qs ns : List T3} (h : IsFq w g bq bn qs ns) {i : Nat} {t : T3} (ht : ns[i]? = some t) (a b c : Int) :
    IsFq (((w.setCell ⟨bn, i * 3, none⟩ (.int .i64 a)).setCell ⟨bn, i * 3 + 1, none⟩ (.int .i64 b)).setCell ⟨bn, i * 3 + 2, none⟩ (.int .i64 c)) g bq bn qs (ns.set i (a, b, c)) := by
  have hl : i < ns.length := (List.getElem?_eq_some_iff.1 ht).1
  have h1 := h.setN ht (j := 0) (by omega) a
  have h2 := h1.setN (i := i) (j := 1) (t := upd t 0 a) (by simp [hl]) (by omega) b
  have h3 := h2.setN (i := i) (j := 2) (t := upd (upd t 0 a) 1 b) (by simp [hl]) (by omega) c
  simpa [upd] using h3

theorem IsFq.setQ3 {w : World} {g bq bn : Nat} {qs ns : List T3} (h : IsFq w g bq bn qs ns) {i : Nat} {t : T3} (ht : qs[i]? = some t) (a b c : Int) :
    IsFq (((w.setCell ⟨bq, i * 3, none⟩ (.int .i64 a)).setCell ⟨bq, i * 3 + 1, none⟩ (.int .i64 b)).setCell ⟨bq, i * 3 + 2, none⟩ (.int .i64 c)) g bq bn (qs.set i (a, b, c)) ns := by
  have hl : i < qs.length := (List.getElem?_eq_some_iff.1 ht).1
  have h1 := h.setQ ht (j := 0) (by omega) a
  have h2 := h1.setQ (i := i) (j := 1) (t := upd t 0 a) (by simp [hl]) (by omega) b
  have h3 := h2.setQ (i := i) (j := 2) (t := upd (upd t 0 a) 1 b) (by simp [hl]) (by omega) c
  simpa [upd] using h3
theorem IsFq.setQ2 {w : World} {g bq bn : Nat} {qs ns : List T3} (h : IsFq w g bq bn qs ns) {i : Nat} {t : T3} (ht : qs[i]? = some t) (b c : Int) :
    IsFq ((w.setCell ⟨bq, i * 3 + 1, none⟩ (.int .i64 b)).setCell ⟨bq, i * 3 + 2, none⟩ (.int .i64 c)) g bq bn (qs.set i (t.1, b, c)) ns := by
  have hl : i < qs.length := (List.getElem?_eq_some_iff.1 ht).1
  have h2 := h.setQ (i := i) (j := 1) ht (by omega) b
  have h3 := h2.setQ (i := i) (j := 2) (t := upd t 1 b) (by simp [hl]) (by omega) c
  simpa [upd] using h3
theorem Ext.q {a w : World} {bq bn : Nat} (h : Ext a w (FqF bq bn)) (o : Nat) (u : Value) : Ext a (w.setCell ⟨bq, o, none⟩ u) (FqF bq bn) := h.setCell (p := ⟨bq, o, none⟩) (fun _ => .inl rfl) u
theorem Ext.n {a w : World} {bq bn : Nat} (h : Ext a w (FqF bq bn)) (o : Nat) (u : Value) : Ext a (w.setCell ⟨bn, o, none⟩ u) (FqF bq bn) := h.setCell (p := ⟨bn, o, none⟩) (fun _ => .inr rfl) u

theorem fpush_no {w : World} {g bq bn : Nat} {qs ns : List T3} (h : IsFq w g bq bn qs ns) (n x : Int) (hno : inR n qs = false ∨ x < 0 ∨ (ns.length : Int) ≤ x ∨ whereF ns x ≠ -1) :
    Calls Try.prog 25 #[.pointer (some ⟨g, 0, none⟩), .int .i64 n, .int .i64 x] w fun e w' => e = .returned (.bool false) ∧ w = w' := by
  have hi := fis_calls h n
  have hw := fwhere_calls h x
  have c1 := h.g1
  clear h
  obtain ⟨len, hlen⟩ : ∃ len, len = ns.length := ⟨_, rfl⟩
  rw [← hlen] at c1 hno
  generalize inR n qs = b at hi hno
  generalize whereF ns x = u at hw hno
  clear hlen
  cases b
  · clear hno
    go_enter Try.func25, Try.ntmps25
    go_wp2_with fail
    refine hi.mono ?_
    rintro e w' ⟨rfl, rfl⟩
    go_wp2_with fail
    go_ret
    exact ⟨rfl, rfl⟩
  · by_cases a : x < 0
    · clear hno
      go_enter Try.func25, Try.ntmps25
      go_wp2_with fail
      refine hi.mono ?_
      rintro e w' ⟨rfl, rfl⟩
      go_wp2_with fail
      go_ret
      exact ⟨rfl, rfl⟩
    · by_cases c : (len : Int) ≤ x
      · clear hno
        go_enter Try.func25, Try.ntmps25
        go_wp2_with fail
        refine hi.mono ?_
        rintro e w' ⟨rfl, rfl⟩
        go_wp2_with fail
        go_ret
        exact ⟨rfl, rfl⟩
      · have hu : (u != -1) = true := by
          rcases hno with h | h | h | h
          · cases h
          · exact absurd h a
          · exact absurd h c
          · simpa using h
        clear hno
        go_enter Try.func25, Try.ntmps25
        go_wp2_with fail
        refine hi.mono ?_
        rintro e w' ⟨rfl, rfl⟩
        go_wp2_with fail
        refine hw.mono ?_
        rintro e w' ⟨rfl, rfl⟩
        go_wp2_with fail
        go_ret
        exact ⟨rfl, rfl⟩

set_option maxRecDepth 100000 in
set_option maxHeartbeats 4000000 in
/-- Into an empty queue. -/
theorem fpush_first {w : World} {g bq bn : Nat} {qs ns : List T3} (h : IsFq w g bq bn qs ns) (i x : Nat) (f s : Int) (t : T3) (hi : qs[i]? = some (f, -1, s)) (hx : ns[x]? = some t) (ht : t.1 = -1) (hs0 : 0 ≤ s) (hs1 : s < 1000) :
    Calls Try.prog 25 #[.pointer (some ⟨g, 0, none⟩), .int .i64 i, .int .i64 x] w fun e w' => e = .returned (.bool true) ∧ IsFq w' g bq bn (qs.set i (x, x, s + 1)) (ns.set x (i, -1, -1)) ∧ Ext w w' (FqF bq bn) := by
  have hil : i < qs.length := (List.getElem?_eq_some_iff.1 hi).1
  have hxl : x < ns.length := (List.getElem?_eq_some_iff.1 hx).1
  have hIs := fis_calls h i
  rw [show inR i qs = true by unfold inR; simp [hil]] at hIs
  have hWh := fwhere_calls h x
  rw [show whereF ns x = -1 by unfold whereF; rw [if_neg (by omega)]; simp [hx, ht]] at hWh
  have c0 := h.g0
  have c1 := h.g1
  have q1 := h.q1 hi
  have n0 := h.n0 hx
  have n1 := h.n1 hx
  have n2 := h.n2 hx
  have z0 := h.nf (x * 3)
  have z1 := h.nf (x * 3 + 1)
  have z2 := h.nf (x * 3 + 2)
  have hql := h.ql
  have hnl := h.nl
  have HI := Lib.hid hi
  have HX := Lib.hid hx
  have HH := Lib.hid h
  simp only at q1
  obtain ⟨lq, hlq⟩ : ∃ l, l = qs.length := ⟨_, rfl⟩
  obtain ⟨ln, hln⟩ : ∃ l, l = ns.length := ⟨_, rfl⟩
  rw [← hlq] at c0 hil hql
  rw [← hln] at c1 hxl hnl
  have HLQ := Lib.hid hlq
  have HLN := Lib.hid hln
  clear hi hx h ht hlq hln
  have i0 : (0 : Int) ≤ (i : Int) := Int.natCast_nonneg _
  have i1 : (i : Int) < (lq : Int) := by omega
  have x0 : (0 : Int) ≤ (x : Int) := Int.natCast_nonneg _
  have x1 : (x : Int) < (ln : Int) := by omega
  go_enter Try.func25, Try.ntmps25
  go_wp2_with fail
  refine hIs.mono ?_
  rintro e w' ⟨rfl, rfl⟩
  go_wp2_with fail
  refine hWh.mono ?_
  rintro e w' ⟨rfl, rfl⟩
  clear hIs hWh
  go_wp2_with fail
  go_region
  obtain ⟨W, hW⟩ : ∃ W, W = (((w.setCell ⟨bn, x * 3, none⟩ (.int .i64 i)).setCell ⟨bn, x * 3 + 1, none⟩ (.int .i64 (-1))).setCell ⟨bn, x * 3 + 2, none⟩ (.int .i64 (-1))).drew := ⟨_, rfl⟩
  rw [← hW]
  have hI1 : IsFq W g bq bn qs (ns.set x (i, -1, -1)) := by rw [hW]; exact (HH.out.setN3 HX.out i (-1) (-1)).drew
  have hX1 : Ext w W (FqF bq bn) := by
    rw [hW]
    exact ((((Ext.refl w _).n _ _).n _ _).n _ _).drew
  clear hW c0 c1 q1 n0 n1 n2 z0 z1 z2
  have d0 := hI1.q0 HI.out
  have d1 := hI1.q1 HI.out
  have d2 := hI1.q2 HI.out
  have y0 := hI1.qf (i * 3)
  have y1 := hI1.qf (i * 3 + 1)
  have y2 := hI1.qf (i * 3 + 2)
  simp only at d0 d1 d2
  have HI1 := Lib.hid hI1
  have HX1 := Lib.hid hX1
  clear hI1 hX1
  go_wp2_with fail
  go_ret
  exact ⟨rfl, HI1.out.setQ3 HI.out x x (s + 1), ((HX1.out.q _ _).q _ _).q _ _⟩
set_option maxRecDepth 100000 in
set_option maxHeartbeats 4000000 in
/-- Behind another item. -/
theorem fpush_behind {w : World} {g bq bn : Nat} {qs ns : List T3} (h : IsFq w g bq bn qs ns) (i x y : Nat) (f s : Int) (t ty : T3) (hi : qs[i]? = some (f, (y : Int), s)) (hy : ns[y]? = some ty) (hxy : y ≠ x) (hx : ns[x]? = some t) (ht : t.1 = -1) (hs0 : 0 ≤ s) (hs1 : s < 1000) :
    Calls Try.prog 25 #[.pointer (some ⟨g, 0, none⟩), .int .i64 i, .int .i64 x] w fun e w' => e = .returned (.bool true) ∧ IsFq w' g bq bn (qs.set i (f, x, s + 1)) ((ns.set x (i, y, -1)).set y (ty.1, ty.2.1, x)) ∧ Ext w w' (FqF bq bn) := by
  have hil : i < qs.length := (List.getElem?_eq_some_iff.1 hi).1
  have hxl : x < ns.length := (List.getElem?_eq_some_iff.1 hx).1
  have hyl : y < ns.length := (List.getElem?_eq_some_iff.1 hy).1
  have hIs := fis_calls h i
  rw [show inR i qs = true by unfold inR; simp [hil]] at hIs
  have hWh := fwhere_calls h x
  rw [show whereF ns x = -1 by unfold whereF; rw [if_neg (by omega)]; simp [hx, ht]] at hWh
  have c0 := h.g0
  have c1 := h.g1
  have q1 := h.q1 hi
  have n0 := h.n0 hx
  have n1 := h.n1 hx
  have n2 := h.n2 hx
  have z0 := h.nf (x * 3)
  have z1 := h.nf (x * 3 + 1)
  have z2 := h.nf (x * 3 + 2)
  have hql := h.ql
  have hnl := h.nl
  have HI := Lib.hid hi
  have HX := Lib.hid hx
  have HY := Lib.hid hy
  have HXY := Lib.hid hxy
  have HH := Lib.hid h
  simp only at q1
  obtain ⟨lq, hlq⟩ : ∃ l, l = qs.length := ⟨_, rfl⟩
  obtain ⟨ln, hln⟩ : ∃ l, l = ns.length := ⟨_, rfl⟩
  rw [← hlq] at c0 hil hql
  rw [← hln] at c1 hxl hnl hyl
  have HLQ := Lib.hid hlq
  have HLN := Lib.hid hln
  clear hi hx h ht hlq hln hy hxy
  have i0 : (0 : Int) ≤ (i : Int) := Int.natCast_nonneg _
  have i1 : (i : Int) < (lq : Int) := by omega
  have x0 : (0 : Int) ≤ (x : Int) := Int.natCast_nonneg _
  have x1 : (x : Int) < (ln : Int) := by omega
  have j0 : (0 : Int) ≤ (y : Int) := Int.natCast_nonneg _
  have j1 : (y : Int) < (ln : Int) := by omega
  go_enter Try.func25, Try.ntmps25
  go_wp2_with fail
  refine hIs.mono ?_
  rintro e w' ⟨rfl, rfl⟩
  go_wp2_with fail
  refine hWh.mono ?_
  rintro e w' ⟨rfl, rfl⟩
  clear hIs hWh
  go_wp2_with fail
  go_region
  obtain ⟨W, hW⟩ : ∃ W, W = (((w.setCell ⟨bn, x * 3, none⟩ (.int .i64 i)).setCell ⟨bn, x * 3 + 1, none⟩ (.int .i64 y)).setCell ⟨bn, x * 3 + 2, none⟩ (.int .i64 (-1))).drew := ⟨_, rfl⟩
  rw [← hW]
  have hI1 : IsFq W g bq bn qs (ns.set x (i, y, -1)) := by rw [hW]; exact (HH.out.setN3 HX.out i y (-1)).drew
  have hX1 : Ext w W (FqF bq bn) := by
    rw [hW]
    exact ((((Ext.refl w _).n _ _).n _ _).n _ _).drew
  clear hW c0 c1 q1 n0 n1 n2 z0 z1 z2
  have d0 := hI1.q0 HI.out
  have d1 := hI1.q1 HI.out
  have d2 := hI1.q2 HI.out
  have y0 := hI1.qf (i * 3)
  have y1 := hI1.qf (i * 3 + 1)
  have y2 := hI1.qf (i * 3 + 2)
  simp only at d0 d1 d2
  have HI1 := Lib.hid hI1
  have HX1 := Lib.hid hX1
  clear hI1 hX1
  have c1 := HI1.out.g1
  rw [List.length_set, ← HLN.out] at c1
  have c0 := HI1.out.g0
  rw [← HLQ.out] at c0
  have hy1 := Lib.hid (show (ns.set x (i, (y : Int), -1))[y]? = some ty by rw [List.getElem?_set_ne (fun e => HXY.out e.symm)]; exact HY.out)
  have m2 := HI1.out.n2 hy1.out
  have v2 := HI1.out.nf (y * 3 + 2)
  have hne : ((y : Int) == -1) = false := by simp
  go_wp2_with fail
  go_region
  obtain ⟨V, hV⟩ : ∃ V, V = (W.setCell ⟨bn, y * 3 + 2, none⟩ (.int .i64 x)).drew := ⟨_, rfl⟩
  rw [← hV]
  have hI2 : IsFq V g bq bn qs ((ns.set x (i, (y : Int), -1)).set y (ty.1, ty.2.1, x)) := by rw [hV]; exact (HI1.out.setN hy1.out (j := 2) (by omega) x).drew
  have hX2 : Ext w V (FqF bq bn) := by rw [hV]; exact (HX1.out.n _ _).drew
  clear hV c0 c1 m2 v2 d0 d1 d2 y0 y1 y2
  have d0 := hI2.q0 HI.out
  have d1 := hI2.q1 HI.out
  have d2 := hI2.q2 HI.out
  have y0 := hI2.qf (i * 3)
  have y1 := hI2.qf (i * 3 + 1)
  have y2 := hI2.qf (i * 3 + 2)
  simp only at d0 d1 d2
  have HI2 := Lib.hid hI2
  have HX2 := Lib.hid hX2
  clear hI2 hX2
  go_wp2_with fail
  go_ret
  exact ⟨rfl, HI2.out.setQ2 HI.out x (s + 1), (HX2.out.q _ _).q _ _⟩
end Go.Proofs.Ytajhfjgndkdbnaa
