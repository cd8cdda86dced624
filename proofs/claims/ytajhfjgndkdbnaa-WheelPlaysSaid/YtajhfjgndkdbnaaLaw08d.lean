/- The walk of the statement WheelPlays: it returns true. Conditions: the number fits its kind, the slice can be read as data. -/
import Derived.Test.YtajhfjgndkdbnaaRef08c
import Derived.Test.YtajhfjgndkdbnaaAct3
namespace Go.Proofs.Ytajhfjgndkdbnaa
open Go.RowKit BigFrame Go.WideShapes

/-- A Set, of timers below N. -/
def setM (N : Nat) (M : List (Int × Nat)) (x t : Int) : List (Int × Nat) := if 0 ≤ x ∧ x < (N : Int) then insM M (heldT t) x.toNat else M
def setOk (N : Nat) (x : Int) : Bool := decide (0 ≤ x ∧ x < (N : Int))
/-- The timers and the document's, both from w on; the document's in blocks from n0 on. -/
structure PW (w wr : World) (b : WB) (n0 p : Nat) (N : Nat) (q : Int) (n : Nat) (M M2 : List (Int × Nat)) : Prop where
  a : IsM wr b N M n
  r : R8 wr n0 p q M2
  below : Below w.heap.size w wr
  hB : ∀ k, k = b.G ∨ b.ft k → w.heap.size ≤ k ∧ k < n0
  hn : w.heap.size ≤ n0
  hq : ∀ x : Int, 0 ≤ x → (x < q ↔ x < (N : Int))
  hN : N ≤ 16
  h2 : M2.length ≤ 16
/-- What lies beside the document's head stays. -/
def Kp (n0 p : Nat) (a c : World) : Prop := ∀ k, n0 ≤ k → k ≠ p → k < a.heap.size → c.heap[k]? = a.heap[k]?
section
variable {w wr w2 : World} {b : WB} {n0 p N n : Nat} {q : Int} {M M2 : List (Int × Nat)}
theorem IsM.short (h : IsM wr b N M n) : M.length ≤ N := by
  obtain ⟨D, _, h2, _⟩ := h
  have : (M.map (·.2)).length ≤ N := short_nodup N _ h2.nd (fun x hx => by
    obtain ⟨p, hp, rfl⟩ := List.mem_map.1 hx
    exact (h2.ent p.1 p.2 hp).1)
  simpa using this
theorem PW.plus (h : PW w wr b n0 p N q n M M2) (hb : Below wr.heap.size wr w2) : PW w w2 b n0 p N q n M M2 :=
  ⟨h.a.below hb, h.r.below hb, h.below.trans (hb.mono h.below.size), h.hB, h.hn, h.hq, h.hN, h.h2⟩
theorem PW.actA {M' : List (Int × Nat)} {n' : Nat} (h : PW w wr b n0 p N q n M M2) (ha : IsM w2 b N M' n') (hx : Ext wr w2 b.ft) : PW w w2 b n0 p N q n' M' M2 :=
  ⟨ha, h.r.ext hx (fun k hk => (h.hB k (.inr hk)).2), ext_below2 h.below hx (fun k hk => (h.hB k (.inr hk)).1), h.hB, h.hn, h.hq, h.hN, h.h2⟩
theorem PW.actR {M' : List (Int × Nat)} (h : PW w wr b n0 p N q n M M2) (hr : R8 w2 n0 p q M') (hx : Ext wr w2 (fun k => k = p)) (hl : M'.length ≤ 16) : PW w w2 b n0 p N q n M M' := by
  have hp : n0 ≤ p := h.r.elim (fun _ h => h.p0)
  have hlt := h.a.lt
  refine ⟨?_, hr, ext_below2 h.below hx (fun k hk => by have := h.hn; omega), h.hB, h.hn, h.hq, h.hN, hl⟩
  obtain ⟨D, g1, g2⟩ := h.a
  exact ⟨D, g1.frame (fun k hk => hx.block k (hlt k hk) (fun e => by have := (h.hB k hk).2; omega)), g2⟩
theorem PW.kpA (h : PW w wr b n0 p N q n M M2) (hx : Ext wr w2 b.ft) : Kp n0 p wr w2 := fun k h1 _ h3 => hx.block k h3 (fun e => by have := (h.hB k (.inr e)).2; omega)
theorem kpR (hx : Ext wr w2 (fun k => k = p)) : Kp n0 p wr w2 := fun k _ h2 h3 => hx.block k h3 h2
theorem kpB (hx : Below wr.heap.size wr w2) : Kp n0 p wr w2 := fun k _ _ h3 => hx.block k h3
theorem PW.wset (h : PW w wr b n0 p N q n M M) (x t : Int) (ht : t ≤ 9223372036854775807) (hn : n < 4611686018427387904) :
    Calls Try.prog 9 #[.pointer (some ⟨b.s, 0, none⟩), .int .i64 x, .int .i64 t] wr fun e w' => e = .returned (.bool (setOk N x)) ∧ ∃ n', n' ≤ n + 1 ∧ PW w w' b n0 p N q n' (setM N M x t) M ∧ Kp n0 p wr w' := by
  unfold setM setOk
  by_cases hx : 0 ≤ x ∧ x < (N : Int)
  · rw [if_pos hx, decide_eq_true hx]
    obtain ⟨k, rfl⟩ : ∃ k : Nat, x = k := ⟨x.toNat, by omega⟩
    exact (wset_yes h.a k (by omega) t ht hn).mono fun _ _ ⟨e1, e2, e3⟩ => ⟨e1, n + 1, Nat.le_refl _, h.actA e2 e3, h.kpA e3⟩
  · rw [if_neg hx, decide_eq_false hx]
    exact (wset_no h.a x t (by omega)).mono fun _ _ ⟨e1, e2⟩ => by subst e2; exact ⟨e1, n, by omega, h, kpB (Below.refl _ _)⟩
theorem PW.rset (x t : Int) (ht : t ≤ 9223372036854775807) (h : PW w wr b n0 p N q n (setM N M x t) M) :
    Calls Try.prog 19 #[.pointer (some ⟨p, 0, none⟩), .int .i64 x, .int .i64 t] wr fun e w' => e = .returned (.bool (setOk N x)) ∧ PW w w' b n0 p N q n (setM N M x t) (setM N M x t) ∧ Kp n0 p wr w' := by
  have hs := h.a.short
  have hN := h.hN
  by_cases hx : 0 ≤ x ∧ x < (N : Int)
  · have e1 : setM N M x t = insM M (heldT t) x.toNat := by unfold setM; rw [if_pos hx]
    have e2 : setOk N x = true := decide_eq_true hx
    rw [e2]
    obtain ⟨k, rfl⟩ : ∃ k : Nat, x = k := ⟨x.toNat, by omega⟩
    have hq := (h.hq k (by omega)).2 hx.2
    refine (r8set_yes h.r h.h2 k hq (by omega) t ht).mono fun _ _ ⟨f1, f2, f3⟩ => ⟨f1, ?_⟩
    exact ⟨h.actR (by rw [e1, Int.toNat_natCast]; exact f2) f3 (by omega), kpR f3⟩
  · have e1 : setM N M x t = M := by unfold setM; rw [if_neg hx]
    have e2 : setOk N x = false := decide_eq_false hx
    rw [e2]
    refine (r8set_no h.r x t ?_).mono fun _ _ ⟨f1, f2⟩ => ?_
    · by_cases h0 : x < 0
      · exact .inl h0
      · have := h.hq x (by omega)
        exact .inr (by omega)
    · subst f2
      rw [e1] at h ⊢
      exact ⟨f1, h, kpB (Below.refl _ _)⟩
theorem PW.wstop (h : PW w wr b n0 p N q n M M) (x : Int) :
    Calls Try.prog 13 #[.pointer (some ⟨b.s, 0, none⟩), .int .i64 x] wr fun e w' => e = .returned (.bool (hasM M x)) ∧ PW w w' b n0 p N q n (stopM M x) M ∧ Kp n0 p wr w' :=
  (wstop_calls h.a x).mono fun _ _ ⟨e1, e2, e3⟩ => ⟨e1, h.actA e2 e3, h.kpA e3⟩
theorem PW.rstop (x : Int) (h : PW w wr b n0 p N q n (stopM M x) M) :
    Calls Try.prog 18 #[.pointer (some ⟨p, 0, none⟩), .int .i64 x] wr fun e w' => e = .returned (.bool (hasM M x)) ∧ PW w w' b n0 p N q n (stopM M x) (stopM M x) ∧ Kp n0 p wr w' :=
  (r8stop_calls h.r h.h2 x).mono fun _ _ ⟨e1, e2, e3⟩ => ⟨e1, h.actR e2 e3 (Nat.le_trans h.a.short h.hN), kpR e3⟩
theorem PW.wdue (h : PW w wr b n0 p N q n M M) (t : Int) (ht : t ≤ 9223372036854775807) :
    Calls Try.prog 10 #[.pointer (some ⟨b.s, 0, none⟩), .int .i64 t] wr fun e w' => ∃ v, e = .returned v ∧ Kv w' (fun k => k = p) v (asInts (dueM M (heldT t))) ∧ PW w w' b n0 p N q n (restM M (heldT t)) M ∧ Kp n0 p wr w' := by
  have hp : p < wr.heap.size := h.r.elim (fun _ h => lt_of_block h.blk)
  refine (wdue_calls h.a (fun w0 w1 D bv n c R g1 g2 g3 g4 => sorts_all b N w0 w1 D bv n c R g1 g2 g3 (Nat.le_trans g4 h.hN)) t ht).mono fun _ _ ⟨v, e1, e2, e3, e4, e5⟩ => ⟨v, e1, Kv.new (w := wr) ?_ e3 (fun k hk => by rw [hk]; exact hp), h.actA e4 e5, h.kpA e5⟩
  rw [show (asInts (dueM M (heldT t))).length = (dueM M (heldT t)).length by simp [asInts]]
  exact e2
theorem PW.rdue (t : Int) (ht : t ≤ 9223372036854775807) (h : PW w wr b n0 p N q n (restM M (heldT t)) M) {u : Value} {l : List Int} (hu : Kv wr (fun k => k = p) u l) :
    Calls Try.prog 17 #[.pointer (some ⟨p, 0, none⟩), .int .i64 t] wr fun e w' => ∃ v, e = .returned v ∧ Reads w' 1 v (dueM M (heldT t)).length (ints (asInts (dueM M (heldT t)))) ∧ Kv w' (fun k => k = p) u l ∧ PW w w' b n0 p N q n (restM M (heldT t)) (restM M (heldT t)) ∧ Kp n0 p wr w' :=
  (r8due_calls h.r h.h2 t ht).mono fun _ _ ⟨v, e1, e2, _, e4, e5⟩ => ⟨v, e1, e2, hu.ext e5, h.actR e4 e5 (Nat.le_trans h.a.short h.hN), kpR e5⟩
theorem PW.wat (h : PW w wr b n0 p N q n M M) (x : Int) :
    Calls Try.prog 20 #[.pointer (some ⟨b.s, 0, none⟩), .int .i64 x] wr fun e w' => e = .returned (.tuple #[.int .i64 (atM M x).1, .bool (atM M x).2]) ∧ wr = w' := wat_calls h.a x
theorem PW.rat (h : PW w wr b n0 p N q n M M) (x : Int) :
    Calls Try.prog 21 #[.pointer (some ⟨p, 0, none⟩), .int .i64 x] wr fun e w' => e = .returned (.tuple #[.int .i64 (atM M x).1, .bool (atM M x).2]) ∧ wr = w' := r8at_calls h.r h.h2 x
theorem PW.wnext (h : PW w wr b n0 p N q n M M) :
    Calls Try.prog 11 #[.pointer (some ⟨b.s, 0, none⟩)] wr fun e w' => e = .returned (.tuple #[.int .i64 (nextM M).1, .bool (nextM M).2]) ∧ PW w w' b n0 p N q n M M ∧ Below wr.heap.size wr w' := (wnext_calls h.a).mono fun _ _ ⟨e1, e2⟩ => ⟨e1, h.plus e2, e2⟩
end
/-- What the law reads of the document's timers: how many, and the first. -/
theorem PW.look {w wr : World} {b : WB} {n0 p N n : Nat} {q : Int} {M : List (Int × Nat)} (h : PW w wr b n0 p N q n M M) : ∃ al cl, wr.cell? ⟨p, 1, none⟩ = some (.slice al M.length cl) ∧ M.length ≤ cl ∧ cl ≤ maxLen ∧
    ((nextM M = (0, false) ∧ M.length = 0) ∨ ∃ bl o a, al = some ⟨bl, o, none⟩ ∧ 0 < M.length ∧ nextM M = (a, true) ∧ wr.cell? ⟨bl, o + 1, none⟩ = some (.int .i64 a)) := by
  obtain ⟨v, hv⟩ := h.r
  obtain ⟨al, cl, rfl, hblk, q1, q2, hcell, hpos⟩ := hv.open
  refine ⟨al, cl, blk_cell hblk 1, q1, q2, ?_⟩
  cases M with
  | nil => exact .inl ⟨rfl, rfl⟩
  | cons r M =>
    obtain ⟨bl, o, rfl⟩ := hpos (by simp)
    refine .inr ⟨bl, o, r.1, rfl, by simp, rfl, ?_⟩
    have := ((hcell bl o rfl).2.2 0 r (by simp)).2
    rwa [Nat.zero_mul, Nat.add_zero] at this

/-- The act of a round, in its box. -/
structure AX (n0 p xb : Nat) (d x t : Int) (wr : World) : Prop where
  blk : wr.heap[xb]? = some (.cells #[.int .u8 d, .int .i64 x, .int .i64 t] 40 (0, 0))
  ge : n0 ≤ xb
  ne : xb ≠ p
theorem AX.keep {n0 p xb : Nat} {d x t : Int} {wr w2 : World} (h : AX n0 p xb d x t wr) (hk : Kp n0 p wr w2) : AX n0 p xb d x t w2 := ⟨(hk xb h.ge h.ne (lt_of_block h.blk)).trans h.blk, h.ge, h.ne⟩
theorem AX.cells {n0 p xb : Nat} {d x t : Int} {wr : World} (h : AX n0 p xb d x t wr) : wr.cell? ⟨xb, 1, none⟩ = some (.int .i64 x) ∧ wr.cell? ⟨xb, 2, none⟩ = some (.int .i64 t) := ⟨blk_cell h.blk 1, blk_cell h.blk 2⟩
set_option maxRecDepth 100000 in
set_option maxHeartbeats 16000000 in
theorem wheelPlays_walk (w : World) (q : Int) (q0 : -9223372036854775808 ≤ q) (q1 : q ≤ 9223372036854775807) (va : Value) (na : Nat) (xs : List (List Int)) (hl : xs.length = na) (ra : Reads w 3 va na (xs.flatMap (rowCells [.u8, .i64, .i64])))
    (ba : ∀ x ∈ xs, x.length = [IntKind.u8, .i64, .i64].length ∧ ∀ (j : Nat) k y, [IntKind.u8, .i64, .i64][j]? = some k → x[j]? = some y → (Lit.int k y).wf = true) (_ : na * Try.prog.bytesOf 40 ≤ 140737488351232) :
    Calls Try.prog 5 #[.int .i64 q, va] w fun e w' => e = .returned (.bool true) ∧ Below w.heap.size w w' := by
  have hlt := ra.lt
  have RA := ra
  obtain ⟨_, aa, ca, rfl, ha1, ha2, ha3⟩ := ra
  unfold maxLen at ha2
  have HL := Lib.hid hl
  have HRA := Lib.hid RA
  have HBA := Lib.hid ba
  have HA3 := Lib.hid (fun h : 0 < na => (ha3 h).imp (fun b h => h.imp (fun o h => h.1)))
  have HLT := Lib.hid hlt
  clear hl RA ba ha3 hlt
  go_enter Try.func5, Try.ntmps5
  go_wp2_with fail
  refine (wnew_calls q _ q0 q1).mono ?_
  rintro e w1 ⟨b, rfl, h1, hk, hb1⟩
  have H1 := Lib.hid h1
  have HK := Lib.hid hk
  have HB1 := Lib.hid hb1
  clear h1 hk hb1
  go_wp2_with fail
  refine (r8new_calls q _ q0 q1).mono ?_
  rintro e w2 ⟨p, rfl, h2, hb2⟩
  have HP0 := Lib.hid (show PW w w2 b w1.heap.size p (wN q) (min q 16) 0 [] [] from
    ⟨H1.out.below hb2, h2, HB1.out.trans (hb2.mono HB1.out.size), fun k hk => ⟨HK.out k hk, H1.out.lt k hk⟩, HB1.out.size, fun x hx => by unfold wN; omega, by unfold wN; omega, by simp⟩)
  clear h2 hb2 H1 HK HB1
  generalize w1.heap.size = n0 at HP0
  generalize wN q = N at HP0
  generalize min q 16 = q' at HP0
  go_wp2_with fail
  go_loopw [7] (fun u wr => ∃ (i n : Nat) (M : List (Int × Nat)), u = .int .i64 i ∧ i ≤ na ∧ n ≤ i ∧ PW w wr b n0 p N q' n M M) (fun u _ => na - (intOf u).toNat)
  case atStart => exact ⟨0, 0, _, rfl, Nat.zero_le _, Nat.le_refl _, HP0.out⟩
  case round =>
    clear HP0
    obtain ⟨i, n, M, rfl, hi, hni, hP⟩ := hrel
    have iz : (0 : Int) ≤ (i : Int) := Int.natCast_nonneg _
    have HP := Lib.hid hP
    clear hP
    by_cases hc : i < na ∧ i < 60
    · obtain ⟨hc1, hc2⟩ := hc
      have hc1' : (i : Int) < (na : Int) := by omega
      have hc2' : (i : Int) < 60 := by omega
      obtain ⟨bA, oA, rfl⟩ := HA3.out (by omega)
      have hbA : bA < w.heap.size := HLT.out (by omega) (by omega) bA rfl
      obtain ⟨d, x, t, ⟨hwd, hwx, hwt⟩, hk0, hk1, hk2⟩ := act3_cells HRA.out HBA.out HL.out i hc1
      have hd := bounds_u8 hwd
      have hx := bounds_i64 hwx
      have ht := bounds_i64 hwt
      have k0 : wr.cell? ⟨bA, oA + i * 3, none⟩ = some (.int .u8 d) := (HP.out.below.cell (p := ⟨bA, oA + i * 3, none⟩) hbA).trans hk0
      have k1 : wr.cell? ⟨bA, oA + i * 3 + 1, none⟩ = some (.int .i64 x) := (HP.out.below.cell (p := ⟨bA, oA + i * 3 + 1, none⟩) hbA).trans hk1
      have k2 : wr.cell? ⟨bA, oA + i * 3 + 2, none⟩ = some (.int .i64 t) := (HP.out.below.cell (p := ⟨bA, oA + i * 3 + 2, none⟩) hbA).trans hk2
      clear hk0 hk1 hk2 hwd hwx hwt
      have hw3 : PW w (wr.alloc (.cells #[.int .u8 d, .int .i64 x, .int .i64 t] 40)) b n0 p N q' n M M := HP.out.plus (plus_one wr _)
      have hnx : n0 ≤ wr.heap.size := HP.out.r.elim (fun _ h => h.nsz)
      have hxp : wr.heap.size ≠ p := HP.out.r.elim (fun _ h => by have := lt_of_block h.blk; omega)
      have HX := Lib.hid (show AX n0 p wr.heap.size d x t (wr.alloc (.cells #[.int .u8 d, .int .i64 x, .int .i64 t] 40)) from ⟨heap_alloc_new wr _, hnx, hxp⟩)
      have HP3 := Lib.hid hw3
      have kd : (wr.alloc (.cells #[.int .u8 d, .int .i64 x, .int .i64 t] 40)).cell? ⟨wr.heap.size, 0, none⟩ = some (.int .u8 d) := blk_cell (heap_alloc_new wr _) 0
      clear hw3 hnx hxp HP
      obtain ⟨s, hs⟩ : ∃ s : Nat, (s : Int) = d % 6 := ⟨(d % 6).toNat, by omega⟩
      have hs6 : s < 6 := by omega
      have hs2 : d % 6 = (s : Int) := hs.symm
      clear hs
      go_upto_block 2 with (fail)
      obtain ⟨xb, hxb⟩ : ∃ xb, xb = wr.heap.size := ⟨_, rfl⟩
      rw [← hxb] at HX kd ⊢
      generalize wr.alloc (.cells #[.int .u8 d, .int .i64 x, .int .i64 t] 40) = w3 at HX HP3 kd ⊢
      clear hxb k0 k1 k2
      go_cut [35] (fun _ wd => ∃ (n' : Nat) (M' : List (Int × Nat)), n' ≤ n + 1 ∧ PW w wd b n0 p N q' n' M' M' ∧ AX n0 p xb d x t wd)
      case first => as_aux_lemma =>
        have HPd := Lib.hid (HP3.out.plus ((Below.refl _ _).drew))
        have HXd := Lib.hid (HX.out.keep (kpB ((Below.refl _ _).drew)))
        have hkj := HXd.out.cells
        by_cases hs0 : s = 0
        · subst hs0
          have HDU := Lib.hid (HPd.out.wdue t ht.2)
          clear HP3 HX
          go_wp2_with fail
          go_region_held3 (fun w' => w'.cell? ⟨xb, 1, none⟩ = some (.int .i64 x) ∧ w'.cell? ⟨xb, 2, none⟩ = some (.int .i64 t)) (first | go_keep | exact hkj | exact hk4 | exact hk5 | exact hk6)
            (first | (go_at_call 10; refine HDU.out.mono ?_; rintro e w4 ⟨v4, rfl, hv4, h4, g4⟩; have HP4 := Lib.hid h4; have HV4 := Lib.hid hv4; have HX4 := Lib.hid (HXd.out.keep g4); have hk4 := HX4.out.cells; clear h4 hv4 g4) | (go_at_call 17; refine (PW.rdue t ht.2 HP4.out HV4.out).mono ?_; rintro e w5 ⟨v5, rfl, hu5, hv5, h5, g5⟩; have HP5 := Lib.hid h5; have HV5 := Lib.hid hv5; have HU5 := Lib.hid hu5; have HX5 := Lib.hid (HX4.out.keep g5); have hk5 := HX5.out.cells; clear h5 hv5 hu5 g5) | (go_at_call 15; refine (ints_same HV5.out.1 HU5.out).mono ?_; rintro e w6 ⟨rfl, q6, rfl⟩; have HP6 := Lib.hid (HP5.out.plus (below_drewN (Below.refl _ _) q6)); have HX6 := Lib.hid (HX5.out.keep (kpB (below_drewN (Below.refl _ _) q6))); have hk6 := HX6.out.cells))
          all_goals go_wp2_with fail
          all_goals go_meet
          all_goals exact ⟨n, _, by omega, HP6.out, HX6.out⟩
        · by_cases hs1 : s = 1
          · subst hs1
            have HDU := Lib.hid (HPd.out.wstop x)
            have HRS := Lib.hid (fun (wq : World) (h : PW w wq b n0 p N q' n (stopM M x) M) => PW.rstop x h)
            clear HP3 HX hs0
            generalize hasM M x = ok at HDU HRS
            go_wp2_with fail
            go_region_held3 (fun w' => w'.cell? ⟨xb, 1, none⟩ = some (.int .i64 x) ∧ w'.cell? ⟨xb, 2, none⟩ = some (.int .i64 t)) (first | go_keep | exact hkj | exact hk4 | exact hk5)
              (first | (go_at_call 13; refine HDU.out.mono ?_; rintro e w4 ⟨rfl, h4, g4⟩; have HP4 := Lib.hid h4; have HX4 := Lib.hid (HXd.out.keep g4); have hk4 := HX4.out.cells; clear h4 g4) | (go_at_call 18; refine (HRS.out _ HP4.out).mono ?_; rintro e w5 ⟨rfl, h5, g5⟩; have HP5 := Lib.hid h5; have HX5 := Lib.hid (HX4.out.keep g5); have hk5 := HX5.out.cells; clear h5 g5))
            all_goals go_wp2_with fail
            all_goals go_meet
            all_goals exact ⟨n, _, by omega, HP5.out, HX5.out⟩
          · have t0 : ((s : Int) == 0) = false := by simp; omega
            have t1 : ((s : Int) == 1) = false := by simp; omega
            have t2 : (s == 0) = false := by simp; omega
            have t3 : (s == 1) = false := by simp; omega
            have HDU := Lib.hid (HPd.out.wset x t ht.2 (by omega))
            have HRS := Lib.hid (fun (wq : World) (n' : Nat) (h : PW w wq b n0 p N q' n' (setM N M x t) M) => PW.rset x t ht.2 h)
            clear HP3 HX
            generalize setOk N x = ok at HDU HRS
            go_wp2_with fail
            go_region_held3 (fun w' => w'.cell? ⟨xb, 1, none⟩ = some (.int .i64 x) ∧ w'.cell? ⟨xb, 2, none⟩ = some (.int .i64 t)) (first | go_keep | exact hkj | exact hk4 | exact hk5)
              (first | (go_at_call 9; refine HDU.out.mono ?_; rintro e w4 ⟨rfl, n', hn', h4, g4⟩; have HP4 := Lib.hid h4; have HN4 := Lib.hid hn'; have HX4 := Lib.hid (HXd.out.keep g4); have hk4 := HX4.out.cells; clear h4 g4 hn') | (go_at_call 19; refine (HRS.out _ _ HP4.out).mono ?_; rintro e w5 ⟨rfl, h5, g5⟩; have HP5 := Lib.hid h5; have HX5 := Lib.hid (HX4.out.keep g5); have hk5 := HX5.out.cells; clear h5 g5))
            all_goals go_wp2_with fail
            all_goals go_meet
            all_goals exact ⟨n', _, HN4.out, HP5.out, HX5.out⟩
      case rest =>
      clear HP3 HX kd hs2
      obtain ⟨n', M', hn', hP, hX⟩ := hcut
      have hkj := hX.cells
      have HAT := Lib.hid (hP.wat x)
      have HRA := Lib.hid (hP.rat x)
      have hnx := hP.wnext
      obtain ⟨al, cl, c1, q1, q2, hl⟩ := hP.look
      have HP := Lib.hid hP
      have hpl : p < wc.heap.size := hP.r.elim (fun _ h => lt_of_block h.blk)
      generalize (atM M' x).1 = a1 at HAT HRA
      generalize (atM M' x).2 = a2 at HAT HRA
      obtain ⟨ml, hml⟩ : ∃ ml, ml = M'.length := ⟨_, rfl⟩
      rw [← hml] at c1 q1 hl
      unfold maxLen at q2
      clear hml hP hX
      rcases hl with ⟨hnm, rfl⟩ | ⟨bl, o, a, rfl, h0, hnm, c2⟩
      · rw [hnm] at hnx
        have HNX := Lib.hid hnx
        clear hnx hnm
        go_wp2_with fail
        refine HAT.out.mono ?_
        rintro e w' ⟨rfl, rfl⟩
        go_wp2_with fail
        refine HRA.out.mono ?_
        rintro e w' ⟨rfl, rfl⟩
        go_wp2_with fail
        refine HNX.out.mono ?_
        rintro e w4 ⟨rfl, h4, hb4⟩
        have HP4 := Lib.hid h4
        have c1 := below_cell hb4 hpl c1
        clear h4 hb4
        go_wp2_with fail
        go_roundw
        case rel => exact ⟨i + 1, n', _, by go_num, by omega, by omega, HP4.out⟩
        case measure => simp [intOf]; omega
      · rw [hnm] at hnx
        have HNX := Lib.hid hnx
        have h0' : (0 : Int) < (ml : Int) := by omega
        have hbl : bl < wc.heap.size := block_lt_of_cell c2
        clear hnx hnm
        go_wp2_with fail
        refine HAT.out.mono ?_
        rintro e w' ⟨rfl, rfl⟩
        go_wp2_with fail
        refine HRA.out.mono ?_
        rintro e w' ⟨rfl, rfl⟩
        go_wp2_with fail
        refine HNX.out.mono ?_
        rintro e w4 ⟨rfl, h4, hb4⟩
        have HP4 := Lib.hid h4
        have c1 := below_cell hb4 hpl c1
        have c2 := below_cell hb4 hbl c2
        clear h4 hb4
        go_wp2_with fail
        go_roundw
        case rel => exact ⟨i + 1, n', _, by go_num, by omega, by omega, HP4.out⟩
        case measure => simp [intOf]; omega
    · have B := Lib.hid HP.out.below
      clear HP
      by_cases h1 : i < na
      all_goals
        go_wp2_with fail
        refine (awake8_calls _).mono ?_
        rintro e w6 ⟨rfl, hb6⟩
        have B6 := Lib.hid (B.out.trans (hb6.mono B.out.size))
        clear hb6
        go_wp2_with fail
        go_ret
        exact ⟨rfl, B6.out⟩
end Go.Proofs.Ytajhfjgndkdbnaa
