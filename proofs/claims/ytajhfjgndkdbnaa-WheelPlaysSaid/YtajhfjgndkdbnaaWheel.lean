/- What wheel.Wheel is in memory, and what Stop, At, Set, New do; the nil ones too. Condition of each: it lies in memory (IsW); the numbers fit their kinds. -/
import Derived.Test.YtajhfjgndkdbnaaWheelPure
import Derived.Test.YtajhfjgndkdbnaaInts
import Derived.Test.YtajhfjgndkdbnaaOrd
import Derived.Deep.RegionHeld3
import Derived.Deep.RegionLaw
import Derived.Deep.RegionWith
import Derived.Deep.LoopGhost
import Derived.Deep.CutBlock
import Derived.Deep.DeepCutAuto
import Derived.Deep.OwnRows
namespace Go.Proofs.Ytajhfjgndkdbnaa
open Go.RowKit BigFrame

/-- The blocks of a Wheel. -/
structure WB where
  s : Nat
  G : Nat
  bq : Nat
  bn : Nat
  ba : Nat
  bt : Nat
/-- What its methods may turn. -/
def WB.ft (b : WB) (k : Nat) : Prop := k = b.s ∨ k = b.bq ∨ k = b.bn ∨ k = b.ba ∨ k = b.bt
structure IsW (w : World) (b : WB) (D : WD) (N : Nat) : Prop where
  obj : w.heap[b.s]? = some (.cells #[.pointer (some ⟨b.G, 0, none⟩), .slice (some ⟨b.ba, 0, none⟩) N N, .slice (some ⟨b.bt, 0, none⟩) N N, .int .i64 D.now] 54 (0, 0))
  fi : IsF w b.G b.bq b.bn D.L N
  at_ : w.ownsRow 0 3 1 (.slice (some ⟨b.ba, 0, none⟩) N N) N (ints D.at_)
  tu : w.ownsRow 0 3 1 (.slice (some ⟨b.bt, 0, none⟩) N N) N (ints D.turn)
  apart : ∃ c : Nat → Nat, c b.s = 1 ∧ c b.G = 2 ∧ c b.bq = 2 ∧ c b.bn = 2 ∧ c b.ba = 3 ∧ c b.bt = 4
  small : N ≤ 16
section
variable {w w' : World} {b : WB} {D : WD} {N : Nat}
theorem IsW.frame (h : IsW w b D N) (hf : ∀ k, k = b.G ∨ b.ft k → w'.heap[k]? = w.heap[k]?) : IsW w' b D N :=
  ⟨(hf _ (.inr (.inl rfl))).trans h.obj, h.fi.frame (fun k hk => hf k (by
    rcases hk with h | h | h
    · exact .inl h
    · exact .inr (.inr (.inl h))
    · exact .inr (.inr (.inr (.inl h))))),
    owns_same h.at_ (fun k hk => hf k (by simp only [Value.ownBlock, Option.some.injEq] at hk; exact .inr (.inr (.inr (.inr (.inl hk.symm)))))),
    owns_same h.tu (fun k hk => hf k (by simp only [Value.ownBlock, Option.some.injEq] at hk; exact .inr (.inr (.inr (.inr (.inr hk.symm)))))), h.apart, h.small⟩
theorem IsW.lt (h : IsW w b D N) : ∀ k, k = b.G ∨ b.ft k → k < w.heap.size := by
  have hl := h.fi.lt
  rintro k (rfl | rfl | rfl | rfl | rfl | rfl)
  · exact hl.1
  · exact lt_of_block h.obj
  · exact hl.2.1
  · exact hl.2.2
  · exact (h.at_.lt _ rfl).2
  · exact (h.tu.lt _ rfl).2
theorem IsW.below (h : IsW w b D N) (hb : Below w.heap.size w w') : IsW w' b D N := h.frame (fun k hk => hb.block k (h.lt k hk))
theorem IsW.c0 (h : IsW w b D N) : w.cell? ⟨b.s, 0, none⟩ = some (.pointer (some ⟨b.G, 0, none⟩)) := blk_cell h.obj 0
theorem IsW.c1 (h : IsW w b D N) : w.cell? ⟨b.s, 1, none⟩ = some (.slice (some ⟨b.ba, 0, none⟩) N N) := blk_cell h.obj 1
theorem IsW.c2 (h : IsW w b D N) : w.cell? ⟨b.s, 2, none⟩ = some (.slice (some ⟨b.bt, 0, none⟩) N N) := blk_cell h.obj 2
theorem IsW.c3 (h : IsW w b D N) : w.cell? ⟨b.s, 3, none⟩ = some (.int .i64 D.now) := blk_cell h.obj 3
theorem IsW.al (h : IsW w b D N) : D.at_.length = N := by have := h.at_.1; rw [ints_len] at this; omega
theorem IsW.tl (h : IsW w b D N) : D.turn.length = N := by have := h.tu.1; rw [ints_len] at this; omega
theorem IsW.actF {L' : List (List Nat)} (h : IsW w b D N) (hf : IsF w' b.G b.bq b.bn L' N) (hx : Ext w w' (FqF b.bq b.bn)) : IsW w' b { D with L := L' } N ∧ Ext w w' b.ft := by
  obtain ⟨c, c1, c2, c3, c4, c5, c6⟩ := h.apart
  have hk : ∀ k, c k ≠ 2 → k < w.heap.size → w'.heap[k]? = w.heap[k]? := fun k hc hl => hx.block k hl (fun e => hc (by rcases e with rfl | rfl <;> assumption))
  refine ⟨⟨(hk _ (by omega) (h.lt _ (.inr (.inl rfl)))).trans h.obj, hf, owns_same h.at_ (fun k hkk => hk k ?_ (h.at_.lt k hkk).2), owns_same h.tu (fun k hkk => hk k ?_ (h.tu.lt k hkk).2), h.apart, h.small⟩, hx.mono (fun i _ e => ?_)⟩
  · simp only [Value.ownBlock, Option.some.injEq] at hkk; subst hkk; omega
  · simp only [Value.ownBlock, Option.some.injEq] at hkk; subst hkk; omega
  · rcases e with rfl | rfl
    · exact .inr (.inl rfl)
    · exact .inr (.inr (.inl rfl))
theorem IsW.setAt (h : IsW w b D N) (i : Nat) (x : Int) : IsW (w.setCell ⟨b.ba, i, none⟩ (.int .i64 x)) b { D with at_ := D.at_.set i x } N := by
  obtain ⟨c, c1, c2, c3, c4, c5, c6⟩ := h.apart
  have hk : ∀ k, c k ≠ 3 → (w.setCell ⟨b.ba, i, none⟩ (.int .i64 x)).heap[k]? = w.heap[k]? := fun k hc => heap_setCell_other _ _ _ _ (fun e => by subst e; exact hc c5)
  refine ⟨(hk _ (by omega)).trans h.obj, h.fi.frame (fun k hkk => hk k (by rcases hkk with rfl | rfl | rfl <;> omega)), ?_, owns_same h.tu (fun k hkk => hk k ?_), h.apart, h.small⟩
  · rw [ints_set]
    exact (h.at_.stored i (.int .i64 x)).1
  · simp only [Value.ownBlock, Option.some.injEq] at hkk; subst hkk; omega
theorem IsW.setTu (h : IsW w b D N) (i : Nat) (x : Int) : IsW (w.setCell ⟨b.bt, i, none⟩ (.int .i64 x)) b { D with turn := D.turn.set i x } N := by
  obtain ⟨c, c1, c2, c3, c4, c5, c6⟩ := h.apart
  have hk : ∀ k, c k ≠ 4 → (w.setCell ⟨b.bt, i, none⟩ (.int .i64 x)).heap[k]? = w.heap[k]? := fun k hc => heap_setCell_other _ _ _ _ (fun e => by subst e; exact hc c6)
  refine ⟨(hk _ (by omega)).trans h.obj, h.fi.frame (fun k hkk => hk k (by rcases hkk with rfl | rfl | rfl <;> omega)), owns_same h.at_ (fun k hkk => hk k ?_), ?_, h.apart, h.small⟩
  · simp only [Value.ownBlock, Option.some.injEq] at hkk; subst hkk; omega
  · rw [ints_set]
    exact (h.tu.stored i (.int .i64 x)).1
theorem IsW.setNow (h : IsW w b D N) (x : Int) : IsW (w.setCell ⟨b.s, 3, none⟩ (.int .i64 x)) b { D with now := x } N := by
  obtain ⟨c, c1, c2, c3, c4, c5, c6⟩ := h.apart
  have hk : ∀ k, c k ≠ 1 → (w.setCell ⟨b.s, 3, none⟩ (.int .i64 x)).heap[k]? = w.heap[k]? := fun k hc => heap_setCell_other _ _ _ _ (fun e => by subst e; exact hc c1)
  refine ⟨?_, h.fi.frame (fun k hkk => hk k (by rcases hkk with rfl | rfl | rfl <;> omega)), owns_same h.at_ (fun k hkk => hk k ?_), owns_same h.tu (fun k hkk => hk k ?_), h.apart, h.small⟩
  · have := blk_set h.obj 3 (.int .i64 x)
    simpa using this
  · simp only [Value.ownBlock, Option.some.injEq] at hkk; subst hkk; omega
  · simp only [Value.ownBlock, Option.some.injEq] at hkk; subst hkk; omega
end

/-- Timers at b, N of them; M: those that are set, by when they are due; n: how often any was set. -/
def IsM (w : World) (b : WB) (N : Nat) (M : List (Int × Nat)) (n : Nat) : Prop := ∃ D, IsW w b D N ∧ WOk N D M ∧ 0 ≤ D.now ∧ D.now ≤ n
section
variable {w w' : World} {b : WB} {N n : Nat} {M : List (Int × Nat)}
theorem IsM.below (h : IsM w b N M n) (hb : Below w.heap.size w w') : IsM w' b N M n := by
  obtain ⟨D, h1, h2⟩ := h
  exact ⟨D, h1.below hb, h2⟩
theorem IsM.lt (h : IsM w b N M n) : ∀ k, k = b.G ∨ b.ft k → k < w.heap.size := by
  obtain ⟨D, h1, h2⟩ := h
  exact h1.lt
theorem theld_calls (t : Int) (w : World) (_ : t ≤ 9223372036854775807) : Calls Try.prog 34 #[.int .i64 t] w fun e w' => e = .returned (.int .i64 (heldT t)) ∧ w = w' := by
  unfold heldT
  go_enter Try.func34, Try.ntmps34
  go_wp2
  go_ret
  exact ⟨rfl, rfl⟩
theorem add_calls (t d : Int) (w : World) (ht : t ≤ 9223372036854775807) (_ : -9223372036854775808 ≤ d) (_ : d ≤ 9223372036854775807) : Calls Try.prog 24 #[.int .i64 t, .int .i64 d] w fun e w' => e = .returned (.int .i64 (heldT t + max 0 (min d (4611686018427387904 - heldT t)))) ∧ w = w' := by
  have hh := theld_calls t w ht
  obtain ⟨h1, h2⟩ := heldT_bd t
  generalize heldT t = a at *
  go_enter Try.func24, Try.ntmps24
  go_wp2_with fail
  refine hh.mono ?_
  rintro e w' ⟨rfl, rfl⟩
  go_wp2_with fail
  go_ret
  exact ⟨by first | rfl | (congr 2; omega), rfl⟩
theorem add0_calls (t : Int) (w : World) (h : t ≤ 9223372036854775807) : Calls Try.prog 24 #[.int .i64 t, .int .i64 0] w fun e w' => e = .returned (.int .i64 (heldT t)) ∧ w = w' := by
  have := add_calls t 0 w h (by omega) (by omega)
  obtain ⟨h1, h2⟩ := heldT_bd t
  rw [show heldT t + max 0 (min 0 (4611686018427387904 - heldT t)) = heldT t by omega] at this
  exact this
theorem wstop_calls (h : IsM w b N M n) (x : Int) :
    Calls Try.prog 13 #[.pointer (some ⟨b.s, 0, none⟩), .int .i64 x] w fun e w' => e = .returned (.bool (hasM M x)) ∧ IsM w' b N (stopM M x) n ∧ Ext w w' b.ft := by
  obtain ⟨D, h1, h2, h3, h4⟩ := h
  obtain ⟨k1, k2⟩ := h2.stop x
  have c0 := h1.c0
  have hc := remove_calls h1.fi x
  rw [k2] at hc
  have HC := Lib.hid hc
  have H1 := Lib.hid h1
  have HK := Lib.hid (And.intro k1 (And.intro h3 h4))
  generalize hasM M x = ok at HC ⊢
  clear h1 h2 h3 h4 k1 k2 hc
  go_enter Try.func13, Try.ntmps13
  go_wp2_with fail
  refine HC.out.mono ?_
  rintro e w1 ⟨rfl, hf, hx⟩
  have HS := Lib.hid (H1.out.actF hf hx)
  clear hf hx
  go_wp2_with fail
  go_ret
  exact ⟨rfl, ⟨_, HS.out.1, HK.out.1, HK.out.2.1, HK.out.2.2⟩, HS.out.2⟩
/-- What At tells. -/
def atM (M : List (Int × Nat)) (x : Int) : Int × Bool := match M.find? (fun p => decide ((p.2 : Int) = x)) with | some p => (p.1, true) | none => (0, false)
theorem wat_calls (h : IsM w b N M n) (x : Int) :
    Calls Try.prog 20 #[.pointer (some ⟨b.s, 0, none⟩), .int .i64 x] w fun e w' => e = .returned (.tuple #[.int .i64 (atM M x).1, .bool (atM M x).2]) ∧ w = w' := by
  obtain ⟨D, h1, h2, h3, h4⟩ := h
  have c0 := h1.c0
  have c1 := h1.c1
  have hw := where_calls h1.fi x
  cases hf : M.find? (fun p => decide ((p.2 : Int) = x)) with
  | none =>
    have hv : atM M x = (0, false) := by unfold atM; rw [hf]
    have hno : hasM M x = false := by
      unfold hasM
      rw [List.any_eq_false]
      intro p hp
      have := (List.find?_eq_none.1 hf) p hp
      simpa using this
    rw [hv]
    rw [h2.where x (.inr hno)] at hw
    have HW := Lib.hid hw
    clear h1 h2 h3 h4 hf hv hno hw
    go_enter Try.func20, Try.ntmps20
    go_wp2_with fail
    refine HW.out.mono ?_
    rintro e w' ⟨rfl, rfl⟩
    go_wp2_with fail
    go_ret2
    exact ⟨rfl, rfl⟩
  | some p =>
    have hv : atM M x = (p.1, true) := by unfold atM; rw [hf]
    have hp := List.mem_of_find?_eq_some hf
    have hpx : (p.2 : Int) = x := by have := List.find?_some hf; simpa using this
    obtain ⟨q1, q2, q3, q4, l, hl, hxl⟩ := h2.ent p.1 p.2 hp
    have hwh := (isF_where h1.fi hl hxl).1
    rw [hpx] at hwh
    rw [hwh] at hw
    rw [hv, ← hpx]
    rw [← hpx] at hw
    have kx := owns_int h1.at_ q2
    generalize p.2 = y at *
    generalize p.1 = a at *
    have HW := Lib.hid hw
    have yz : (0 : Int) ≤ (y : Int) := Int.natCast_nonneg _
    have hs := h1.small
    have m0 : ((a % 16).toNat : Int) = a % 16 := by omega
    rw [m0] at HW
    have m1 : 0 ≤ a % 16 := by omega
    clear h1 h2 h3 h4 hf hv hp hpx hwh hw hl hxl q2 m0
    go_enter Try.func20, Try.ntmps20
    go_wp2_with fail
    refine HW.out.mono ?_
    rintro e w' ⟨rfl, rfl⟩
    go_wp2_with fail
    go_ret2
    exact ⟨rfl, rfl⟩
end
end Go.Proofs.Ytajhfjgndkdbnaa
