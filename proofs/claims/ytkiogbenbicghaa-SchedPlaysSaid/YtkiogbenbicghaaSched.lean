/- What sched.Sched is in memory, and what Place, Ready, Block, Yield, Exit, Tasks do; the nil ones too. Condition of each: it lies in memory (IsS); the handle fits its kind. -/
import Derived.Test.YtkiogbenbicghaaOnePure
import Derived.Test.YtkiogbenbicghaaInts
import Derived.Deep.RegionHeld3
import Derived.Deep.RegionLaw
import Derived.Deep.RegionWith
import Derived.Deep.LoopGhost
import Derived.Deep.CutBlock
import Derived.Deep.DeepCutAuto
import Derived.Test.YtkiogbenbicghaaArenaPure
namespace Go.Proofs.Ytkiogbenbicghaa
open Go.RowKit BigFrame

/-- The blocks of a Sched. -/
structure SB where
  s : Nat
  g : Nat
  G : Nat
  bq : Nat
  bn : Nat
  bw : Nat
  F : Nat → Prop
/-- What its methods may turn. -/
def SB.ft (b : SB) (k : Nat) : Prop := b.F k ∨ k = b.bq ∨ k = b.bn ∨ k = b.bw
structure IsS (w : World) (b : SB) (A : Ar) (l : List Nat) (who : List Int) : Prop where
  obj : w.heap[b.s]? = some (.cells #[.pointer (some ⟨b.g, 0, none⟩), .pointer (some ⟨b.G, 0, none⟩), .slice (some ⟨b.bw, 0, none⟩) who.length who.length] 81 (0, 0))
  ar : IsArena w b.g A b.F
  fi : IsF w b.G b.bq b.bn [l] who.length
  wh : w.ownsRow 0 3 1 (.slice (some ⟨b.bw, 0, none⟩) who.length who.length) who.length (ints who)
  apart : ∃ c : Nat → Nat, (∀ k, b.F k → c k = 1) ∧ c b.G = 2 ∧ c b.bq = 2 ∧ c b.bn = 2 ∧ c b.bw = 3 ∧ c b.s = 4
  size : who.length = A.list.length
  small : who.length ≤ 16
section
variable {w w' : World} {b : SB} {A A' : Ar} {l l' : List Nat} {who who' : List Int}
theorem IsS.frame (h : IsS w b A l who) (hf : ∀ k, k = b.s ∨ k = b.G ∨ b.ft k → w'.heap[k]? = w.heap[k]?) : IsS w' b A l who :=
  ⟨(hf _ (.inl rfl)).trans h.obj, h.ar.frame (fun k hk => hf k (.inr (.inr (.inl hk)))), h.fi.frame (fun k hk => hf k (by
    rcases hk with h | h | h
    · exact .inr (.inl h)
    · exact .inr (.inr (.inr (.inl h)))
    · exact .inr (.inr (.inr (.inr (.inl h)))))), owns_same h.wh (fun k hk => hf k (by simp only [Value.ownBlock, Option.some.injEq] at hk; exact .inr (.inr (.inr (.inr (.inr hk.symm)))))), h.apart, h.size, h.small⟩
theorem IsS.lt (h : IsS w b A l who) : ∀ k, k = b.s ∨ k = b.G ∨ b.ft k → k < w.heap.size := by
  have hl := h.fi.lt
  rintro k (rfl | rfl | h1 | rfl | rfl | rfl)
  · exact lt_of_block h.obj
  · exact hl.1
  · exact h.ar.lt k h1
  · exact hl.2.1
  · exact hl.2.2
  · exact (h.wh.lt _ rfl).2
theorem IsS.below (h : IsS w b A l who) (hb : Below w.heap.size w w') : IsS w' b A l who := h.frame (fun k hk => hb.block k (h.lt k hk))
theorem IsS.drew (h : IsS w b A l who) : IsS w.drew b A l who := h.frame (fun _ _ => rfl)
theorem IsS.drewN (h : IsS w b A l who) (n : Nat) : IsS (w.drewN n) b A l who := h.frame (fun _ _ => rfl)
theorem Ext.undrew {w w' : World} {F : Nat → Prop} (h : Ext w.drew w' F) : Ext w w' F := ⟨h.os, h.tape, h.output, h.size, h.block⟩
theorem IsS.c0 (h : IsS w b A l who) : w.cell? ⟨b.s, 0, none⟩ = some (.pointer (some ⟨b.g, 0, none⟩)) := blk_cell h.obj 0
theorem IsS.c1 (h : IsS w b A l who) : w.cell? ⟨b.s, 1, none⟩ = some (.pointer (some ⟨b.G, 0, none⟩)) := blk_cell h.obj 1
theorem IsS.c2 (h : IsS w b A l who) : w.cell? ⟨b.s, 2, none⟩ = some (.slice (some ⟨b.bw, 0, none⟩) who.length who.length) := blk_cell h.obj 2
/-- The arena alone was turned. -/
theorem IsS.actA (h : IsS w b A l who) (ha : IsArena w' b.g A' b.F) (hx : Ext w w' b.F) (hs : A'.list.length = A.list.length) : IsS w' b A' l who ∧ Ext w w' b.ft := by
  obtain ⟨c, c1, c2, c3, c4, c5, c6⟩ := h.apart
  have hk : ∀ k, c k ≠ 1 → k < w.heap.size → w'.heap[k]? = w.heap[k]? := fun k hc hl => hx.block k hl (fun e => hc (c1 k e))
  refine ⟨⟨(hk _ (by omega) (h.lt _ (.inl rfl))).trans h.obj, ha, h.fi.frame (fun k hkk => hk k ?_ ?_), owns_same h.wh (fun k hkk => hk k ?_ (h.wh.lt k hkk).2), h.apart, by rw [hs]; exact h.size, h.small⟩, hx.mono (fun _ _ => .inl)⟩
  · rcases hkk with rfl | rfl | rfl <;> omega
  · have := h.fi.lt; omega
  · simp only [Value.ownBlock, Option.some.injEq] at hkk; subst hkk; omega
theorem IsS.actF (h : IsS w b A l who) (hf : IsF w' b.G b.bq b.bn [l'] who.length) (hx : Ext w w' (FqF b.bq b.bn)) : IsS w' b A l' who ∧ Ext w w' b.ft := by
  obtain ⟨c, c1, c2, c3, c4, c5, c6⟩ := h.apart
  have hk : ∀ k, c k ≠ 2 → k < w.heap.size → w'.heap[k]? = w.heap[k]? := fun k hc hl => hx.block k hl (fun e => hc (by rcases e with rfl | rfl <;> assumption))
  refine ⟨⟨(hk _ (by omega) (h.lt _ (.inl rfl))).trans h.obj, h.ar.frame (fun k hkk => hk k ?_ (h.ar.lt k hkk)), hf, owns_same h.wh (fun k hkk => hk k ?_ (h.wh.lt k hkk).2), h.apart, h.size, h.small⟩, hx.mono (fun i _ e => ?_)⟩
  · have := c1 k hkk; omega
  · simp only [Value.ownBlock, Option.some.injEq] at hkk; subst hkk; omega
  · rcases e with rfl | rfl
    · exact .inr (.inl rfl)
    · exact .inr (.inr (.inl rfl))
theorem IsS.setWho (h : IsS w b A l who) (i : Nat) (x : Int) : IsS (w.setCell ⟨b.bw, i, none⟩ (.int .i64 x)) b A l (who.set i x) ∧ Ext w (w.setCell ⟨b.bw, i, none⟩ (.int .i64 x)) b.ft := by
  obtain ⟨c, c1, c2, c3, c4, c5, c6⟩ := h.apart
  have hk : ∀ k, c k ≠ 3 → (w.setCell ⟨b.bw, i, none⟩ (.int .i64 x)).heap[k]? = w.heap[k]? := fun k hc => heap_setCell_other _ _ _ _ (fun e => by subst e; exact hc c5)
  refine ⟨⟨?_, h.ar.frame (fun k hkk => hk k (by have := c1 k hkk; omega)), ?_, ?_, h.apart, by simpa using h.size, by simpa using h.small⟩, (Ext.refl w b.ft).setCell (fun _ => .inr (.inr (.inr rfl))) _⟩
  · rw [List.length_set]; exact (hk _ (by omega)).trans h.obj
  · rw [List.length_set]
    exact h.fi.frame (fun k hkk => hk k (by rcases hkk with rfl | rfl | rfl <;> omega))
  · rw [List.length_set, ints_set]
    exact (h.wh.stored i (.int .i64 x)).1
end

def pushS (l : List Nat) (p : Nat) : Bool × List Nat := if p ∈ l then (false, l) else (true, l ++ [p])
def cutS (l : List Nat) (p : Nat) : Bool × List Nat := if p ∈ l then (true, l.erase p) else (false, l)
theorem pushL_one (l : List Nat) (N p : Nat) (hp : p < N) : pushL [l] N 0 p = ((pushS l p).1, [(pushS l p).2]) := by
  unfold pushL pushS
  by_cases h : p ∈ l
  · rw [if_pos h, if_neg (by simp [hasL, h])]
  · rw [if_neg h, if_pos ⟨Int.le_refl _, by simp, by omega, by omega, by simp [hasL, h]⟩]
    simp
theorem removeL_one (l : List Nat) (p : Nat) : removeL [l] p = ((cutS l p).1, [(cutS l p).2]) := by
  unfold removeL cutS
  by_cases h : p ∈ l
  · rw [if_pos h, if_pos ⟨by omega, by simp [hasL, h]⟩]
    simp
  · rw [if_neg h, if_neg (by simp [hasL, h])]
/-- The states behind Ready and Block. -/
def rdyS (A : Ar) (l : List Nat) (t : Int) : Bool × List Nat := if A.place t < 0 then (false, l) else pushS l (A.place t).toNat
def blkS (A : Ar) (l : List Nat) (t : Int) : Bool × List Nat := if A.place t < 0 then (false, l) else cutS l (A.place t).toNat

section
variable {w : World} {b : SB} {A : Ar} {l : List Nat} {who : List Int}
set_option maxHeartbeats 4000000 in
theorem splace_calls (h : IsS w b A l who) (t : Int) (ht : t ≤ 9223372036854775807) :
    Calls Try.prog 36 #[.pointer (some ⟨b.s, 0, none⟩), .int .i64 t] w fun e w' => e = .returned (.int .i64 (A.place t)) ∧ w = w' := by
  have c0 := h.c0
  have hp := place_calls h.ar t ht
  clear h
  go_enter Try.func36, Try.ntmps36
  go_wp2_with fail
  refine hp.mono ?_
  rintro e w1 ⟨rfl, rfl⟩
  go_wp2_with fail
  go_ret
  exact ⟨rfl, rfl⟩
set_option maxRecDepth 100000 in
set_option maxHeartbeats 4000000 in
theorem sready_calls (h : IsS w b A l who) (t : Int) (ht : t ≤ 9223372036854775807) :
    Calls Try.prog 35 #[.pointer (some ⟨b.s, 0, none⟩), .int .i64 t] w fun e w' => e = .returned (.bool (rdyS A l t).1) ∧ IsS w' b A (rdyS A l t).2 who ∧ Ext w w' b.ft := by
  have c1 := h.c1
  have hp := fun (n : Nat) => splace_calls (h.drewN n) t ht
  have hp1 := splace_calls h.drew t ht
  have hrg := A.place_range t
  have hsz := h.size
  have H := Lib.hid h
  by_cases h0 : A.place t < 0
  · have hv : rdyS A l t = (false, l) := by unfold rdyS; rw [if_pos h0]
    rw [hv]
    rw [show A.place t = -1 by omega] at hp hp1
    have HX := Lib.hid (Ext.refl w b.ft)
    have HP := Lib.hid hp
    have HP1 := Lib.hid hp1
    clear h hv hrg h0 hsz hp hp1
    go_enter Try.func35, Try.ntmps35
    go_wp2_with fail
    go_big_quiet ((go_at_call 36; exact quiet_eq (HP.out _)))
    go_wp2_with fail
    go_ret
    exact ⟨rfl, H.out.drewN _, HX.out.drewN _⟩
  · obtain ⟨p, hpp⟩ : ∃ p : Nat, A.place t = p := ⟨(A.place t).toNat, by omega⟩
    have hv : rdyS A l t = pushS l p := by unfold rdyS; rw [if_neg h0, hpp]; simp
    rw [hv]
    rw [hpp] at hp hp1 hrg
    have hpush := push_calls h.drew.fi 0 p
    rw [pushL_one l _ p (by omega)] at hpush
    have HP1 := Lib.hid hp1
    have HPU := Lib.hid hpush
    have pz : decide ((0 : Int) ≤ (p : Int)) = true := decide_eq_true (Int.natCast_nonneg _)
    generalize pushS l p = r at HPU
    clear h hv hrg h0 hsz hp hp1 hpush hpp
    obtain ⟨r1, r2⟩ := r
    go_enter Try.func35, Try.ntmps35
    go_wp2_with fail
    go_region_held3 (fun w' => w'.cell? ⟨b.s, 1, none⟩ = some (.pointer (some ⟨b.G, 0, none⟩))) (first | go_keep | exact hkc) (first | (go_at_call 36; refine HP1.out.mono ?_; rintro e w1 ⟨rfl, rfl⟩) | (go_at_call 19; refine HPU.out.mono ?_; rintro e w2 ⟨rfl, hf2, hx2⟩; have HS2 := Lib.hid (H.out.drew.actF hf2 hx2); have hkc := HS2.out.1.c1; clear hf2 hx2))
    all_goals go_wp2_with fail
    all_goals go_ret
    all_goals exact ⟨rfl, HS2.out.1, HS2.out.2.undrew⟩
set_option maxRecDepth 100000 in
set_option maxHeartbeats 4000000 in
theorem sblock_calls (h : IsS w b A l who) (t : Int) (ht : t ≤ 9223372036854775807) :
    Calls Try.prog 33 #[.pointer (some ⟨b.s, 0, none⟩), .int .i64 t] w fun e w' => e = .returned (.bool (blkS A l t).1) ∧ IsS w' b A (blkS A l t).2 who ∧ Ext w w' b.ft := by
  have c1 := h.c1
  have hp := fun (n : Nat) => splace_calls (h.drewN n) t ht
  have hp1 := splace_calls h.drew t ht
  have hrg := A.place_range t
  have hsz := h.size
  have H := Lib.hid h
  by_cases h0 : A.place t < 0
  · have hv : blkS A l t = (false, l) := by unfold blkS; rw [if_pos h0]
    rw [hv]
    rw [show A.place t = -1 by omega] at hp hp1
    have HX := Lib.hid (Ext.refl w b.ft)
    have HP := Lib.hid hp
    have HP1 := Lib.hid hp1
    clear h hv hrg h0 hsz hp hp1
    go_enter Try.func33, Try.ntmps33
    go_wp2_with fail
    go_big_quiet ((go_at_call 36; exact quiet_eq (HP.out _)))
    go_wp2_with fail
    go_ret
    exact ⟨rfl, H.out.drewN _, HX.out.drewN _⟩
  · obtain ⟨p, hpp⟩ : ∃ p : Nat, A.place t = p := ⟨(A.place t).toNat, by omega⟩
    have hv : blkS A l t = cutS l p := by unfold blkS; rw [if_neg h0, hpp]; simp
    rw [hv]
    rw [hpp] at hp hp1 hrg
    have hpush := remove_calls h.drew.fi p
    rw [removeL_one l p] at hpush
    have HP1 := Lib.hid hp1
    have HPU := Lib.hid hpush
    have pz : decide ((0 : Int) ≤ (p : Int)) = true := decide_eq_true (Int.natCast_nonneg _)
    generalize cutS l p = r at HPU
    clear h hv hrg h0 hsz hp hp1 hpush hpp
    obtain ⟨r1, r2⟩ := r
    go_enter Try.func33, Try.ntmps33
    go_wp2_with fail
    go_region_held3 (fun w' => w'.cell? ⟨b.s, 1, none⟩ = some (.pointer (some ⟨b.G, 0, none⟩))) (first | go_keep | exact hkc) (first | (go_at_call 36; refine HP1.out.mono ?_; rintro e w1 ⟨rfl, rfl⟩) | (go_at_call 17; refine HPU.out.mono ?_; rintro e w2 ⟨rfl, hf2, hx2⟩; have HS2 := Lib.hid (H.out.drew.actF hf2 hx2); have hkc := HS2.out.1.c1; clear hf2 hx2))
    all_goals go_wp2_with fail
    all_goals go_ret
    all_goals exact ⟨rfl, HS2.out.1, HS2.out.2.undrew⟩

def yldS (A : Ar) (l : List Nat) (t : Int) : Bool × List Nat := if (blkS A l t).1 = true then rdyS A (blkS A l t).2 t else (false, (blkS A l t).2)
set_option maxRecDepth 100000 in
set_option maxHeartbeats 4000000 in
theorem syield_calls (h : IsS w b A l who) (t : Int) (ht : t ≤ 9223372036854775807) :
    Calls Try.prog 31 #[.pointer (some ⟨b.s, 0, none⟩), .int .i64 t] w fun e w' => e = .returned (.bool (yldS A l t).1) ∧ IsS w' b A (yldS A l t).2 who ∧ Ext w w' b.ft := by
  have HB := Lib.hid (sblock_calls h t ht)
  have HV := Lib.hid (show yldS A l t = if (blkS A l t).1 = true then rdyS A (blkS A l t).2 t else (false, (blkS A l t).2) from rfl)
  clear h
  generalize blkS A l t = r at HB HV
  obtain ⟨r1, l1⟩ := r
  cases r1
  · have HV2 := Lib.hid (show yldS A l t = (false, l1) from HV.out)
    rw [HV2.out]
    go_enter Try.func31, Try.ntmps31
    go_wp2_with fail
    refine HB.out.mono ?_
    rintro e w1 ⟨rfl, hs1, hx1⟩
    have HS1 := Lib.hid (And.intro hs1 hx1)
    clear hs1 hx1
    go_wp2_with fail
    go_ret
    exact ⟨rfl, HS1.out⟩
  · have HV2 := Lib.hid (show yldS A l t = rdyS A l1 t from HV.out)
    rw [HV2.out]
    go_enter Try.func31, Try.ntmps31
    go_wp2_with fail
    refine HB.out.mono ?_
    rintro e w1 ⟨rfl, hs1, hx1⟩
    have hr := sready_calls hs1 t ht
    have HX1 := Lib.hid hx1
    clear hs1 hx1
    go_wp2_with fail
    refine hr.mono ?_
    rintro e w2 ⟨rfl, hs2, hx2⟩
    have HS2 := Lib.hid (And.intro hs2 (HX1.out.then hx2))
    clear hs2 hx2 hr
    go_wp2_with fail
    go_ret
    exact ⟨rfl, HS2.out⟩
def extS (A : Ar) (l : List Nat) (t : Int) : Bool × Ar × List Nat := if A.place t < 0 then (false, A, l) else ((A.giveBack t).1, (A.giveBack t).2, (blkS A l t).2)
theorem giveBack_size (A : Ar) (t : Int) : (A.giveBack t).2.list.length = A.list.length := by
  unfold Ar.giveBack
  split
  · rfl
  · unfold Ar.back
    split <;> simp
set_option maxRecDepth 100000 in
set_option maxHeartbeats 4000000 in
theorem sexit_calls (h : IsS w b A l who) (t : Int) (ht : t ≤ 9223372036854775807) :
    Calls Try.prog 34 #[.pointer (some ⟨b.s, 0, none⟩), .int .i64 t] w fun e w' => e = .returned (.bool (extS A l t).1) ∧ IsS w' b (extS A l t).2.1 (extS A l t).2.2 who ∧ Ext w w' b.ft := by
  have HP := Lib.hid (splace_calls h t ht)
  have HB := Lib.hid (sblock_calls h t ht)
  have H := Lib.hid h
  have hrg := A.place_range t
  by_cases h0 : A.place t < 0
  · have hv : extS A l t = (false, A, l) := by unfold extS; rw [if_pos h0]
    rw [hv]
    rw [show A.place t = -1 by omega] at HP
    have HX := Lib.hid (Ext.refl w b.ft)
    clear h hv h0 hrg
    go_enter Try.func34, Try.ntmps34
    go_wp2_with fail
    refine HP.out.mono ?_
    rintro e w1 ⟨rfl, rfl⟩
    go_wp2_with fail
    go_ret
    exact ⟨rfl, H.out, HX.out⟩
  · have hv : extS A l t = ((A.giveBack t).1, (A.giveBack t).2, (blkS A l t).2) := by unfold extS; rw [if_neg h0]
    rw [hv]
    obtain ⟨p, hpp⟩ : ∃ p : Nat, A.place t = p := ⟨(A.place t).toNat, by omega⟩
    rw [hpp] at HP
    have pz : (0 : Int) ≤ (p : Int) := Int.natCast_nonneg _
    have HSZ := Lib.hid (giveBack_size A t)
    clear h hv h0 hrg hpp
    generalize blkS A l t = r at HB
    go_enter Try.func34, Try.ntmps34
    go_wp2_with fail
    refine HP.out.mono ?_
    rintro e w1 ⟨rfl, rfl⟩
    go_wp2_with fail
    refine HB.out.mono ?_
    rintro e w2 ⟨rfl, hs2, hx2⟩
    have HS2 := Lib.hid hs2
    have HX2 := Lib.hid hx2
    have c0 := hs2.c0
    have hfr := free_calls hs2.ar t ht
    clear hs2 hx2
    go_wp2_with fail
    refine hfr.mono ?_
    rintro e w3 ⟨rfl, ha3, hx3⟩
    have HS3 := Lib.hid (HS2.out.actA ha3 hx3 HSZ.out)
    clear hfr ha3 hx3
    go_wp2_with fail
    go_ret
    exact ⟨rfl, HS3.out.1, HX2.out.then HS3.out.2⟩
set_option maxHeartbeats 4000000 in
theorem stasks_calls (h : IsS w b A l who) :
    Calls Try.prog 46 #[.pointer (some ⟨b.s, 0, none⟩)] w fun e w' => ∃ v, e = .returned v ∧ Reads w' 1 v A.live.length (ints A.live) ∧ (∀ k, v.ownBlock = some k → w.heap.size ≤ k) ∧ Below w.heap.size w w' := by
  have c0 := h.c0
  have hl := live_calls h.ar
  clear h
  go_enter Try.func46, Try.ntmps46
  go_wp2_with fail
  refine hl.mono ?_
  rintro e w1 ⟨v, rfl, h1, h2, h3⟩
  have H := Lib.hid (And.intro h1 (And.intro h2 h3))
  clear h1 h2 h3 hl
  go_wp2_with fail
  go_ret
  exact ⟨v, rfl, H.out⟩
end
end Go.Proofs.Ytkiogbenbicghaa
