/- What sched's methods do on nil, and awake of parcloselaw09. No condition. -/
import Derived.Test.YtkiogbenbicghaaSched3
namespace Go.Proofs.Ytkiogbenbicghaa
open Go.RowKit BigFrame

set_option maxHeartbeats 4000000 in
theorem splace_nil (t : Int) (w : World) : Calls Try.prog 36 #[.pointer none, .int .i64 t] w fun e w' => e = .returned (.int .i64 (-1)) ∧ w = w' := by
  go_enter Try.func36, Try.ntmps36
  go_wp2_with fail
  go_ret
  exact ⟨rfl, rfl⟩
set_option maxHeartbeats 4000000 in
theorem sspawn_nil (w : World) : Calls Try.prog 28 #[.pointer none] w fun e w' => e = .returned (.tuple #[.int .i64 0, .bool false]) ∧ w = w' := by
  go_enter Try.func28, Try.ntmps28
  go_wp2_with fail
  go_ret2
  exact ⟨rfl, rfl⟩
set_option maxHeartbeats 4000000 in
theorem srun_nil (w : World) : Calls Try.prog 29 #[.pointer none] w fun e w' => e = .returned (.slice none 0 0) ∧ w = w' := by
  go_enter Try.func29, Try.ntmps29
  go_wp2_with fail
  go_ret
  exact ⟨rfl, rfl⟩
set_option maxHeartbeats 4000000 in
theorem stasks_nil (w : World) : Calls Try.prog 46 #[.pointer none] w fun e w' => e = .returned (.slice none 0 0) ∧ w = w' := by
  go_enter Try.func46, Try.ntmps46
  go_wp2_with fail
  go_ret
  exact ⟨rfl, rfl⟩
set_option maxHeartbeats 4000000 in
theorem sexit_nil (t : Int) (w : World) : Calls Try.prog 34 #[.pointer none, .int .i64 t] w fun e w' => e = .returned (.bool false) ∧ w = w' := by
  go_enter Try.func34, Try.ntmps34
  go_wp2_with fail
  refine (splace_nil t _).mono ?_
  rintro e w' ⟨rfl, rfl⟩
  go_wp2_with fail
  go_ret
  exact ⟨rfl, rfl⟩
set_option maxHeartbeats 4000000 in
theorem sready_nil (t : Int) (w : World) : Calls Try.prog 35 #[.pointer none, .int .i64 t] w fun e w' => e = .returned (.bool false) ∧ ∃ m, w' = w.drewN m := by
  have hq := fun m : Nat => splace_nil t (w.drewN m)
  have HQ := Lib.hid hq
  clear hq
  go_enter Try.func35, Try.ntmps35
  go_wp2_with fail
  go_big_quiet ((go_at_call 36; exact quiet_eq (HQ.out _)))
  go_wp2_with fail
  go_ret
  exact ⟨rfl, _, rfl⟩
set_option maxHeartbeats 4000000 in
theorem sblock_nil (t : Int) (w : World) : Calls Try.prog 33 #[.pointer none, .int .i64 t] w fun e w' => e = .returned (.bool false) ∧ ∃ m, w' = w.drewN m := by
  have hq := fun m : Nat => splace_nil t (w.drewN m)
  have HQ := Lib.hid hq
  clear hq
  go_enter Try.func33, Try.ntmps33
  go_wp2_with fail
  go_big_quiet ((go_at_call 36; exact quiet_eq (HQ.out _)))
  go_wp2_with fail
  go_ret
  exact ⟨rfl, _, rfl⟩
set_option maxHeartbeats 4000000 in
theorem syield_nil (t : Int) (w : World) : Calls Try.prog 31 #[.pointer none, .int .i64 t] w fun e w' => e = .returned (.bool false) ∧ ∃ m, w' = w.drewN m := by
  go_enter Try.func31, Try.ntmps31
  go_wp2_with fail
  refine (sblock_nil t _).mono ?_
  rintro e w' ⟨rfl, m, rfl⟩
  go_wp2_with fail
  go_ret
  exact ⟨rfl, _, rfl⟩
set_option maxHeartbeats 4000000 in
theorem spick_nil (t : Int) (w : World) : Calls Try.prog 30 #[.pointer none, .int .i64 t] w fun e w' => e = .returned (.tuple #[.int .i64 0, .bool false]) ∧ w = w' := by
  by_cases h : t < 0
  · go_enter Try.func30, Try.ntmps30
    go_wp2_with fail
    refine (srun_nil _).mono ?_
    rintro e w' ⟨rfl, rfl⟩
    go_wp2_with fail
    go_ret2
    exact ⟨rfl, rfl⟩
  · have h' : 0 ≤ t := by omega
    go_enter Try.func30, Try.ntmps30
    go_wp2_with fail
    refine (srun_nil _).mono ?_
    rintro e w' ⟨rfl, rfl⟩
    go_wp2_with fail
    go_ret2
    exact ⟨rfl, rfl⟩
theorem pick_any {rl : List Int} {n : Int} {x : Int} {ok : Bool} (h : pickS rl n = (x, ok)) {w : World} {b : SB} {A : Ar} {fs : List Nat} (ht : IsT w b A fs rl) :
    Calls Try.prog 30 #[.pointer (some ⟨b.s, 0, none⟩), .int .i64 n] w fun e w' => e = .returned (.tuple #[.int .i64 x, .bool ok]) ∧ IsT w' b A fs rl ∧ Below w.heap.size w w' := by
  have := tpick_calls ht n
  rw [h] at this
  exact this.mono fun _ _ ⟨h1, h2⟩ => ⟨h1, ht.below h2, h2⟩
theorem spawn_any {A A' : Ar} {t : Int} {ok : Bool} {rl rl' : List Int} (h : A.take.1 = t ∧ A.take.2.1 = ok ∧ spnA A = A' ∧ spnR A rl = rl') {w : World} {b : SB} {fs : List Nat} (ht : IsT w b A fs rl) :
    Calls Try.prog 28 #[.pointer (some ⟨b.s, 0, none⟩)] w fun e w' => e = .returned (.tuple #[.int .i64 t, .bool ok]) ∧ (ok = decide (fs ≠ []) ∧ IsT w' b A' fs.tail rl') ∧ Ext w w' b.ft := by
  obtain ⟨rfl, rfl, rfl, rfl⟩ := h
  exact (tspawn_calls ht).mono fun _ _ ⟨h1, h2, h3, h4⟩ => ⟨h1, ⟨h2, h3⟩, h4⟩
theorem block_any {rl rl' : List Int} {t : Int} {ok : Bool} (h : blkT rl t = (ok, rl')) {w : World} {b : SB} {A : Ar} {fs : List Nat} (ht : IsT w b A fs rl) (hh : t ≤ 9223372036854775807) :
    Calls Try.prog 33 #[.pointer (some ⟨b.s, 0, none⟩), .int .i64 t] w fun e w' => e = .returned (.bool ok) ∧ IsT w' b A fs rl' ∧ Ext w w' b.ft := by
  have := tblock_calls ht t hh
  rw [h] at this
  exact this
theorem ready_any {rl rl' : List Int} {t : Int} {ok : Bool} {A : Ar} (h : rdyT A rl t = (ok, rl')) {w : World} {b : SB} {fs : List Nat} (ht : IsT w b A fs rl) (hh : t ≤ 9223372036854775807) :
    Calls Try.prog 35 #[.pointer (some ⟨b.s, 0, none⟩), .int .i64 t] w fun e w' => e = .returned (.bool ok) ∧ IsT w' b A fs rl' ∧ Ext w w' b.ft := by
  have := tready_calls ht t hh
  rw [h] at this
  exact this
theorem yield_any {rl rl' : List Int} {t : Int} {ok : Bool} (h : yldT rl t = (ok, rl')) {w : World} {b : SB} {A : Ar} {fs : List Nat} (ht : IsT w b A fs rl) (hh : t ≤ 9223372036854775807) :
    Calls Try.prog 31 #[.pointer (some ⟨b.s, 0, none⟩), .int .i64 t] w fun e w' => e = .returned (.bool ok) ∧ IsT w' b A fs rl' ∧ Ext w w' b.ft := by
  have := tyield_calls ht t hh
  rw [h] at this
  exact this
theorem exit_any {A A' : Ar} {rl rl' : List Int} {t : Int} {ok : Bool} (h : decide (0 ≤ A.place t) = ok ∧ extA A t = A' ∧ extR A rl t = rl') {w : World} {b : SB} {fs : List Nat} (ht : IsT w b A fs rl) (hh : t ≤ 9223372036854775807) :
    Calls Try.prog 34 #[.pointer (some ⟨b.s, 0, none⟩), .int .i64 t] w fun e w' => e = .returned (.bool ok) ∧ (∃ fs', IsT w' b A' fs' rl') ∧ Ext w w' b.ft := by
  obtain ⟨rfl, rfl, rfl⟩ := h
  exact (texit_calls ht t hh).mono fun _ _ ⟨h1, fs', h2, _, _, h3⟩ => ⟨h1, ⟨fs', h2⟩, h3⟩
theorem place_any {A : Ar} {t p : Int} (h : A.place t = p) {w : World} {b : SB} {rl : List Int} {fs : List Nat} (ht : IsT w b A fs rl) (hh : t ≤ 9223372036854775807) :
    Calls Try.prog 36 #[.pointer (some ⟨b.s, 0, none⟩), .int .i64 t] w fun e w' => e = .returned (.int .i64 p) ∧ w = w' := by
  have := tplace_calls ht t hh
  rw [h] at this
  exact this
/-- A row of numbers that stays whatever is done to the blocks Ft. -/
def Kv (w : World) (Ft : Nat → Prop) (v : Value) (l : List Int) : Prop := Reads w 1 v l.length (ints l) ∧ ∀ k, v.ownBlock = some k → l ≠ [] → k < w.heap.size ∧ ¬ Ft k
theorem Kv.ext {w w' : World} {Ft : Nat → Prop} {v : Value} {l : List Int} (h : Kv w Ft v l) (hx : Ext w w' Ft) : Kv w' Ft v l := by
  by_cases hl : l = []
  · subst hl
    obtain ⟨⟨h1, a, c, e, h2, h3, h4⟩, _⟩ := h
    exact ⟨⟨h1, a, c, e, h2, h3, fun h0 => by simp at h0⟩, fun _ _ h => absurd rfl h⟩
  · exact ⟨h.1.frame (fun k hk => hx.block k (h.2 k hk hl).1 (h.2 k hk hl).2), fun k hk _ => ⟨Nat.lt_of_lt_of_le (h.2 k hk hl).1 hx.size, (h.2 k hk hl).2⟩⟩
theorem Kv.below {w w' : World} {Ft : Nat → Prop} {v : Value} {l : List Int} (h : Kv w Ft v l) (hb : Below w.heap.size w w') : Kv w' Ft v l := h.ext (Ext.of_below hb)
theorem run_any {rl : List Int} {w : World} {b : SB} {A : Ar} {fs : List Nat} (ht : IsT w b A fs rl) :
    Calls Try.prog 29 #[.pointer (some ⟨b.s, 0, none⟩)] w fun e w' => ∃ v, e = .returned v ∧ Kv w' b.ft v rl ∧ IsT w' b A fs rl ∧ Below w.heap.size w w' :=
  (trun_calls ht).mono fun _ _ ⟨v, h1, h2, h3, h4⟩ => ⟨v, h1, ⟨h2, fun k hk hl => ⟨h2.lt (by cases rl with | nil => exact absurd rfl hl | cons => simp) (by decide) k hk, fun hf => absurd (ht.lt k (.inr (.inr hf))) (Nat.not_lt.2 (h3 k hk))⟩⟩, ht.below h4, h4⟩
theorem reads_lit (w : World) (l : List Int) (t : TypeId) (hl : l.length ≤ 1000) : Reads (w.alloc (.cells (ints l).toArray t)) 1 (.slice (some ⟨w.heap.size, 0, none⟩) l.length l.length) l.length (ints l) :=
  ⟨by rw [ints_len, Nat.mul_one], _, _, rfl, Nat.le_refl _, by unfold maxLen; omega, fun _ => ⟨_, _, rfl, fun j u hj => by rw [Nat.zero_add, blk_cell (heap_alloc_new w _)]; simpa using hj⟩⟩
theorem ints_any {w : World} {v u : Value} {n m : Nat} {l k : List Int} {ok : Bool} (ho : decide (l = k) = ok) (hv : Reads w 1 v n (ints l)) (hu : Reads w 1 u m (ints k)) :
    Calls Try.prog 21 #[v, u] w fun e w' => e = .returned (.bool ok) ∧ ∃ q, w' = w.drewN q := by
  have := ints_calls hv hu
  rw [ho] at this
  exact this
theorem below_drewN {B : Nat} {a w : World} (h : Below B a w) (q : Nat) : Below B a (w.drewN q) := ⟨h.os, h.tape, h.output, h.size, h.block⟩
def aw1 : Ar := ⟨[⟨0, 1, true⟩, ⟨0, -1, false⟩], 1⟩
def aw2 : Ar := ⟨[⟨0, 1, true⟩, ⟨0, -1, true⟩], -1⟩
def aw3 : Ar := ⟨[⟨0, 1, true⟩, ⟨1, -1, false⟩], 1⟩
def aw4 : Ar := ⟨[⟨0, 1, true⟩, ⟨1, -1, true⟩], -1⟩
set_option maxRecDepth 100000 in
set_option maxHeartbeats 8000000 in
theorem awake9_calls (w : World) : Calls Try.prog 32 #[] w fun e w' => e = .returned (.bool true) ∧ Below w.heap.size w w' := by
  go_enter Try.func32, Try.ntmps32
  go_wp2_with fail
  refine (tnew_calls 2 _ (by omega) (by omega)).mono ?_
  rintro e w1 ⟨b, rfl, h1, hk, hb1⟩
  rw [show spnA (Ar.new (quotaN 2)) = aw1 by decide, show List.range' 1 (quotaN 2 - 1) = [1] by decide] at h1
  have HK := Lib.hid (fun k (h : b.ft k) => hk k (.inr (.inr h)))
  have H1 := Lib.hid h1
  have B1 := Lib.hid hb1
  clear h1 hk hb1
  go_wp2_with fail
  refine (pick_any (n := 0) (x := 1) (ok := true) (by decide) H1.out).mono ?_
  rintro e w2 ⟨rfl, h, hb⟩
  have H2 := Lib.hid h
  have B2 := Lib.hid (B1.out.trans (hb.mono B1.out.size))
  clear h hb
  go_wp2_with fail
  refine (spawn_any (t := 2) (ok := true) (A' := aw2) (rl' := [1, 2]) (by decide) H2.out).mono ?_
  rintro e w3 ⟨rfl, ⟨-, h⟩, hx⟩
  have H3 := Lib.hid h
  have B3 := Lib.hid (ext_below2 B2.out hx HK.out)
  clear h hx
  go_wp2_with fail
  refine (spawn_any (t := 0) (ok := false) (A' := aw2) (rl' := [1, 2]) (by decide) H3.out).mono ?_
  rintro e w4 ⟨rfl, ⟨-, h⟩, hx⟩
  have H4 := Lib.hid h
  have B4 := Lib.hid (ext_below2 B3.out hx HK.out)
  clear h hx
  go_wp2_with fail
  refine (yield_any (t := 1) (ok := true) (rl' := [2, 1]) (by decide) H4.out (by omega)).mono ?_
  rintro e w5 ⟨rfl, h, hx⟩
  have H5 := Lib.hid h
  have B5 := Lib.hid (ext_below2 B4.out hx HK.out)
  clear h hx
  go_wp2_with fail
  refine (run_any H5.out).mono ?_
  rintro e w6 ⟨v, rfl, hr, h, hb⟩
  have R6 := Lib.hid hr
  have H6 := Lib.hid h
  have B6 := Lib.hid (B5.out.trans (hb.mono B5.out.size))
  clear hr h hb
  go_wp2_with fail
  refine (block_any (t := 2) (ok := true) (rl' := [1]) (by decide) H6.out (by omega)).mono ?_
  rintro e w7 ⟨rfl, h, hx⟩
  have R7 := Lib.hid (R6.out.ext hx)
  clear R6
  have H7 := Lib.hid h
  have B7 := Lib.hid (ext_below2 B6.out hx HK.out)
  clear h hx
  go_wp2_with fail
  refine (exit_any (t := 2) (ok := true) (A' := aw3) (rl' := [1]) (by decide) H7.out (by omega)).mono ?_
  rintro e w8 ⟨rfl, ⟨_, h⟩, hx⟩
  have R8 := Lib.hid (R7.out.ext hx)
  clear R7
  have H8 := Lib.hid h
  have B8 := Lib.hid (ext_below2 B7.out hx HK.out)
  clear h hx
  go_wp2_with fail
  refine (spawn_any (t := 18) (ok := true) (A' := aw4) (rl' := [1, 18]) (by decide) H8.out).mono ?_
  rintro e w9 ⟨rfl, ⟨-, h⟩, hx⟩
  have R9 := Lib.hid (R8.out.ext hx)
  clear R8
  have H9 := Lib.hid h
  have B9 := Lib.hid (ext_below2 B8.out hx HK.out)
  clear h hx
  clear H1 H2 H3 H4 H5 H6 H7 H8 B1 B2 B3 B4 B5 B6 B7 B8
  have R10 := Lib.hid ((R9.out.ext ((Ext.refl w9 b.ft).alloc (.cells (ints [2, 1]).toArray 3))).1)
  go_wp2_with fail
  refine (ints_any (ok := true) (by decide) R10.out (reads_lit w9 [2, 1] _ (by decide))).mono ?_
  rintro e w10 ⟨rfl, q, rfl⟩
  have H10 := Lib.hid ((H9.out.below ((Below.refl _ _).alloc (Nat.le_refl _) (.cells (ints [2, 1]).toArray 3))).drewN q)
  go_wp2_with fail
  refine (place_any (p := 1) (by decide) H10.out (by omega)).mono ?_
  rintro e w11 ⟨rfl, rfl⟩
  go_wp2_with fail
  go_ret
  exact ⟨rfl, below_drewN (B9.out.alloc B9.out.size _) q⟩
end Go.Proofs.Ytkiogbenbicghaa
