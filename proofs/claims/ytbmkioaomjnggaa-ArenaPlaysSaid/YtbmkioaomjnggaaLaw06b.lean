/- The law ArenaStale, walked: it returns true, and leaves all memory that was there as it was. Conditions: the numbers fit their kinds, the list takes at most 2^47 - 4096 bytes. -/
import Derived.Test.YtbmkioaomjnggaaLaw06
import Derived.Test.YtbmkioaomjnggaaArenaPure
import Derived.Test.YtbmkioaomjnggaaView
import Derived.Deep.RegionHeld3
import Derived.Deep.RegionWith
import Derived.Deep.DeepCutAuto
import Derived.Deep.LoopGhost
namespace Go.Proofs.Ytbmkioaomjnggaa
open Go.RowKit

/-- What an act's cells read as: do, handle, number. -/
theorem act_cells {w : World} {b o n cap : Nat} {xs : List (List Int)} (hr : Reads w 3 (.slice (some ⟨b, o, none⟩) n cap) n (xs.flatMap (rowCells [.u8, .i64, .u8])))
    (hb : ∀ x ∈ xs, x.length = 3 ∧ ∀ (j : Nat) k y, [IntKind.u8, .i64, .u8][j]? = some k → x[j]? = some y → (Lit.int k y).wf = true) (hl : xs.length = n) (i : Nat) (hi : i < n) :
    ∃ d h m : Int, xs[i]? = some [d, h, m] ∧ (0 ≤ d ∧ d ≤ 255) ∧ (-9223372036854775808 ≤ h ∧ h ≤ 9223372036854775807) ∧ (0 ≤ m ∧ m ≤ 255) ∧
      w.cell? ⟨b, o + i * 3, none⟩ = some (.int .u8 d) ∧ w.cell? ⟨b, o + i * 3 + 1, none⟩ = some (.int .i64 h) ∧ w.cell? ⟨b, o + i * 3 + 2, none⟩ = some (.int .u8 m) := by
  have hi' : i < xs.length := by omega
  obtain ⟨hl3, hwf⟩ := hb _ (List.getElem_mem hi')
  obtain ⟨d, h, m, hx⟩ : ∃ d h m : Int, xs[i] = [d, h, m] := by
    match hx : xs[i], hl3 with
    | [d, h, m], _ => exact ⟨d, h, m, rfl⟩
  have hxs : xs[i]? = some [d, h, m] := by rw [List.getElem?_eq_getElem hi', hx]
  rw [hx] at hwf
  obtain ⟨_, a, cap', he, _, _, hc⟩ := hr
  injection he with ha _ _
  subst ha
  obtain ⟨b', o', he', hc⟩ := hc (by omega)
  simp only [Option.some.injEq, Addr.mk.injEq, and_true] at he'
  obtain ⟨rfl, rfl⟩ := he'
  have hf : ∀ x ∈ xs, (rowCells [.u8, .i64, .u8] x).length = 3 := by
    intro x hx
    rw [rowCells, List.length_zipWith, (hb x hx).1]
    rfl
  have hget : ∀ j u, j < 3 → (rowCells [.u8, .i64, .u8] [d, h, m])[j]? = some u → w.cell? ⟨b, o + (i * 3 + j), none⟩ = some u := by
    intro j u hj hu
    refine hc _ u ?_
    rw [flat_get_mem _ 3 xs i j hf hj, hxs]
    exact hu
  refine ⟨d, h, m, hxs, bounds_u8 (hwf 0 _ _ rfl rfl), bounds_i64 (hwf 1 _ _ rfl rfl), bounds_u8 (hwf 2 _ _ rfl rfl), hget 0 _ (by omega) rfl, ?_, ?_⟩
  · have := hget 1 _ (by omega) rfl
    rwa [← Nat.add_assoc] at this
  · have := hget 2 _ (by omega) rfl
    rwa [← Nat.add_assoc] at this

/-- All that holds at the head of the law's loop. -/
structure StaleInv (w wr : World) (g : Nat) (F : Nat → Prop) (A : Ar) (fs : List Nat) (G : List Int) (B : List Bool) (gv bv : Value) (top k : Nat) : Prop where
  arena : IsArena wr g A F
  good : Good A fs
  hist : Hist A fs G B
  size : A.list.length ≤ top
  bound : G.length ≤ k
  given : wr.ownsRow w.heap.size 3 1 gv G.length (ints G)
  back : wr.ownsRow w.heap.size 4 1 bv B.length (bools B)
  below : Below w.heap.size w wr
theorem StaleInv.drewN {w wr : World} {g : Nat} {F : Nat → Prop} {A : Ar} {fs : List Nat} {G : List Int} {B : List Bool} {gv bv : Value} {top k : Nat} (h : StaleInv w wr g F A fs G B gv bv top k) (n : Nat) : StaleInv w (wr.drewN n) g F A fs G B gv bv top k :=
  ⟨h.arena.drewN n, h.good, h.hist, h.size, h.bound, h.given, h.back, ⟨h.below.os, h.below.tape, h.below.output, h.below.size, h.below.block⟩⟩

/-- Behind the two appends of a round the arena and both rows stand. -/
theorem stale_back {w wr w1 : World} {g : Nat} {F : Nat → Prop} {A : Ar} {gv bv : Value} {n m : Nat} {gs bs : List Value} {base : Nat} (hb : wr.ownsRow base 4 1 bv m bs) (hg : wr.ownsRow base 3 1 gv n gs) (o1 : Obj)
    (g1 : (wr.alloc o1).grownBy w1 gv.ownBlock) : w1.ownsRow base 4 1 bv m bs :=
  (hb.alloc o1).kept g1 (owns_apart hb hg (by decide))
theorem stale_two {w wr w1 w2 : World} {g : Nat} {F : Nat → Prop} {A : Ar} {gv bv gv' : Value} {n m n' : Nat} {gs bs gs' : List Value} {base : Nat} (hA : IsArena wr g A F) (hg : wr.ownsRow base 3 1 gv n gs) (hb : wr.ownsRow base 4 1 bv m bs)
    (o1 o2 : Obj) (g1 : (wr.alloc o1).grownBy w1 gv.ownBlock) (own1 : w1.ownsRow base 3 1 gv' n' gs') (g2 : (w1.alloc o2).grownBy w2 bv.ownBlock) (hB : base ≤ wr.heap.size) (hw : w.heap.size ≤ base) (hbel : Below w.heap.size w wr) :
    IsArena w2 g A F ∧ w2.ownsRow base 3 1 gv' n' gs' ∧ Below w.heap.size w w2 := by
  have hb1 := stale_back (w := w) (F := F) (A := A) (g := g) hb hg o1 g1
  have s1 := g1.size
  have s2 := g2.size
  simp at s1 s2
  have e1 : ∀ k, F k → w1.heap[k]? = wr.heap[k]? := fun k hk => by
    have hl := hA.lt k hk
    rw [g1.block k (by simp; omega) (fun e => hA.beside hg (by decide) (by decide) k e.symm hk), Below.heap_alloc _ _ _ hl]
  have hA1 := hA.frame e1
  have e2 : ∀ k, F k → w2.heap[k]? = w1.heap[k]? := fun k hk => by
    have hl := hA1.lt k hk
    rw [g2.block k (by simp; omega) (fun e => hA1.beside hb1 (by decide) (by decide) k e.symm hk), Below.heap_alloc _ _ _ hl]
  refine ⟨hA1.frame e2, (own1.alloc o2).kept g2 (owns_apart own1 hb1 (by decide)), ?_⟩
  have b1 : Below w.heap.size w w1 := (hbel.alloc (by omega) o1).grown g1 (by simp; omega) (fun k hk => by have := (hg.lt k hk).1; omega)
  exact (b1.alloc (by omega) o2).grown g2 (by simp; omega) (fun k hk => by have := (hb1.lt k hk).1; omega)

/-- What a call of the arena leaves alone. -/
theorem stale_step2 {w wr w2 : World} {g : Nat} {F : Nat → Prop} {A : Ar} {gv bv : Value} {n m : Nat} {gs bs : List Value} (hA : IsArena wr g A F) (hx : Ext wr w2 F) (hF : ∀ k, F k → w.heap.size ≤ k)
    (hG : wr.ownsRow w.heap.size 3 1 gv n gs) (hB : wr.ownsRow w.heap.size 4 1 bv m bs) (hbel : Below w.heap.size w wr) :
    w2.ownsRow w.heap.size 3 1 gv n gs ∧ w2.ownsRow w.heap.size 4 1 bv m bs ∧ Below w.heap.size w w2 := by
  have hs := hbel.size
  exact ⟨hA.leaves hx hG (by decide) (by decide), hA.leaves hx hB (by decide) (by decide), ⟨hx.os.trans hbel.os, hx.tape.trans hbel.tape, hx.output.trans hbel.output, Nat.le_trans hbel.size hx.size,
    fun k hk => (hx.block k (by omega) (fun h => by have := hF k h; omega)).trans (hbel.block k hk)⟩⟩
theorem stale_step {w wr w2 : World} {g : Nat} {F : Nat → Prop} {A : Ar} {gv bv : Value} {n m : Nat} {gs bs : List Value} {b o1 o2 : Nat} {v1 v2 : Value} (hA : IsArena wr g A F) (hx : Ext wr w2 F) (hF : ∀ k, F k → w.heap.size ≤ k)
    (hG : wr.ownsRow w.heap.size 3 1 gv n gs) (hB : wr.ownsRow w.heap.size 4 1 bv m bs) (hbel : Below w.heap.size w wr) (e1 : wr.cell? ⟨b, o1, none⟩ = some v1) (e3 : wr.cell? ⟨b, o2, none⟩ = some v2) (hbW : b < w.heap.size) :
    w2.ownsRow w.heap.size 3 1 gv n gs ∧ w2.ownsRow w.heap.size 4 1 bv m bs ∧ Below w.heap.size w w2 ∧ w2.cell? ⟨b, o1, none⟩ = some v1 ∧ w2.cell? ⟨b, o2, none⟩ = some v2 := by
  have hs := hbel.size
  have hb2 : w2.heap[b]? = wr.heap[b]? := hx.block b (by omega) (fun h => by have := hF b h; omega)
  obtain ⟨a1, a2, a3⟩ := stale_step2 hA hx hF hG hB hbel
  exact ⟨a1, a2, a3, (World.cell?_of_block hb2).trans e1, (World.cell?_of_block hb2).trans e3⟩

theorem owns_some {w : World} {base : Nat} {e : TypeId} {size : Nat} {a : Option Addr} {n cap : Nat} {xs : List Value} (h : w.ownsRow base e size (.slice a n cap) n xs) (hn : 0 < n) : ∃ g, a = some ⟨g, 0, none⟩ := by
  obtain ⟨a', cap', he, _, _, h3⟩ := owns_shape h
  injection he with h1 _ _
  rw [h1]
  exact h3 hn
theorem stale_put {w w8 : World} {g : Nat} {F : Nat → Prop} {A : Ar} {fs : List Nat} {G : List Int} {B : List Bool} {ga ba gcap bcap top k : Nat} (hA : IsArena w8 g A F) (hg : Good A fs) (kk : Nat) (hh : Hist A fs G (B.set kk true)) (hs : A.list.length ≤ top) (hb : G.length ≤ k)
    (hG : w8.ownsRow w.heap.size 3 1 (.slice (some ⟨ga, 0, none⟩) G.length gcap) G.length (ints G)) (hB : w8.ownsRow w.heap.size 4 1 (.slice (some ⟨ba, 0, none⟩) B.length bcap) B.length (bools B)) (hbel : Below w.heap.size w w8) :
    StaleInv w (w8.setCell ⟨ba, kk, none⟩ (.bool true)) g F A fs G (B.set kk true) (.slice (some ⟨ga, 0, none⟩) G.length gcap) (.slice (some ⟨ba, 0, none⟩) B.length bcap) top k := by
  have hlt := (hB.lt ba rfl).1
  refine ⟨hA.frame (fun j hj => heap_setCell_other _ _ _ _ ?_), hg, hh, hs, hb, ownsRow_setCell_other hG ?_ _, ?_, hbel.setCell hlt _⟩
  · intro e
    simp only at e
    subst e
    exact hA.beside hB (by decide) (by decide) j rfl hj
  · rcases owns_apart hG hB (by decide) with h | h
    · cases h
    · simpa [Value.ownBlock] using h
  · rw [List.length_set, bools_set]
    exact (hB.stored kk (.bool true)).1
section
variable {w wr : World} {g : Nat} {F : Nat → Prop} {A : Ar} {fs : List Nat} {G : List Int} {B : List Bool} {gv bv : Value} {top k : Nat}
theorem StaleInv.small (h : StaleInv w wr g F A fs G B gv bv top k) {j : Nat} {x : Int} (hG : G[j]? = some x) : x ≤ 9223372036854775807 := by
  obtain ⟨b, hb⟩ : ∃ b, B[j]? = some b := ⟨_, List.getElem?_eq_getElem (by rw [← h.hist.len]; exact lt_of_get hG)⟩
  obtain ⟨p', q', j', a1, a2, _, a4, _⟩ := h.hist.each _ _ _ hG hb
  have := lt_of_get a2
  have := h.good.ok.size
  have := h.good.ok.gen1 _ (mem_of_get a2)
  omega
theorem StaleInv.is (h : StaleInv w wr g F A fs G B gv bv top k) {j : Nat} {x : Int} {b : Bool} (hG : G[j]? = some x) (hB : B[j]? = some b) (nq : Nat) :
    Calls Try.prog 19 #[.pointer (some ⟨g, 0, none⟩), .int .i64 x] (wr.drewN nq) fun e w' => e = .returned (.bool (!b)) ∧ wr.drewN nq = w' := by
  have hp := h.hist.place h.good hG hB
  have hc := is_calls (h.arena.drewN nq) x (h.small hG)
  cases b with
  | true => rw [hp.1 rfl] at hc; exact hc
  | false =>
    obtain ⟨p, q, _, _, _, hq⟩ := hp.2 rfl
    rw [hq, show decide ((0 : Int) ≤ (p : Int)) = true by simp] at hc
    exact hc
theorem StaleInv.gone (h : StaleInv w wr g F A fs G B gv bv top k) {j : Nat} {x : Int} (hG : G[j]? = some x) (hB : B[j]? = some true) (nq : Nat) :
    Calls Try.prog 17 #[.pointer (some ⟨g, 0, none⟩), .int .i64 x] (wr.drewN nq) fun e w' => e = .returned (.int .i64 (-1)) ∧ wr.drewN nq = w' := by
  have hc := place_calls (h.arena.drewN nq) x (h.small hG)
  rw [(h.hist.place h.good hG hB).1 rfl] at hc
  exact hc
theorem StaleInv.place (h : StaleInv w wr g F A fs G B gv bv top k) {j : Nat} {x : Int} (hG : G[j]? = some x) (nq : Nat) :
    Calls Try.prog 17 #[.pointer (some ⟨g, 0, none⟩), .int .i64 x] (wr.drewN nq) fun e w' => e = .returned (.int .i64 (A.place x)) ∧ wr.drewN nq = w' :=
  place_calls (h.arena.drewN nq) x (h.small hG)
theorem StaleInv.unlike (h : StaleInv w wr g F A fs G B gv bv top k) {i j : Nat} {x y : Int} (hij : i < j) (hx : G[i]? = some x) (hy : G[j]? = some y) : (x == y) = false := by
  obtain ⟨a1, a2⟩ := List.getElem?_eq_some_iff.1 hx
  obtain ⟨b1, b2⟩ := List.getElem?_eq_some_iff.1 hy
  rw [beq_eq_false_iff_ne]
  rintro rfl
  have := (List.getElem_inj h.hist.nodup).1 (a2.trans b2.symm)
  omega
theorem StaleInv.apart (h : StaleInv w wr g F A fs G B gv bv top k) {i j : Nat} {x y : Int} (hij : i < j) (hx : G[i]? = some x) (hy : G[j]? = some y) (bx : B[i]? = some false) (bY : B[j]? = some false) : (A.place x == A.place y) = false := by
  obtain ⟨p, q, a1, a2, a3, a4⟩ := (h.hist.place h.good hx bx).2 rfl
  obtain ⟨p', q', b1, b2, b3, b4⟩ := (h.hist.place h.good hy bY).2 rfl
  have hu := h.unlike hij hx hy
  rw [beq_eq_false_iff_ne] at hu ⊢
  intro e
  rw [a4, b4] at e
  obtain rfl : p = p' := by omega
  rw [a1] at b1
  injection b1 with b1
  subst b1
  exact hu (a3.trans b3.symm)
theorem StaleInv.get (h : StaleInv w wr g F A fs G B gv bv top k) {j : Nat} (hj : j < G.length) : ∃ x b, G[j]? = some x ∧ B[j]? = some b :=
  ⟨_, _, List.getElem?_eq_getElem hj, List.getElem?_eq_getElem (by rw [← h.hist.len]; exact hj)⟩
theorem stale_live {w5 : World} (h : StaleInv w wr g F A fs G B gv bv top k) (hb : Below wr.heap.size wr w5) : StaleInv w w5 g F A fs G B gv bv top k :=
  ⟨h.arena.frame (fun j hj => hb.block j (h.arena.lt j hj)), h.good, h.hist, h.size, h.bound, owns_same h.given (fun j hj => hb.block j (h.given.lt j hj).2), owns_same h.back (fun j hj => hb.block j (h.back.lt j hj).2), h.below.trans (hb.mono h.below.size)⟩
theorem StaleInv.count (h : StaleInv w wr g F A fs G B gv bv top k) : A.live.length = liveCount B G.length ∧ liveCount B G.length ≤ 16 ∧ liveCount B G.length ≤ top := by
  have h1 := h.hist.count h.good
  have h2 := live_le A
  have h3 := h.good.ok.size
  have h4 := h.size
  rw [h.hist.len]
  omega
end

set_option maxHeartbeats 8000000 in
set_option maxRecDepth 100000 in
theorem arenaStale_walk (w : World) (m : Int) (m0 : 0 ≤ m) (m1 : m ≤ 255) (v : Value) (n : Nat) (xs : List (List Int)) (hl : xs.length = n) (hr : Reads w 3 v n (xs.flatMap (rowCells [.u8, .i64, .u8])))
    (hb : ∀ x ∈ xs, x.length = 3 ∧ ∀ (j : Nat) k y, [IntKind.u8, .i64, .u8][j]? = some k → x[j]? = some y → (Lit.int k y).wf = true) (hz : n * Try.prog.bytesOf 29 ≤ 140737488351232) :
    Calls Try.prog 4 #[.int .u8 m, v] w fun e w' => e = .returned (.bool true) ∧ Below w.heap.size w w' := by
  rw [show Try.prog.bytesOf 29 = 24 by kernel_rfl] at hz
  obtain ⟨top, htop⟩ : ∃ top : Nat, (top : Int) = m % 20 := ⟨(m % 20).toNat, by omega⟩
  have htop' : m % 20 = (top : Int) := htop.symm
  have ht20 : top < 20 := by omega
  clear htop
  obtain ⟨i0, hi0, hz0, hz1, hz2⟩ := info_parts Try.info_int
  obtain ⟨i4, hi4, hy0, hy1, hy2⟩ := info_parts Try.info_bool
  have HI0 := Lib.hid hi0
  have HI4 := Lib.hid hi4
  clear hi0 hi4
  obtain ⟨a, cap, hv, hnc, hcm, hpos⟩ := hr.2
  have hpos' : 0 < n → ∃ b o, a = some ⟨b, o, none⟩ := fun hn => by obtain ⟨b, o, e, _⟩ := hpos hn; exact ⟨b, o, e⟩
  clear hpos
  subst hv
  have HB := Lib.hid hb
  have HL := Lib.hid hl
  have HR := Lib.hid hr
  have hlt := Lib.hid (fun (hn : 0 < n) => hr.lt hn (by omega))
  clear hb hl hr
  go_enter Try.func4, Try.ntmps4
  go_wp2_with fail
  refine (anew_calls (top : Int) w (by omega) (by omega)).mono ?_
  rintro e w1 ⟨g, F, rfl, hA, hF, hb⟩
  go_wp2_with fail
  have hinit : StaleInv w ((w1.alloc (.cells #[] 3)).alloc (.cells #[] 4)) g F (Ar.new top) (List.range' 0 (max 0 (min (top : Int) 16)).toNat) [] [] (.slice (some ⟨w1.heap.size, 0, none⟩) 0 0) (.slice (some ⟨w1.heap.size + 1, 0, none⟩) 0 0) top 0 := by
    have hs := hb.size
    refine ⟨(hA.frame (fun k hk => Below.heap_alloc _ _ _ (hA.lt k hk))).frame (fun k hk => Below.heap_alloc _ _ _ (by have := hA.lt k hk; simp; omega)), Good.new _, Hist.start _ _, by simp [Ar.new]; omega, Nat.le_refl _, ?_, ?_, ?_⟩
    · exact (World.ownsRow_made w1 #[] 0 hs (by unfold maxLen; omega) rfl).alloc _
    · show World.ownsRow _ _ _ _ _ _ []
      have := World.ownsRow_made (base := w.heap.size) (e := 4) (size := 1) (w1.alloc (.cells #[] 3)) #[] 0 (by simp; omega) (by unfold maxLen; omega) rfl
      simpa using this
    · exact (hb.alloc hs _).alloc (by simp; omega) _
  clear hA hb
  go_loopg [6, 7, 8] n (fun r gv bv i wr => ∃ (k : Nat) (A : Ar) (fs : List Nat) (G : List Int) (B : List Bool), i = .int .i64 k ∧ k ≤ 80 ∧ k + r = n ∧ StaleInv w wr g F A fs G B gv bv top k)
  case atStart => exact ⟨0, _, _, _, _, by go_num, by omega, by omega, hinit⟩
  case round =>
    clear hinit
    obtain ⟨k, A, fs, G, B, rfl, hk80, hkn, hI⟩ := hrel
    by_cases hlt' : k < n ∧ k < 80
    · obtain ⟨hlt1, hlt2⟩ := hlt'
      obtain ⟨b, o, rfl⟩ := hpos' (by omega)
      have hbW := hlt.out (by omega) b rfl
      obtain ⟨d, h, q, hxk, hd, _, hq, e1w, _, e3w⟩ := act_cells HR.out HB.out HL.out k hlt1
      have e1 := (hI.below.cell (p := ⟨b, o + k * 3, none⟩) hbW).trans e1w
      have e3 := (hI.below.cell (p := ⟨b, o + k * 3 + 2, none⟩) hbW).trans e3w
      obtain ⟨hA, hGood, hHist, hsz, hGl, hG, hBk, hbel⟩ := hI
      have hws := hbel.size
      obtain ⟨ga, gcap, rfl, hg1, hg2, hg3⟩ := owns_shape hG
      obtain ⟨ba, bcap, rfl, hb1, hb2, hb3⟩ := owns_shape hBk
      have hBG := Lib.hid hHist.len
      clear hxk hg1 hg2 hb1 hb2
      obtain ⟨hh, ok, A1, htk⟩ : ∃ hh ok A1, A.take = (hh, ok, A1) := ⟨_, _, _, rfl⟩
      have HT := Lib.hid htk
      clear htk
      have hc : ∃ c : Bool, (c = true → d % 3 ≠ 0 ∧ 0 < G.length) ∧ (c = false → d % 3 = 0 ∨ G.length ≤ 0) := by
        by_cases h : d % 3 ≠ 0 ∧ 0 < G.length
        · exact ⟨true, (fun _ => h), (fun h => by cases h)⟩
        · refine ⟨false, (fun h => by cases h), fun _ => ?_⟩
          by_cases h1 : d % 3 = 0
          · exact .inl h1
          · exact .inr (by omega)
      obtain ⟨c, hc1, hc2⟩ := hc
      have HC1 := Lib.hid hc1
      have HC2 := Lib.hid hc2
      clear hc1 hc2
      go_wp2_with fail
      refine (take_calls hA).mono ?_
      rw [HT.out]
      rintro e w2 ⟨rfl, hA2, hx2⟩
      obtain ⟨hG2, hBk2, hbel2, e1, e3⟩ := stale_step hA hx2 hF hG hBk hbel e1 e3 hbW
      clear hA hG hBk hbel hx2
      go_upto_region 8 with (fail)
      go_cut [47] (fun s wc => s = .bool c ∧ wc = w2)
      case first => as_aux_lemma =>
        cases c
        · rcases HC2.out rfl with h | h
          · have h3 : (d % 3 != 0) = false := by rw [h]; rfl
            clear h
            go_wp2_with fail
            go_meet
            exact ⟨rfl, rfl⟩
          · have h4 : decide (0 < G.length) = false := decide_eq_false (by omega)
            by_cases h2 : d % 3 = 0
            · have h3 : (d % 3 != 0) = false := by rw [h2]; rfl
              clear h h2
              go_wp2_with fail
              go_meet
              exact ⟨rfl, rfl⟩
            · have h3 : (d % 3 != 0) = true := by rw [bne_iff_ne]; exact h2
              clear h h2
              go_wp2_with fail
              go_meet
              exact ⟨by first | rfl | rw [h4] | (congr 1; simpa using h4), rfl⟩
        · obtain ⟨h1, h2⟩ := HC1.out rfl
          have h3 : (d % 3 != 0) = true := by rw [bne_iff_ne]; exact h1
          clear h1
          go_wp2_with fail
          go_meet
          exact ⟨rfl, rfl⟩
      case rest =>
        obtain ⟨rfl, rfl⟩ := hcut
        go_upto_if 47 with (fail)
        go_cut [6, 7, 11] (fun gv bv s11 wc => ∃ (gx bx : Value) (A : Ar) (fs : List Nat) (G : List Int) (B : List Bool), gx = gv ∧ bx = bv ∧ StaleInv w wc g F A fs G B gx bx top (k + 1))
        case first => as_aux_lemma =>
          have hgive : 0 < G.length → ∃ (kk : Nat) (gk : Int) (bk : Bool), q % (G.length : Int) = (kk : Int) ∧ kk < G.length ∧ G[kk]? = some gk ∧ B[kk]? = some bk ∧ gk ≤ 9223372036854775807 := by
            intro hpos
            have h1 : q % (G.length : Int) < G.length := Int.emod_lt_of_pos _ (by omega)
            have h0 : 0 ≤ q % (G.length : Int) := Int.emod_nonneg _ (by omega)
            have hk1 : (q % (G.length : Int)).toNat < G.length := by omega
            refine ⟨(q % (G.length : Int)).toNat, _, _, by omega, hk1, List.getElem?_eq_getElem hk1, List.getElem?_eq_getElem (by rw [← hBG.out]; exact hk1), ?_⟩
            obtain ⟨p', q', j', a1, a2, _, a4, _⟩ := hHist.each _ _ _ (List.getElem?_eq_getElem hk1) (List.getElem?_eq_getElem (by rw [← hBG.out]; exact hk1))
            have := lt_of_get a2
            have := hGood.ok.size
            have := hGood.ok.gen1 _ (mem_of_get a2)
            omega
          have HTo := HT.out
          cases fs with
          | nil =>
            rw [hGood.take_none] at HTo
            simp only [Prod.mk.injEq] at HTo
            obtain ⟨rfl, rfl, rfl⟩ := HTo
            clear HT
            cases c
            · clear hgive
              as_aux_lemma =>
                go_wp2_with fail
                go_meet
                exact ⟨_, _, _, _, _, _, rfl, rfl, ⟨hA2, hGood, hHist, hsz, by omega, hG2, hBk2, hbel2⟩⟩
            · obtain ⟨kk, gk, bk, hkk, hkl, hGk, hBkk, hgk⟩ := hgive (HC1.out rfl).2
              clear hgive
              as_aux_lemma =>
                obtain ⟨A3, fs3, hgb, hGood3, hHist3, hsz3⟩ := hHist.any hGood hGk hBkk
                obtain ⟨ga, rfl⟩ := hg3 (by omega)
                obtain ⟨ba, rfl⟩ := hb3 (by have := hBG.out; omega)
                have hsz2 := hbel2.size
                have hA7 := hA2; have hG7 := hG2; have hB7 := hBk2; have hbel7 := hbel2; have hs7 := hsz
                have c1 := owns_int hG7 hGk
                have c2 := owns_bool hB7 hBkk
                have ik1 : (kk : Int) < (G.length : Int) := by omega
                have ik2 : (kk : Int) < (B.length : Int) := by have := lt_of_get hBkk; omega
                clear hA2 hG2 hBk2 hbel2
                have hbb : ((!bk) == bk) = false := by cases bk <;> rfl
                have HGB := Lib.hid hgb
                have HGK := Lib.hid hGk
                have HBK := Lib.hid hBkk
                clear hgb hGk hBkk
                have ik0 : (0 : Int) ≤ (kk : Int) := Int.natCast_nonneg _
                go_wp2_with fail
                go_region_held3 (fun w' => w'.cell? ⟨ga, kk, none⟩ = some (.int .i64 gk) ∧ w'.cell? ⟨ba, kk, none⟩ = some (.bool bk))
                  (first | go_keep | exact ⟨hkc1, hkc2⟩)
                  (first | (go_at_call 20; refine (free_calls hA7.drew gk hgk).mono ?_; rw [HGB.out]; rintro e w8 ⟨rfl, hA8, hx8⟩; obtain ⟨hG8, hB8, hbel8⟩ := stale_step2 hA7 ⟨hx8.os, hx8.tape, hx8.output, hx8.size, hx8.block⟩ hF hG7 hB7 hbel7; have hkc1 := owns_int hG8 HGK.out; have hkc2 := owns_bool hB8 HBK.out))
                have hz8 := hB8.frozenAt kk
                have hsw8 := hbel8.size
                go_wp2_with fail
                go_meet
                exact ⟨_, _, _, _, _, _, rfl, rfl, stale_put hA8 hGood3 kk hHist3 (by rw [hsz3]; exact hs7) (by omega) hG8 hB8 hbel8⟩
          | cons i fs =>
            obtain ⟨p, A1', hp, _, htk, hA1, hGood1⟩ := hGood.take_some
            have hi16 : i < 16 := by have := lt_of_get hp; have := hGood.ok.size; omega
            have hp0 := hGood.ok.gen0 _ (mem_of_get hp)
            have hp1 := hGood.ok.gen1 _ (mem_of_get hp)
            rw [htk] at HTo
            simp only [Prod.mk.injEq] at HTo
            obtain ⟨rfl, rfl, rfl⟩ := HTo
            clear htk HT
            cases c
            · clear hgive
              as_aux_lemma =>
                have hsz2 := hbel2.size
                have hh9 := Lib.hid (Hist.take hGood hHist hp hA1)
                have hBl : B.length ≤ 80 := by have := hBG.out; omega
                go_wp2_with (at_builtin; refine wpList_append_own _ rfl (.tmp 83) (.tmp 85) 27 rfl w.heap.size 3 i0 (.int .i64 0) 1 8 Try.underlying27 HI0.out hz0 hz1 hz2 rfl (by decide) _ _ _ rfl (hG2.alloc _) _ 1 1 [.int .i64 (1 + (i : Int) + 16 * p.gen)] rfl rfl ?_ ?_ ?_ ?_ ?_ ?_; exact news_at _ _ _ _ (by simp); exact news_int _; (unfold maxLen; omega); omega; (simp; omega))
                intro gv5 w5 own5 grow5 _
                have hBk5 := stale_back (w := w) (F := F) (A := A) (g := g) hBk2 hG2 _ grow5
                have sz5 := grow5.size
                simp at sz5
                go_wp2_with (at_builtin; refine wpList_append_own _ rfl (.tmp 87) (.tmp 88) 38 rfl w.heap.size 4 i4 (.bool false) 1 1 Try.underlying38 HI4.out hy0 hy1 hy2 rfl (by decide) _ _ _ rfl (hBk5.alloc _) _ 1 1 [.bool false] rfl rfl ?_ ?_ ?_ ?_ ?_ ?_; exact news_at _ _ _ _ (by simp); exact news_bool _; (unfold maxLen; omega); omega; (simp; omega))
                intro bv6 w6 own6 grow6 _
                obtain ⟨hA6, hG6, hbel6⟩ := stale_two (w := w) hA2 hG2 hBk2 _ _ grow5 own5 grow6 (by omega) (Nat.le_refl _) hbel2
                rw [← ints_snoc] at hG6
                rw [← bools_snoc] at own6
                clear grow5 grow6 own5 hBk5
                go_wp2_with fail
                go_meet
                exact ⟨_, _, _, _, _, _, rfl, rfl, ⟨hA6, hGood1, hh9.out, by rw [set_size hA1]; exact hsz, by simp; omega, by rw [List.length_append]; exact hG6, by rw [List.length_append]; exact own6, hbel6⟩⟩
            · obtain ⟨kk, gk, bk, hkk, hkl, hGk, hBkk, hgk⟩ := hgive (HC1.out rfl).2
              clear hgive
              as_aux_lemma =>
                obtain ⟨A2', fs2, hgb0, hGood2, hHist2, hsz2⟩ := hHist.take_back hGood hp hA1 hGood1
                have HGB0 := Lib.hid hgb0
                have hBl : B.length ≤ 80 := by have := hBG.out; omega
                clear hgb0
                go_wp2_with fail
                refine (free_calls hA2 (1 + (i : Int) + 16 * p.gen) (by omega)).mono ?_
                rw [HGB0.out]
                rintro e w3 ⟨rfl, hA3, hx3⟩
                obtain ⟨hG3, hBk3, hbel3, e1, e3⟩ := stale_step hA2 hx3 hF hG2 hBk2 hbel2 e1 e3 hbW
                clear hA2 hG2 hBk2 hbel2
                have hsz3 := hbel3.size
                go_wp2_with (at_builtin; refine wpList_append_own _ rfl (.tmp 61) (.tmp 63) 27 rfl w.heap.size 3 i0 (.int .i64 0) 1 8 Try.underlying27 HI0.out hz0 hz1 hz2 rfl (by decide) _ _ _ rfl (hG3.alloc _) _ 1 1 [.int .i64 (1 + (i : Int) + 16 * p.gen)] rfl rfl ?_ ?_ ?_ ?_ ?_ ?_; exact news_at _ _ _ _ (by simp); exact news_int _; (unfold maxLen; omega); omega; (simp; omega))
                intro gv5 w5 own5 grow5 _
                have hBk5 := stale_back (w := w) (F := F) (A := A) (g := g) hBk3 hG3 _ grow5
                have sz5 := grow5.size
                simp at sz5
                go_wp2_with (at_builtin; refine wpList_append_own _ rfl (.tmp 65) (.tmp 66) 38 rfl w.heap.size 4 i4 (.bool false) 1 1 Try.underlying38 HI4.out hy0 hy1 hy2 rfl (by decide) _ _ _ rfl (hBk5.alloc _) _ 1 1 [.bool true] rfl rfl ?_ ?_ ?_ ?_ ?_ ?_; exact news_at _ _ _ _ (by simp); exact news_bool _; (unfold maxLen; omega); omega; (simp; omega))
                intro bv6 w6 own6 grow6 _
                obtain ⟨hA6, hG6, hbel6⟩ := stale_two (w := w) hA3 hG3 hBk3 _ _ grow5 own5 grow6 (by omega) (Nat.le_refl _) hbel3
                rw [← ints_snoc] at hG6
                rw [← bools_snoc] at own6
                clear grow5 grow6 own5 hBk5
                clear hA3 hG3 hBk3 hbel3
                have e3 : w6.cell? ⟨b, o + k * 3 + 2, none⟩ = some (.int .u8 q) := (hbel6.cell (p := ⟨b, o + k * 3 + 2, none⟩) hbW).trans e3w
                have hGk2 : (G ++ [1 + (i : Int) + 16 * p.gen])[kk]? = some gk := by rw [List.getElem?_append_left (by omega)]; exact hGk
                have hBkk2 : (B ++ [true])[kk]? = some bk := by rw [List.getElem?_append_left (lt_of_get hBkk)]; exact hBkk
                obtain ⟨G9, hG9⟩ : ∃ x, x = G ++ [1 + (i : Int) + 16 * p.gen] := ⟨_, rfl⟩
                obtain ⟨B9, hB9⟩ : ∃ x, x = B ++ [true] := ⟨_, rfl⟩
                have hl9 : G.length + 1 = G9.length := by rw [hG9]; simp
                have hm9 : B.length + 1 = B9.length := by rw [hB9]; simp
                rw [← hG9, hl9] at hG6
                rw [← hB9, hm9] at own6
                rw [← hG9] at hGk2
                rw [← hB9] at hBkk2
                rw [← hG9, ← hB9] at hHist2
                have hgl9 : G9.length ≤ k + 1 := by omega
                have ik1 : (kk : Int) < (G9.length : Int) := by omega
                have ik2 : (kk : Int) < (B9.length : Int) := by have := lt_of_get hBkk2; omega
                clear hGk hBkk
                have hGk := hGk2
                have hBkk := hBkk2
                obtain ⟨ga9, gcap9, rfl, _, _, hg9⟩ := owns_shape hG6
                obtain ⟨ba9, bcap9, rfl, _, _, hb9⟩ := owns_shape own6
                obtain ⟨ga, rfl⟩ := hg9 (by omega)
                obtain ⟨ba, rfl⟩ := hb9 (by omega)
                obtain ⟨A3, fs3, hgb, hGood3, hHist3, hsz3'⟩ := hHist2.any hGood2 hGk2 hBkk2
                have hA7 := hA6; have hG7 := hG6; have hB7 := own6; have hbel7 := hbel6
                have hs7 : A2'.list.length ≤ top := by rw [hsz2]; exact hsz
                have c1 := owns_int hG7 hGk2
                have c2 := owns_bool hB7 hBkk2
                have hsz6 := hbel6.size
                clear hA6 hG6 own6 hbel6 hG9 hB9 hl9 hm9 hHist2 hGk2 hBkk2 hsz3 hsz2
                have hsz3 := hsz3'
                clear hsz3'
                have hbb : ((!bk) == bk) = false := by cases bk <;> rfl
                have HGB := Lib.hid hgb
                have HGK := Lib.hid hGk
                have HBK := Lib.hid hBkk
                clear hgb hGk hBkk
                have ik0 : (0 : Int) ≤ (kk : Int) := Int.natCast_nonneg _
                go_wp2_with fail
                go_region_held3 (fun w' => w'.cell? ⟨ga, kk, none⟩ = some (.int .i64 gk) ∧ w'.cell? ⟨ba, kk, none⟩ = some (.bool bk))
                  (first | go_keep | exact ⟨hkc1, hkc2⟩)
                  (first | (go_at_call 20; refine (free_calls hA7.drew gk hgk).mono ?_; rw [HGB.out]; rintro e w8 ⟨rfl, hA8, hx8⟩; obtain ⟨hG8, hB8, hbel8⟩ := stale_step2 hA7 ⟨hx8.os, hx8.tape, hx8.output, hx8.size, hx8.block⟩ hF hG7 hB7 hbel7; have hkc1 := owns_int hG8 HGK.out; have hkc2 := owns_bool hB8 HBK.out))
                have hz8 := hB8.frozenAt kk
                have hsw8 := hbel8.size
                go_wp2_with fail
                go_meet
                exact ⟨_, _, _, _, _, _, rfl, rfl, stale_put hA8 hGood3 kk hHist3 (by rw [hsz3]; exact hs7) (by omega) hG8 hB8 hbel8⟩
        case rest => as_aux_lemma =>
          obtain ⟨gx, bx, A, fs, G, B, rfl, rfl, hS⟩ := hcut
          obtain ⟨ga, gcap, rfl, _, _, _⟩ := owns_shape hS.given
          obtain ⟨ba, bcap, rfl, _, _, _⟩ := owns_shape hS.back
          clear hA2 hG2 hBk2 hbel2 hGood hHist hsz hGl hBG HT HC1 HC2 hg3 hb3 e1 e3 hws
          go_wp2_with fail
          go_loopg [12, 13] G.length (fun r t j wr => ∃ jj : Nat, jj + r = G.length ∧ j = .int .i64 jj ∧ t = .int .i64 (liveCount B jj) ∧ StaleInv w wr g F A fs G B (.slice ga G.length gcap) (.slice ba B.length bcap) top (k + 1))
          case atStart => exact ⟨0, by omega, by go_num, by simp [liveCount], hS⟩
          case round =>
            clear hS
            obtain ⟨jj, hjj, rfl, rfl, hS⟩ := hrel
            have hlc : liveCount B jj ≤ jj := liveCount_le _ _
            have hG80 := hS.bound
            by_cases hj : jj < G.length
            · obtain ⟨gj, bj, hgj, hbj⟩ := hS.get hj
              obtain ⟨ga, rfl⟩ := owns_some hS.given (by omega)
              obtain ⟨ba, rfl⟩ := owns_some hS.back (by have := lt_of_get hbj; omega)
              have c1 := owns_int hS.given hgj
              have c2 := owns_bool hS.back hbj
              have ij0 : (0 : Int) ≤ (jj : Int) := Int.natCast_nonneg _
              have ij1 : (jj : Int) < (G.length : Int) := by omega
              have ij2 : (jj : Int) < (B.length : Int) := by have := lt_of_get hbj; omega
              have his := hS.is hgj hbj
              have hlive := Lib.hid (liveCount_succ hbj)
              have hpln : bj = true → ∀ nq, Calls Try.prog 17 #[.pointer (some ⟨g, 0, none⟩), .int .i64 gj] (wr.drewN nq) fun e w' => e = .returned (.int .i64 (-1)) ∧ wr.drewN nq = w' := fun h => by subst h; exact hS.gone hgj hbj
              have HSS := Lib.hid hS
              have HGJ := Lib.hid hgj
              have HPN := Lib.hid hpln
              have HBJ := Lib.hid hbj
              have HIS := Lib.hid his
              clear hS hgj hpln hbj his
              go_upto_region 22 with (fail)
              go_cut [121] (fun s wc => s = .bool false ∧ ∃ nq, wr.drewN nq = wc)
              case first => as_aux_lemma =>
                cases bj
                all_goals
                  go_quiet ((first | (go_at_call 19; exact quiet_eq (HIS.out _)) | (go_at_call 17; exact quiet_eq (HPN.out rfl _))))
                  go_wp2_with fail
                  go_meet
                  exact ⟨rfl, nq, rfl⟩
              case rest =>
                obtain ⟨rfl, nq, rfl⟩ := hcut
                have hS := HSS.out.drewN nq
                have c2 : (wr.drewN nq).cell? ⟨ba, jj, none⟩ = some (.bool bj) := owns_bool hS.back HBJ.out
                clear HIS HPN HSS c1
                go_upto_if 126 with (fail)
                go_cut [12] (fun s wc => s = .int .i64 (liveCount B (jj + 1)) ∧ wr.drewN nq = wc)
                case first => as_aux_lemma =>
                  have hl := hlive.out
                  cases bj
                  · go_wp2_with fail
                    go_meet
                    exact ⟨by rw [hl]; go_num, rfl⟩
                  · go_wp2_with fail
                    go_meet
                    exact ⟨by rw [hl]; go_num, rfl⟩
                case rest =>
                  obtain ⟨rfl, rfl⟩ := hcut
                  clear c2
                  go_wp2_with fail
                  go_loopg [14] jj (fun r ms wr => ∃ mm : Nat, mm + r = jj ∧ ms = .int .i64 mm ∧ StaleInv w wr g F A fs G B (.slice (some ⟨ga, 0, none⟩) G.length gcap) (.slice (some ⟨ba, 0, none⟩) B.length bcap) top (k + 1))
                  case atStart => exact ⟨0, by omega, by go_num, hS⟩
                  case round =>
                    clear hS
                    obtain ⟨mm, hmm, rfl, hS⟩ := hrel
                    by_cases hm : mm < jj
                    · obtain ⟨gm, bm, hgm, hbm⟩ := hS.get (j := mm) (by omega)
                      have c1 := owns_int hS.given HGJ.out
                      have c2 := owns_bool hS.back HBJ.out
                      have c3 := owns_int hS.given hgm
                      have c4 := owns_bool hS.back hbm
                      have im0 : (0 : Int) ≤ (mm : Int) := Int.natCast_nonneg _
                      have im1 : (mm : Int) < (G.length : Int) := by omega
                      have im2 : (mm : Int) < (B.length : Int) := by have := lt_of_get hbm; omega
                      have hun := hS.unlike hm hgm HGJ.out
                      have HP1 := Lib.hid (hS.place hgm)
                      have HP2 := Lib.hid (hS.place HGJ.out)
                      have HAP := Lib.hid (show bm = false → bj = false → (A.place gm == A.place gj) = false from fun h1 h2 => hS.apart hm hgm HGJ.out (by rw [hbm, h1]) (by rw [HBJ.out, h2]))
                      have HSS := Lib.hid hS
                      clear hS hgm hbm
                      go_upto_region 29 with (fail)
                      go_cut [171] (fun s wc => s = .bool false ∧ ∃ nq, wr.drewN nq = wc)
                      case first => as_aux_lemma =>
                        cases bm
                        · cases bj
                          · have hap := HAP.out rfl rfl
                            go_quiet ((first | (go_at_call_of 17 gm; exact quiet_eq (HP1.out _)) | (go_at_call_of 17 gj; exact quiet_eq (HP2.out _))))
                            go_wp2_with fail
                            go_meet
                            exact ⟨rfl, nq, rfl⟩
                          · go_quiet (fail)
                            go_wp2_with fail
                            go_meet
                            exact ⟨rfl, nq, rfl⟩
                        · go_quiet (fail)
                          go_wp2_with fail
                          go_meet
                          exact ⟨rfl, nq, rfl⟩
                      case rest =>
                        obtain ⟨rfl, nq, rfl⟩ := hcut
                        have hS := HSS.out.drewN nq
                        clear c1 c2 c3 c4 HP1 HP2 HSS
                        go_wp2_with fail
                        go_roundg (jj - (mm + 1))
                        case measure => omega
                        case rel => exact ⟨mm + 1, by omega, by go_num, hS⟩
                    · obtain rfl : mm = jj := by omega
                      go_wp2_with fail
                      go_roundg (G.length - (mm + 1))
                      case measure => omega
                      case rel => exact ⟨mm + 1, by omega, by go_num, by go_num, hS⟩
            · obtain rfl : jj = G.length := by omega
              obtain ⟨h1, h2, h3⟩ := hS.count
              have hlv := live_calls hS.arena
              rw [h1] at hlv
              have HLV := Lib.hid hlv
              have HSS := Lib.hid hS
              obtain ⟨lc, hlc'⟩ : ∃ x, x = liveCount B G.length := ⟨_, rfl⟩
              have hws := hS.below.size
              clear hS hlv h1
              go_wp2_with fail
              refine HLV.out.mono ?_
              rintro e w5 ⟨v, rfl, hr, hv, hb5⟩
              obtain ⟨_, a', cap', rfl, _, _, _⟩ := hr
              go_wp2_with fail
              go_roundg (n - (k + 1))
              case measure => omega
              case rel => exact ⟨k + 1, _, _, _, _, by go_num, by omega, by omega, stale_live HSS.out hb5⟩
    · as_aux_lemma =>
      have hA := hI.arena
      have hbel := hI.below
      have hbs := hbel.size
      clear hI
      by_cases h1 : k < n
      all_goals
        go_wp2_with fail
        refine (awake6_calls wr).mono ?_
        rintro e w3 ⟨rfl, hb3⟩
        go_wp2
        go_ret
        exact ⟨rfl, hbel.trans (hb3.mono hbs)⟩
end Go.Proofs.Ytbmkioaomjnggaa
