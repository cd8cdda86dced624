/- What arena.Arena is in memory, and what each of its methods does to it. Condition of each: the arena lies in memory (IsArena), which carries its own bounds. -/
import Derived.Test.YtkiogbenbicghaaBase
namespace Go.Proofs.Ytkiogbenbicghaa
open Go.RowKit

/-- Fixed-width rows: the cell j of element i. -/
theorem aflat_get {α β : Type} (f : α → List β) (c : Nat) (hf : ∀ x, (f x).length = c) : ∀ (l : List α) (i j : Nat), j < c → (l.flatMap f)[i * c + j]? = (l[i]?).bind (fun x => (f x)[j]?)
  | [], i, j, _ => by simp
  | x :: l, 0, j, hj => by simp [List.getElem?_append_left, hf, hj]
  | x :: l, i + 1, j, hj => by
    have e : (i + 1) * c + j = c + (i * c + j) := by rw [Nat.add_mul]; omega
    rw [List.flatMap_cons, List.getElem?_append_right (by rw [hf]; omega), e, hf, Nat.add_sub_cancel_left, aflat_get f c hf l i j hj]
    simp
theorem aflat_set {α β : Type} (f : α → List β) (c : Nat) (hf : ∀ x, (f x).length = c) : ∀ (l : List α) (i j : Nat) (x y : α) (v : β), j < c → l[i]? = some x → f y = (f x).set j v →
    (l.flatMap f).set (i * c + j) v = (l.set i y).flatMap f
  | [], i, j, x, y, v, _, h, _ => by simp at h
  | z :: l, 0, j, x, y, v, hj, h, hy => by
    simp only [List.getElem?_cons_zero, Option.some.injEq] at h
    subst h
    simp [List.set_append_left, hf, hj, hy]
  | z :: l, i + 1, j, x, y, v, hj, h, hy => by
    have e : (i + 1) * c + j = c + (i * c + j) := by rw [Nat.add_mul]; omega
    rw [List.flatMap_cons, List.set_append_right _ _ (by rw [hf]; omega), e, hf, Nat.add_sub_cancel_left, aflat_set f c hf l i j x y v hj (by simpa using h) hy]
    simp
theorem aflat_len {α β : Type} (f : α → List β) (c : Nat) (hf : ∀ x, (f x).length = c) (l : List α) : (l.flatMap f).length = l.length * c := by
  induction l with
  | nil => simp
  | cons x l ih => rw [List.flatMap_cons, List.length_append, hf, ih, List.length_cons, Nat.add_mul]; omega

structure APlace where
  gen : Int
  next : Int
  taken : Bool
  deriving DecidableEq
/-- An arena's state: its places, and the first free one. -/
structure Ar where
  list : List APlace
  free : Int
  deriving DecidableEq
def APlace.cells (p : APlace) : List Value := [.int .i64 p.gen, .int .i64 p.next, .bool p.taken]
theorem APlace.cells_len (p : APlace) : p.cells.length = 3 := rfl
structure Ar.Ok (A : Ar) : Prop where
  size : A.list.length ≤ 16
  free0 : -1 ≤ A.free
  free1 : A.free < A.list.length
  gen0 : ∀ p ∈ A.list, 0 ≤ p.gen
  gen1 : ∀ p ∈ A.list, p.gen ≤ 255
  next0 : ∀ p ∈ A.list, -1 ≤ p.next
  next1 : ∀ p ∈ A.list, p.next < A.list.length
def Ar.at (A : Ar) (i : Int) : APlace := A.list.getD i.toNat ⟨0, 0, false⟩
def Ar.handle (A : Ar) (i : Int) : Int := 1 + i + 16 * (A.at i).gen
def Ar.take (A : Ar) : Int × Bool × Ar :=
  if A.free = -1 then (0, false, A) else (A.handle A.free, true, ⟨A.list.set A.free.toNat { A.at A.free with taken := true }, (A.at A.free).next⟩)
def Ar.place (A : Ar) (h : Int) : Int :=
  if h < 1 then -1 else if A.list.length ≤ (h - 1) % 16 then -1 else if (A.at ((h - 1) % 16)).taken = false then -1 else if A.handle ((h - 1) % 16) = h then (h - 1) % 16 else -1
def Ar.back (A : Ar) (i : Int) : Ar :=
  if (A.at i).gen < 255 then ⟨A.list.set i.toNat ⟨(A.at i).gen + 1, A.free, false⟩, i⟩ else ⟨A.list.set i.toNat { A.at i with taken := false }, A.free⟩
def Ar.giveBack (A : Ar) (h : Int) : Bool × Ar := if A.place h < 0 then (false, A) else (true, A.back (A.place h))
def Ar.live (A : Ar) : List Int := (A.list.zipIdx.filter (fun p => p.1.taken)).map (fun p => 1 + (p.2 : Int) + 16 * p.1.gen)
def Ar.new (n : Int) : Ar :=
  let k := (max 0 (min n 16)).toNat
  ⟨(List.range k).map (fun i => ⟨0, if i + 1 < k then ((i + 1 : Nat) : Int) else -1, false⟩), if k = 0 then -1 else 0⟩

/-- The arena A lies at block g of w; F: its blocks. -/
def IsArena (w : World) (g : Nat) (A : Ar) (F : Nat → Prop) : Prop :=
  A.Ok ∧ ∃ v, w.heap[g]? = some (.cells #[v, .int .i64 A.free] 91 (0, 0)) ∧ w.ownsRow 0 93 3 v A.list.length (A.list.flatMap APlace.cells) ∧ v.ownBlock ≠ some g ∧
    (∀ k, F k ↔ k = g ∨ v.ownBlock = some k)

theorem IsArena.frame {w w' : World} {g : Nat} {A : Ar} {F : Nat → Prop} (h : IsArena w g A F) (hs : ∀ k, F k → w'.heap[k]? = w.heap[k]?) : IsArena w' g A F := by
  obtain ⟨ok, v, hg, ho, hne, hF⟩ := h
  exact ⟨ok, v, (hs g ((hF g).2 (.inl rfl))).trans hg, owns_same ho (fun k hk => hs k ((hF k).2 (.inr hk))), hne, hF⟩
theorem IsArena.lt {w : World} {g : Nat} {A : Ar} {F : Nat → Prop} (h : IsArena w g A F) : ∀ k, F k → k < w.heap.size := by
  obtain ⟨ok, v, hg, ho, hne, hF⟩ := h
  intro k hk
  rcases (hF k).1 hk with rfl | hk
  · exact lt_of_block hg
  · exact (ho.lt k hk).2
theorem IsArena.drew {w : World} {g : Nat} {A : Ar} {F : Nat → Prop} (h : IsArena w g A F) : IsArena w.drew g A F := h.frame (fun _ _ => rfl)
theorem IsArena.drewN {w : World} {g : Nat} {A : Ar} {F : Nat → Prop} (h : IsArena w g A F) (n : Nat) : IsArena (w.drewN n) g A F := h.frame (fun _ _ => rfl)

/-- The cells of a place that is there, as the walk asks for them. -/
theorem arena_cells {w : World} {b cap : Nat} {A : Ar} {e : TypeId} (ho : w.ownsRow 0 e 3 (.slice (some ⟨b, 0, none⟩) A.list.length cap) A.list.length (A.list.flatMap APlace.cells)) (i : Nat) (hi : i < A.list.length) :
    w.cell? ⟨b, i * 3, none⟩ = some (.int .i64 (A.at i).gen) ∧ w.cell? ⟨b, i * 3 + 1, none⟩ = some (.int .i64 (A.at i).next) ∧ w.cell? ⟨b, i * 3 + 2, none⟩ = some (.bool (A.at i).taken) := by
  have hc : ∀ j, j < 3 → w.cell? ⟨b, i * 3 + j, none⟩ = (A.at i).cells[j]? := by
    intro j hj
    rw [ho.cellAt _ (by omega), aflat_get APlace.cells 3 APlace.cells_len _ _ _ hj]
    simp [Ar.at, List.getElem?_eq_getElem hi]
  exact ⟨hc 0 (by omega), hc 1 (by omega), hc 2 (by omega)⟩

theorem arena_mem {A : Ar} {i : Nat} (hi : i < A.list.length) : A.at i ∈ A.list := by
  simp [Ar.at, List.getElem?_eq_getElem hi]

set_option maxHeartbeats 4000000 in
theorem handle_calls {w : World} {g b n cap i : Nat} {gen : Int} (hi : i < n) (hn : n ≤ 16) (h0 : 0 ≤ gen) (h1 : gen ≤ 255)
    (hl : w.cell? ⟨g, 0, none⟩ = some (.slice (some ⟨b, 0, none⟩) n cap)) (hg : w.cell? ⟨b, i * 3, none⟩ = some (.int .i64 gen)) :
    Calls Try.prog 67 #[.pointer (some ⟨g, 0, none⟩), .int .i64 i] w fun e w' => e = .returned (.int .i64 (1 + i + 16 * gen)) ∧ w = w' := by
  go_enter Try.func67, Try.ntmps67
  go_wp2
  go_ret
  exact ⟨rfl, rfl⟩

/-- Of no arena there is nothing to take. -/
theorem take_nil (w : World) : Calls Try.prog 57 #[.pointer none] w fun e w' => e = .returned (.tuple #[.int .i64 0, .bool false]) ∧ w = w' := by
  go_enter Try.func57, Try.ntmps57
  go_wp2
  go_ret2
  exact ⟨rfl, rfl⟩

/-- A store into a place, and one into the field 'free'. -/
theorem IsArena.store {w : World} {g b n cap : Nat} {A : Ar} {F : Nat → Prop} {fr : Int}
    (hg : w.heap[g]? = some (.cells #[.slice (some ⟨b, 0, none⟩) n cap, .int .i64 fr] 91 (0, 0)))
    (ho : w.ownsRow 0 93 3 (.slice (some ⟨b, 0, none⟩) n cap) n (A.list.flatMap APlace.cells)) (hn : n = A.list.length) (hfr : fr = A.free) (hne : b ≠ g) (hF : ∀ k, F k ↔ k = g ∨ b = k) (ok : A.Ok) : IsArena w g A F := by
  subst hn hfr
  exact ⟨ok, _, hg, ho, by simpa [Value.ownBlock] using hne, by simpa [Value.ownBlock] using hF⟩

theorem Ar.Ok.set {A : Ar} (ok : A.Ok) (i : Nat) (p : APlace) (fr : Int) (h0 : -1 ≤ fr) (h1 : fr < A.list.length) (g0 : 0 ≤ p.gen) (g1 : p.gen ≤ 255) (n0 : -1 ≤ p.next) (n1 : p.next < A.list.length) : Ar.Ok ⟨A.list.set i p, fr⟩ := by
  refine ⟨by simpa using ok.size, h0, by simpa using h1, ?_, ?_, ?_, ?_⟩
  all_goals
    intro q hq
    rcases List.mem_or_eq_of_mem_set hq with h | rfl
  · exact ok.gen0 q h
  · exact g0
  · exact ok.gen1 q h
  · exact g1
  · exact ok.next0 q h
  · exact n0
  · simpa using ok.next1 q h
  · simpa using n1

set_option maxHeartbeats 4000000 in
theorem take_calls {w : World} {g : Nat} {A : Ar} {F : Nat → Prop} (h : IsArena w g A F) :
    Calls Try.prog 57 #[.pointer (some ⟨g, 0, none⟩)] w fun e w' =>
      e = .returned (.tuple #[.int .i64 A.take.1, .bool A.take.2.1]) ∧ IsArena w' g A.take.2.2 F ∧ Ext w w' F := by
  have h0 := h
  obtain ⟨ok, v, hg, ho, hne, hF⟩ := h
  obtain ⟨fr, hfr⟩ : ∃ fr, fr = A.free := ⟨_, rfl⟩
  rw [← hfr] at hg
  by_cases he : A.free = -1
  · obtain rfl : fr = -1 := hfr.trans he
    have ht : A.take = (0, false, A) := by simp [Ar.take, he]
    have HT := Lib.hid ht
    have H := Lib.hid he
    clear he ht hfr
    have c1 : w.cell? ⟨g, 1, none⟩ = some (.int .i64 (-1)) := blk_cell hg 1
    go_enter Try.func57, Try.ntmps57
    go_wp2
    go_ret2
    rw [HT.out]
    exact ⟨rfl, h0, Ext.refl _ _⟩
  · obtain ⟨i, hi⟩ := Int.eq_ofNat_of_zero_le (a := A.free) (by have := ok.free0; omega)
    obtain rfl : fr = (i : Int) := hfr.trans hi
    have hin : i < A.list.length := by have := ok.free1; omega
    obtain ⟨b, cap, rfl, hnc, hcm, hbl⟩ := owns_pos ho (by omega)
    simp only [Value.ownBlock] at hne hF
    have hbg : b ≠ g := by simpa using hne
    obtain ⟨d0, d1, d2⟩ := arena_cells ho i hin
    have hm := arena_mem hin
    have g0 := ok.gen0 _ hm
    have g1 := ok.gen1 _ hm
    have hcm := ok.size
    have n0 := ok.next0 _ hm
    have n1 := ok.next1 _ hm
    obtain ⟨len, hlen⟩ : ∃ len, len = A.list.length := ⟨_, rfl⟩
    have ht : A.take = (1 + (i : Int) + 16 * (A.at i).gen, true, ⟨A.list.set i { A.at i with taken := true }, (A.at i).next⟩) := by simp [Ar.take, hi, Ar.handle]
    obtain ⟨p, hp⟩ : ∃ p, p = A.at i := ⟨_, rfl⟩
    rw [← hp] at d0 d1 d2 g0 g1 n0 n1 ht
    have HT := Lib.hid ht
    have HI := Lib.hid hi
    have HP := Lib.hid hp
    rw [← hlen] at hg ho hin hnc n1 hcm
    have HL := Lib.hid hlen
    clear ht hi he hfr hm hp hlen
    have c0 : w.cell? ⟨g, 0, none⟩ = some (.slice (some ⟨b, 0, none⟩) len cap) := blk_cell hg 0
    have c1 : w.cell? ⟨g, 1, none⟩ = some (.int .i64 i) := blk_cell hg 1
    have z1 := blk_free hg 1
    have z2 := ho.frozenAt (i * 3 + 2)
    go_enter Try.func57, Try.ntmps57
    go_wp2_with fail
    go_region
    go_wp2_with fail
    refine (handle_calls (b := b) (n := len) (cap := cap) (gen := p.gen) hin hcm g0 g1 ?_ ?_).mono ?_
    · go_simp
    · go_simp
    rintro e w' ⟨rfl, rfl⟩
    go_wp2
    go_ret2
    rw [HT.out]
    have hs := ho.stored (i * 3 + 2) (.bool true)
    refine ⟨rfl, IsArena.store (b := b) (n := len) (cap := cap) (fr := p.next) ?_ ?_ (by simpa using HL.out) rfl hbg (by simpa using hF) ?_, ?_⟩
    · have := heap_setCell_same w g 1 _ _ (.int .i64 p.next) hg
      show (((w.setCell _ _).setCell _ _).heap)[g]? = _
      rw [heap_setCell_other _ _ _ _ (by simpa using Ne.symm hbg)]
      exact this
    · show ((w.setCell _ _).setCell _ _).ownsRow _ _ _ _ _ _
      have h1 := ownsRow_setCell_other ho (a := ⟨g, 1, none⟩) hne (.int .i64 p.next)
      have h2 := (h1.stored (i * 3 + 2) (.bool true)).1
      rw [aflat_set APlace.cells 3 APlace.cells_len A.list i 2 p { p with taken := true } _ (by omega) (by rw [HP.out]; simp [Ar.at, List.getElem?_eq_getElem (show i < A.list.length by rw [← HL.out]; exact hin)]) rfl] at h2
      exact h2
    · have := HL.out; exact ok.set i _ _ n0 (by omega) g0 g1 n0 (show p.next < _ by omega)
    · exact (((Ext.refl w F).setCell (fun _ => (hF g).2 (.inl rfl)) _).setCell (fun _ => (hF b).2 (.inr rfl)) _).drew

theorem place_nil (h : Int) (w : World) : Calls Try.prog 59 #[.pointer none, .int .i64 h] w fun e w' => e = .returned (.int .i64 (-1)) ∧ w = w' := by
  go_enter Try.func59, Try.ntmps59
  go_wp2
  go_ret
  exact ⟨rfl, rfl⟩

set_option maxHeartbeats 4000000 in
theorem place_calls {w : World} {g : Nat} {A : Ar} {F : Nat → Prop} (hA : IsArena w g A F) (h : Int) (hh : h ≤ 9223372036854775807) :
    Calls Try.prog 59 #[.pointer (some ⟨g, 0, none⟩), .int .i64 h] w fun e w' => e = .returned (.int .i64 (A.place h)) ∧ w = w' := by
  obtain ⟨ok, v, hg, ho, hne, hF⟩ := hA
  by_cases h1 : h < 1
  · have ht := Lib.hid (show A.place h = -1 by simp [Ar.place, h1])
    go_enter Try.func59, Try.ntmps59
    go_wp2
    go_ret
    rw [ht.out]
    exact ⟨rfl, rfl⟩
  obtain ⟨a, cap, rfl, hnc, hcm, hpos⟩ := owns_shape ho
  have c0 : w.cell? ⟨g, 0, none⟩ = some (.slice a A.list.length cap) := blk_cell hg 0
  have hsz := ok.size
  obtain ⟨i, hi⟩ := Int.eq_ofNat_of_zero_le (a := (h - 1) % 16) (by omega)
  have hi16 : i < 16 := by omega
  by_cases h2 : A.list.length ≤ i
  · have ht := Lib.hid (show A.place h = -1 by simp only [Ar.place, hi]; rw [if_neg h1, if_pos (by omega)])
    obtain ⟨len, hlen⟩ : ∃ len, len = A.list.length := ⟨_, rfl⟩
    rw [← hlen] at c0 h2
    clear hlen ho hnc hsz
    go_enter Try.func59, Try.ntmps59
    go_wp2
    go_ret
    rw [ht.out]
    exact ⟨rfl, rfl⟩
  obtain ⟨b, rfl⟩ := hpos (by omega)
  obtain ⟨d0, d1, d2⟩ := arena_cells ho i (by omega)
  have hm := arena_mem (A := A) (i := i) (by omega)
  have g0 := ok.gen0 _ hm
  have g1 := ok.gen1 _ hm
  obtain ⟨len, hlen⟩ : ∃ len, len = A.list.length := ⟨_, rfl⟩
  obtain ⟨p, hp⟩ : ∃ p, p = A.at i := ⟨_, rfl⟩
  have HL := Lib.hid hlen
  rw [← hp] at d0 d1 d2 g0 g1
  rw [← hlen] at c0 h2 hsz hnc ho
  have ht := Lib.hid (show A.place h = if p.taken = false then -1 else if 1 + (i : Int) + 16 * p.gen = h then (i : Int) else -1 by
    simp only [Ar.place, hi, Ar.handle, ← hp]
    rw [if_neg h1, if_neg (by omega)])
  clear hlen hp
  by_cases h3 : p.taken = false
  · rw [h3] at d2
    have ht := Lib.hid (show A.place h = -1 by rw [ht.out, if_pos h3])
    clear h3
    go_enter Try.func59, Try.ntmps59
    go_wp2
    go_ret
    rw [ht.out]
    exact ⟨rfl, rfl⟩
  · have h3 : p.taken = true := by simpa using h3
    rw [h3] at d2
    have ht := Lib.hid (show A.place h = if 1 + (i : Int) + 16 * p.gen = h then (i : Int) else -1 by rw [ht.out, if_neg (by simp [h3])])
    clear h3
    by_cases h4 : 1 + (i : Int) + 16 * p.gen = h
    all_goals
      have h5 := Lib.hid h4
    · have b4 : (1 + (i : Int) + 16 * p.gen != h) = false := by simp [h4]
      clear h4
      go_enter Try.func59, Try.ntmps59
      go_wp2_with fail
      refine (handle_calls (b := b) (n := len) (cap := cap) (gen := p.gen) (by omega) hsz g0 g1 c0 d0).mono ?_
      rintro e w' ⟨rfl, rfl⟩
      go_wp2
      go_ret
      rw [ht.out, if_pos h5.out]
      exact ⟨rfl, rfl⟩
    · have b4 : (1 + (i : Int) + 16 * p.gen != h) = true := by simpa [bne_iff_ne] using h4
      clear h4
      go_enter Try.func59, Try.ntmps59
      go_wp2_with fail
      refine (handle_calls (b := b) (n := len) (cap := cap) (gen := p.gen) (by omega) hsz g0 g1 c0 d0).mono ?_
      rintro e w' ⟨rfl, rfl⟩
      go_wp2
      go_ret
      rw [ht.out, if_neg h5.out]
      exact ⟨rfl, rfl⟩

theorem free_nil (h : Int) (w : World) : Calls Try.prog 58 #[.pointer none, .int .i64 h] w fun e w' => e = .returned (.bool false) ∧ w = w' := by
  go_enter Try.func58, Try.ntmps58
  go_wp2_with fail
  refine (place_nil h w).mono ?_
  rintro e w' ⟨rfl, rfl⟩
  go_wp2
  go_ret
  exact ⟨rfl, rfl⟩

theorem Ar.place_range (A : Ar) (h : Int) : -1 ≤ A.place h ∧ (0 ≤ A.place h → A.place h < A.list.length) := by
  unfold Ar.place
  repeat' split
  all_goals omega

set_option maxHeartbeats 4000000 in
theorem free_calls {w : World} {g : Nat} {A : Ar} {F : Nat → Prop} (hA : IsArena w g A F) (h : Int) (hh : h ≤ 9223372036854775807) :
    Calls Try.prog 58 #[.pointer (some ⟨g, 0, none⟩), .int .i64 h] w fun e w' =>
      e = .returned (.bool (A.giveBack h).1) ∧ IsArena w' g (A.giveBack h).2 F ∧ Ext w w' F := by
  have hr := A.place_range h
  obtain ⟨r, hr0⟩ : ∃ r, r = A.place h := ⟨_, rfl⟩
  have hc := place_calls hA h hh
  rw [← hr0] at hr hc
  by_cases h1 : r < 0
  · have ht := Lib.hid (show A.giveBack h = (false, A) by rw [Ar.giveBack, ← hr0, if_pos h1])
    clear hr0
    go_enter Try.func58, Try.ntmps58
    go_wp2_with fail
    refine hc.mono ?_
    rintro e w' ⟨rfl, rfl⟩
    go_wp2
    go_ret
    rw [ht.out]
    exact ⟨rfl, hA, Ext.refl _ _⟩
  obtain ⟨i, rfl⟩ := Int.eq_ofNat_of_zero_le (a := r) (by omega)
  have hin : i < A.list.length := by have := hr.2 (by omega); omega
  have ht := Lib.hid (show A.giveBack h = (true, A.back i) by rw [Ar.giveBack, ← hr0, if_neg h1])
  obtain ⟨ok, v, hg, ho, hne, hF⟩ := hA
  obtain ⟨b, cap, rfl, hnc, hcm, hbl⟩ := owns_pos ho (by omega)
  simp only [Value.ownBlock] at hne hF
  have hbg : b ≠ g := by simpa using hne
  obtain ⟨d0, d1, d2⟩ := arena_cells ho i hin
  have hm := arena_mem hin
  have g0 := ok.gen0 _ hm
  have g1 := ok.gen1 _ hm
  have n0 := ok.next0 _ hm
  have n1 := ok.next1 _ hm
  have f0 := ok.free0
  have f1 := ok.free1
  have hsz := ok.size
  obtain ⟨len, hlen⟩ : ∃ len, len = A.list.length := ⟨_, rfl⟩
  obtain ⟨fr, hfr⟩ : ∃ fr, fr = A.free := ⟨_, rfl⟩
  obtain ⟨p, hp⟩ : ∃ p, p = A.at i := ⟨_, rfl⟩
  have hpl := Lib.hid (show A.list[i]? = some p by rw [hp]; simp [Ar.at, List.getElem?_eq_getElem hin])
  have hbk := Lib.hid (show A.back i = if p.gen < 255 then ⟨A.list.set i ⟨p.gen + 1, fr, false⟩, i⟩ else ⟨A.list.set i ⟨p.gen, p.next, false⟩, fr⟩ by rw [Ar.back, ← hp, ← hfr]; rfl)
  rw [← hp] at d0 d1 d2 g0 g1 n0 n1
  rw [← hfr] at hg f0 f1
  rw [← hlen] at hg ho hin hnc n1 f1 hsz
  have HL := Lib.hid hlen
  have HC := Lib.hid hc
  clear hlen hfr hp hr0 hm hr h1 hc
  have c0 : w.cell? ⟨g, 0, none⟩ = some (.slice (some ⟨b, 0, none⟩) len cap) := blk_cell hg 0
  have c1 : w.cell? ⟨g, 1, none⟩ = some (.int .i64 fr) := blk_cell hg 1
  have z1 := blk_free hg 1
  have y0 := ho.frozenAt (i * 3)
  have y1 := ho.frozenAt (i * 3 + 1)
  have y2 := ho.frozenAt (i * 3 + 2)
  have o1 := (ho.stored (i * 3 + 2) (.bool false)).1
  by_cases h2 : p.gen < 255
  · go_enter Try.func58, Try.ntmps58
    go_wp2_with fail
    refine HC.out.mono ?_
    rintro e w' ⟨rfl, rfl⟩
    go_wp2_with fail
    go_region
    go_wp2
    go_ret
    rw [ht.out, hbk.out, if_pos h2]
    have o2 := (((ho.stored (i * 3 + 2) (.bool false)).1.stored (i * 3) (.int .i64 (p.gen + 1))).1.stored (i * 3 + 1) (.int .i64 fr)).1
    refine ⟨rfl, IsArena.store (b := b) (n := len) (cap := cap) (fr := i) ?_ ?_ (by simpa using HL.out) rfl hbg (by simpa using hF) ?_, ?_⟩
    · refine (blk_set (i := 1) (cs := #[.slice (some ⟨b, 0, none⟩) len cap, .int .i64 fr]) ?_ _)
      show ((((w.setCell _ _).setCell _ _).setCell _ _).heap)[g]? = _
      rw [heap_setCell_other _ _ _ _ (by simpa using Ne.symm hbg), heap_setCell_other _ _ _ _ (by simpa using Ne.symm hbg), heap_setCell_other _ _ _ _ (by simpa using Ne.symm hbg)]
      exact hg
    · have h3 := ownsRow_setCell_other o2 (a := ⟨g, 1, none⟩) hne (.int .i64 i)
      rw [aflat_set APlace.cells 3 APlace.cells_len A.list i 2 p ⟨p.gen, p.next, false⟩ _ (by omega) hpl.out rfl] at h3
      have := aflat_set APlace.cells 3 APlace.cells_len (A.list.set i ⟨p.gen, p.next, false⟩) i 0 ⟨p.gen, p.next, false⟩ ⟨p.gen + 1, p.next, false⟩ (.int .i64 (p.gen + 1)) (by omega) (by rw [List.getElem?_set_self (by rw [← HL.out]; exact hin)]) rfl
      rw [Nat.add_zero] at this
      rw [this, aflat_set APlace.cells 3 APlace.cells_len _ i 1 ⟨p.gen + 1, p.next, false⟩ ⟨p.gen + 1, fr, false⟩ _ (by omega) (by rw [List.set_set, List.getElem?_set_self (by rw [← HL.out]; exact hin)]) rfl] at h3
      simp only [List.set_set] at h3
      exact h3
    · have := HL.out; exact ok.set i _ _ (by omega) (by omega) (show 0 ≤ p.gen + 1 by omega) (show p.gen + 1 ≤ 255 by omega) f0 (show fr < _ by omega)
    · exact (((((Ext.refl w F).setCell (fun _ => (hF b).2 (.inr rfl)) _).setCell (fun _ => (hF b).2 (.inr rfl)) _).setCell (fun _ => (hF b).2 (.inr rfl)) _).setCell (fun _ => (hF g).2 (.inl rfl)) _).drew
  · go_enter Try.func58, Try.ntmps58
    go_wp2_with fail
    refine HC.out.mono ?_
    rintro e w' ⟨rfl, rfl⟩
    go_wp2
    go_ret
    rw [ht.out, hbk.out, if_neg (by omega)]
    refine ⟨rfl, IsArena.store (b := b) (n := len) (cap := cap) (fr := fr) ?_ ?_ (by simpa using HL.out) rfl hbg (by simpa using hF) ?_, ?_⟩
    · rw [heap_setCell_other _ _ _ _ (by simpa using Ne.symm hbg)]
      exact hg
    · rw [aflat_set APlace.cells 3 APlace.cells_len A.list i 2 p ⟨p.gen, p.next, false⟩ _ (by omega) hpl.out rfl] at o1
      exact o1
    · have := HL.out; exact ok.set i _ _ f0 (show fr < _ by omega) g0 g1 n0 (show p.next < _ by omega)
    · exact ((Ext.refl w F).setCell (fun _ => (hF b).2 (.inr rfl)) _)
end Go.Proofs.Ytkiogbenbicghaa
