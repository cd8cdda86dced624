/- The walk of the statement FifoPlays: it returns true. Conditions: the numbers fit their kinds, the slice can be read as data. -/
import Derived.Test.YtkiogbenbicghaaRef07c
import Derived.Test.YtkiogbenbicghaaLaw07d
import Derived.Deep.CutBlock
import Derived.Deep.DeepCutAuto
namespace Go.Proofs.Ytkiogbenbicghaa
open Go.RowKit BigFrame

/-- Both in memory: the queues (lists LF) and the document's queues (lists LQ). -/
structure QQ (w wr : World) (G bq bn n0 g b N : Nat) (LF LQ : List (List Nat)) : Prop where
  f : IsF wr G bq bn LF N
  q : IsQ wr n0 g b LQ N
  below : Below w.heap.size w wr
  hq : w.heap.size ≤ bq
  hn : w.heap.size ≤ bn
  l1 : G < n0
  l2 : bq < n0
  l3 : bn < n0
  w0 : w.heap.size ≤ n0
  len : ∀ (i : Nat) (l : List Nat), LQ[i]? = some l → l.length ≤ 32
/-- Blocks above n0 are left alone, but block b. -/
def Kept (n0 b : Nat) (w1 w2 : World) : Prop := w1.heap.size ≤ w2.heap.size ∧ ∀ k, n0 ≤ k → k ≠ b → k < w1.heap.size → w2.heap[k]? = w1.heap[k]?
theorem Kept.trans {n0 b : Nat} {w1 w2 w3 : World} (h : Kept n0 b w1 w2) (k : Kept n0 b w2 w3) : Kept n0 b w1 w3 :=
  ⟨Nat.le_trans h.1 k.1, fun i h1 h2 h3 => (k.2 i h1 h2 (Nat.lt_of_lt_of_le h3 h.1)).trans (h.2 i h1 h2 h3)⟩
section
variable {w wr w2 : World} {G bq bn n0 g b N : Nat} {LF LQ L' : List (List Nat)}
theorem QQ.n0lt (h : QQ w wr G bq bn n0 g b N LF LQ) : n0 ≤ wr.heap.size := Nat.le_trans h.q.g0 (Nat.le_of_lt h.q.glt)
theorem QQ.actF (h : QQ w wr G bq bn n0 g b N LF LQ) (hf : IsF w2 G bq bn L' N) (hx : Ext wr w2 (FqF bq bn)) : QQ w w2 G bq bn n0 g b N L' LQ ∧ Kept n0 b wr w2 := by
  have hF : ∀ k, n0 ≤ k → ¬ FqF bq bn k := by
    have := h.l2
    have := h.l3
    rintro k hk (rfl | rfl) <;> omega
  exact ⟨⟨hf, h.q.frame hx.size (fun k h1 h2 => hx.block k h2 (hF k h1)), ext_below h.below hx h.hq h.hn h.below.size, h.hq, h.hn, h.l1, h.l2, h.l3, h.w0, h.len⟩, hx.size, fun k h1 _ h2 => hx.block k h2 (hF k h1)⟩
theorem QQ.actQ (h : QQ w wr G bq bn n0 g b N LF LQ) (hq : IsQ w2 n0 g b LF N) (hx : Ext wr w2 (fun k => k = b)) : QQ w w2 G bq bn n0 g b N LF LF ∧ Kept n0 b wr w2 := by
  have hb := h.q.b0
  have h1 := h.l1
  have h2 := h.l2
  have h3 := h.l3
  have hf : IsF w2 G bq bn LF N := h.f.frame (fun k hk => hx.block k (by have := h.f.lt; omega) (by omega))
  refine ⟨⟨hf, hq, below_ext h.below hx (fun k hk => by have := h.w0; omega), h.hq, h.hn, h1, h2, h3, h.w0, fun i l hl => Nat.le_trans (isF_len hf hl) hq.items⟩, hx.size, fun k _ hk h4 => hx.block k h4 hk⟩
theorem QQ.plus (h : QQ w wr G bq bn n0 g b N LF LQ) (hb : Below wr.heap.size wr w2) : QQ w w2 G bq bn n0 g b N LF LQ ∧ Kept n0 b wr w2 :=
  ⟨⟨h.f.frame (fun k hk => hb.block k (by have := h.f.lt; omega)), h.q.below hb, h.below.trans (hb.mono h.below.size), h.hq, h.hn, h.l1, h.l2, h.l3, h.w0, h.len⟩, hb.size, fun k _ _ h4 => hb.block k h4⟩
theorem QQ.drew (h : QQ w wr G bq bn n0 g b N LF LQ) : QQ w wr.drew G bq bn n0 g b N LF LQ := (h.plus (w2 := wr.drew) ⟨rfl, rfl, rfl, Nat.le_refl _, fun _ _ => rfl⟩).1
theorem QQ.drewN (h : QQ w wr G bq bn n0 g b N LF LQ) (n : Nat) : QQ w (wr.drewN n) G bq bn n0 g b N LF LQ := (h.plus (w2 := wr.drewN n) ⟨rfl, rfl, rfl, Nat.le_refl _, fun _ _ => rfl⟩).1
theorem QQ.popF (h : QQ w wr G bq bn n0 g b N LF LF) (n : Int) : Calls Try.prog 15 #[.pointer (some ⟨G, 0, none⟩), .int .i64 n] wr fun e w' => e = .returned (.tuple #[.int .i64 (popL LF n).1, .bool (popL LF n).2.1]) ∧ QQ w w' G bq bn n0 g b N (popL LF n).2.2 LF ∧ Kept n0 b wr w' :=
  (pop_calls h.f n).mono fun _ _ ⟨h1, h2, h3⟩ => ⟨h1, h.actF h2 h3⟩
theorem QQ.removeF (h : QQ w wr G bq bn n0 g b N LF LF) (n : Int) : Calls Try.prog 17 #[.pointer (some ⟨G, 0, none⟩), .int .i64 n] wr fun e w' => e = .returned (.bool (removeL LF n).1) ∧ QQ w w' G bq bn n0 g b N (removeL LF n).2 LF ∧ Kept n0 b wr w' :=
  (remove_calls h.f n).mono fun _ _ ⟨h1, h2, h3⟩ => ⟨h1, h.actF h2 h3⟩
theorem QQ.pushF (h : QQ w wr G bq bn n0 g b N LF LF) (n x : Int) : Calls Try.prog 19 #[.pointer (some ⟨G, 0, none⟩), .int .i64 n, .int .i64 x] wr fun e w' => e = .returned (.bool (pushL LF N n x).1) ∧ QQ w w' G bq bn n0 g b N (pushL LF N n x).2 LF ∧ Kept n0 b wr w' :=
  (push_calls h.f n x).mono fun _ _ ⟨h1, h2, h3⟩ => ⟨h1, h.actF h2 h3⟩
variable {n x : Int}
theorem QQ.popQ (h : QQ w wr G bq bn n0 g b N (popL LQ n).2.2 LQ) : Calls Try.prog 16 #[.pointer (some ⟨g, 0, none⟩), .int .i64 n] wr fun e w' => e = .returned (.tuple #[.int .i64 (popL LQ n).1, .bool (popL LQ n).2.1]) ∧ QQ w w' G bq bn n0 g b N (popL LQ n).2.2 (popL LQ n).2.2 ∧ Kept n0 b wr w' :=
  (rpop7_calls h.q h.n0lt h.len n).mono fun _ _ ⟨h1, h2, h3⟩ => ⟨h1, h.actQ h2 h3⟩
theorem QQ.pushQ (h : QQ w wr G bq bn n0 g b N (pushL LQ N n x).2 LQ) : Calls Try.prog 20 #[.pointer (some ⟨g, 0, none⟩), .int .i64 n, .int .i64 x] wr fun e w' => e = .returned (.bool (pushL LQ N n x).1) ∧ QQ w w' G bq bn n0 g b N (pushL LQ N n x).2 (pushL LQ N n x).2 ∧ Kept n0 b wr w' :=
  (rpush7_calls h.q h.n0lt h.len n x).mono fun _ _ ⟨h1, h2, h3⟩ => ⟨h1, h.actQ h2 h3⟩
theorem QQ.removeQ (h : QQ w wr G bq bn n0 g b N (removeL LQ n).2 LQ) (he : removeQ LQ n = removeL LQ n) : Calls Try.prog 18 #[.pointer (some ⟨g, 0, none⟩), .int .i64 n] wr fun e w' => e = .returned (.bool (removeL LQ n).1) ∧ QQ w w' G bq bn n0 g b N (removeL LQ n).2 (removeL LQ n).2 ∧ Kept n0 b wr w' := by
  have h0 := rremove7_calls h.q h.n0lt h.len n
  rw [he] at h0
  exact h0.mono fun _ _ ⟨h1, h2, h3⟩ => ⟨h1, h.actQ h2 h3⟩
end

set_option maxRecDepth 100000 in
set_option maxHeartbeats 16000000 in
theorem fifoPlays_walk (w : World) (qs : Int) (_ : -9223372036854775808 ≤ qs) (_ : qs ≤ 9223372036854775807) (its : Int) (_ : -9223372036854775808 ≤ its) (_ : its ≤ 9223372036854775807) (va : Value) (na : Nat) (xs : List (List Int)) (hl : xs.length = na) (ra : Reads w 3 va na (xs.flatMap (rowCells [.u8, .i64, .i64])))
    (ba : ∀ x ∈ xs, x.length = [IntKind.u8, .i64, .i64].length ∧ ∀ (j : Nat) k y, [IntKind.u8, .i64, .i64][j]? = some k → x[j]? = some y → (Lit.int k y).wf = true) (_ : na * Try.prog.bytesOf 28 ≤ 140737488351232) :
    Calls Try.prog 3 #[.int .i64 qs, .int .i64 its, va] w fun e w' => e = .returned (.bool true) ∧ Below w.heap.size w w' := by
  have hlt := ra.lt
  have RA := ra
  obtain ⟨_, aa, ca, rfl, ha1, ha2, ha3⟩ := ra
  unfold maxLen at ha2
  have HL := Lib.hid hl
  have HRA := Lib.hid RA
  have HBA := Lib.hid ba
  have HA3 := Lib.hid (fun h : 0 < na => (ha3 h).imp (fun b h => h.imp (fun o h => h.1)))
  have HLT := Lib.hid hlt
  clear hl RA ba ha3 hlt
  go_enter Try.func3, Try.ntmps3
  go_wp2_with fail
  refine (new_calls qs its _).mono ?_
  rintro e w1 ⟨G, bq, bn, rfl, h1, hg, hq, hn, hbel1⟩
  have H1 := Lib.hid h1
  have HB1 := Lib.hid hbel1
  clear h1 hbel1
  go_wp2_with fail
  refine (rnew7_calls qs its _).mono ?_
  rintro e w2 ⟨g, b, rfl, h2, hbel2⟩
  have hQ0 : QQ w w2 G bq bn w1.heap.size g b (heldN its) (List.replicate (heldN qs) []) (List.replicate (heldN qs) []) := by
    have hlt := H1.out.lt
    refine ⟨H1.out.frame (fun k hk => hbel2.block k (by omega)), h2, HB1.out.trans (hbel2.mono HB1.out.size), hq, hn, hlt.1, hlt.2.1, hlt.2.2, HB1.out.size, fun i l hl => ?_⟩
    rw [List.getElem?_replicate] at hl
    split at hl
    · injection hl with hl; subst hl; exact Nat.zero_le _
    · cases hl
  have hN := heldN_le its
  obtain ⟨nl, hnl⟩ : ∃ n, n = heldN qs := ⟨_, rfl⟩
  have hnl32 : nl ≤ 32 := by rw [hnl]; exact heldN_le qs
  rw [← hnl] at hQ0
  generalize heldN its = N at hQ0 hN
  generalize w1.heap.size = n0 at hQ0
  have HQ0 := Lib.hid hQ0
  have HLen0 := Lib.hid (show (List.replicate nl ([] : List Nat)).length = nl by simp)
  clear hQ0 h2 hbel2 H1 HB1 hnl hg hq hn
  go_wp2_with fail
  go_loopw [9] (fun u wr => ∃ (i : Nat) (L : List (List Nat)), u = .int .i64 i ∧ i ≤ na ∧ i ≤ 60 ∧ L.length = nl ∧ QQ w wr G bq bn n0 g b N L L) (fun u _ => na - (intOf u).toNat)
  case atStart => exact ⟨0, _, rfl, Nat.zero_le _, by omega, HLen0.out, HQ0.out⟩
  case round =>
    clear HQ0 HLen0
    obtain ⟨i, L, rfl, hin, hi60, hLn, hQ⟩ := hrel
    have iz : (0 : Int) ≤ (i : Int) := Int.natCast_nonneg _
    have HQ := Lib.hid hQ
    have HLn := Lib.hid hLn
    clear hQ hLn
    by_cases hc : i < na ∧ i < 60
    · obtain ⟨hc1, hc2⟩ := hc
      have hc1' : (i : Int) < (na : Int) := by omega
      have hc2' : (i : Int) < 60 := by omega
      obtain ⟨bA, oA, rfl⟩ := HA3.out (by omega)
      have hbA : bA < w.heap.size := HLT.out (by omega) (by omega) bA rfl
      obtain ⟨d, q, x, hd, hk0, hk1, hk2⟩ := act7_cells HRA.out HBA.out HL.out i hc1
      have k0 : wr.cell? ⟨bA, oA + i * 3, none⟩ = some (.int .u8 d) := (HQ.out.below.cell (p := ⟨bA, oA + i * 3, none⟩) hbA).trans hk0
      have k1 : wr.cell? ⟨bA, oA + i * 3 + 1, none⟩ = some (.int .i64 q) := (HQ.out.below.cell (p := ⟨bA, oA + i * 3 + 1, none⟩) hbA).trans hk1
      have k2 : wr.cell? ⟨bA, oA + i * 3 + 2, none⟩ = some (.int .i64 x) := (HQ.out.below.cell (p := ⟨bA, oA + i * 3 + 2, none⟩) hbA).trans hk2
      have hA := (HQ.out.plus ((Below.refl wr.heap.size wr).alloc (Nat.le_refl _) (.cells #[.int .u8 d, .int .i64 q, .int .i64 x] 28))).1
      have hbt : (wr.alloc (.cells #[.int .u8 d, .int .i64 q, .int .i64 x] 28)).heap[wr.heap.size]? = some (.cells #[.int .u8 d, .int .i64 q, .int .i64 x] 28 (0, 0)) := heap_alloc_new wr _
      have hbt0 := HQ.out.n0lt
      have hbtb : wr.heap.size ≠ b := by have := HQ.out.q.blt; omega
      have hsz : wr.heap.size < (wr.alloc (.cells #[.int .u8 d, .int .i64 q, .int .i64 x] 28)).heap.size := by simp
      have HA := Lib.hid hA
      have HBT := Lib.hid hbt
      have HSZ := Lib.hid hsz
      clear hk0 hk1 hk2 hA hbt hsz
      go_upto_block 2 with (fail)
      go_cut [] (fun wc => ∃ L' : List (List Nat), L'.length = nl ∧ QQ w wc G bq bn n0 g b N L' L' ∧ wc.heap[wr.heap.size]? = some (.cells #[.int .u8 d, .int .i64 q, .int .i64 x] 28 (0, 0)))
      case first => as_aux_lemma =>
        have t1 : (wr.alloc (.cells #[.int .u8 d, .int .i64 q, .int .i64 x] 28)).cell? ⟨wr.heap.size, 1, none⟩ = some (.int .i64 q) := blk_cell HBT.out 1
        have t2 : (wr.alloc (.cells #[.int .u8 d, .int .i64 q, .int .i64 x] 28)).cell? ⟨wr.heap.size, 2, none⟩ = some (.int .i64 x) := blk_cell HBT.out 2
        by_cases m0 : (d % 5 == 0) = true
        · as_aux_lemma =>
          have hact := HA.out.popF q
          have hact2 := fun (w2 : World) (h : QQ w w2 G bq bn n0 g b N (popL L q).2.2 L) => h.popQ
          have hlen : (popL L q).2.2.length = nl := by rw [popL_len]; exact HLn.out
          generalize (popL L q).2.2 = L2 at hact hact2 hlen
          generalize (popL L q).1 = p1 at hact hact2
          generalize (popL L q).2.1 = p2 at hact hact2
          have HL2 := Lib.hid hlen
          have HC2 := Lib.hid hact2
          clear hact2 hlen
          go_wp2_with fail
          refine hact.mono ?_
          rintro e w2 ⟨rfl, hQ2, hK2⟩
          have HB2 := Lib.hid ((hK2.2 _ hbt0 hbtb HSZ.out).trans HBT.out)
          have HSZ2 := Lib.hid (Nat.lt_of_lt_of_le HSZ.out hK2.1)
          have s1 : w2.cell? ⟨wr.heap.size, 1, none⟩ = some (.int .i64 q) := blk_cell HB2.out 1
          have HQ2 := Lib.hid hQ2
          clear hact hQ2 hK2
          go_wp2_with fail
          refine (HC2.out w2 HQ2.out).mono ?_
          rintro e w3 ⟨rfl, hQ3, hK3⟩
          have HB3 := Lib.hid ((hK3.2 _ hbt0 hbtb HSZ2.out).trans HB2.out)
          have HQ3 := Lib.hid hQ3
          clear hQ3 hK3
          go_wp2_with fail
          go_meet
          exact ⟨L2, HL2.out, HQ3.out, HB3.out⟩
        · have m0' : (d % 5 == 0) = false := by simpa using m0
          have M0 := Lib.hid m0
          clear m0
          by_cases m1 : (d % 5 == 1) = true
          · as_aux_lemma =>
            have hact := HA.out.drew.removeF x
            have heq := removeQ_eq HA.out.f x
            have hact2 := fun (w2 : World) (h : QQ w w2 G bq bn n0 g b N (removeL L x).2 L) => h.removeQ heq
            have hlen : (removeL L x).2.length = nl := by rw [removeL_len]; exact HLn.out
            generalize (removeL L x).2 = L2 at hact hact2 hlen
            generalize (removeL L x).1 = p1 at hact hact2
            have HL2 := Lib.hid hlen
            have HC1 := Lib.hid hact
            have HC2 := Lib.hid hact2
            clear hact hact2 hlen heq
            go_wp2_with fail
            go_region_held3 (fun w' => w'.cell? ⟨wr.heap.size, 2, none⟩ = some (.int .i64 x)) (first | go_keep | exact hkc | exact hkd)
              (first | (go_at_call 17; refine HC1.out.mono ?_; rintro e w2 ⟨rfl, hQ2, hK2⟩; have HB2 := Lib.hid ((hK2.2 _ hbt0 hbtb HSZ.out).trans HBT.out); have HSZ2 := Lib.hid (Nat.lt_of_lt_of_le HSZ.out hK2.1); have hkc : w2.cell? ⟨wr.heap.size, 2, none⟩ = some (.int .i64 x) := blk_cell HB2.out 2; have HQ2 := Lib.hid hQ2; clear hQ2 hK2) | (go_at_call 18; refine (HC2.out w2 HQ2.out).mono ?_; rintro e w3 ⟨rfl, hQ3, hK3⟩; have HB3 := Lib.hid ((hK3.2 _ hbt0 hbtb HSZ2.out).trans HB2.out); have hkd : w3.cell? ⟨wr.heap.size, 2, none⟩ = some (.int .i64 x) := blk_cell HB3.out 2; have HQ3 := Lib.hid hQ3; clear hQ3 hK3))
            all_goals go_wp2_with fail
            all_goals go_meet
            all_goals exact ⟨L2, HL2.out, HQ3.out, HB3.out⟩
          · as_aux_lemma =>
            have m1' : (d % 5 == 1) = false := by simpa using m1
            have M1 := Lib.hid m1
            clear m1
            have hact := HA.out.drew.pushF q x
            have hact2 := fun (w2 : World) (h : QQ w w2 G bq bn n0 g b N (pushL L N q x).2 L) => h.pushQ
            have hlen : (pushL L N q x).2.length = nl := by rw [pushL_len]; exact HLn.out
            generalize (pushL L N q x).2 = L2 at hact hact2 hlen
            generalize (pushL L N q x).1 = p1 at hact hact2
            have HL2 := Lib.hid hlen
            have HC1 := Lib.hid hact
            have HC2 := Lib.hid hact2
            clear hact hact2 hlen
            go_wp2_with fail
            go_region_held3 (fun w' => w'.cell? ⟨wr.heap.size, 1, none⟩ = some (.int .i64 q) ∧ w'.cell? ⟨wr.heap.size, 2, none⟩ = some (.int .i64 x)) (first | go_keep | exact ⟨hka, hkc⟩ | exact ⟨hkb, hkd⟩)
              (first | (go_at_call 19; refine HC1.out.mono ?_; rintro e w2 ⟨rfl, hQ2, hK2⟩; have HB2 := Lib.hid ((hK2.2 _ hbt0 hbtb HSZ.out).trans HBT.out); have HSZ2 := Lib.hid (Nat.lt_of_lt_of_le HSZ.out hK2.1); have hka : w2.cell? ⟨wr.heap.size, 1, none⟩ = some (.int .i64 q) := blk_cell HB2.out 1; have hkc : w2.cell? ⟨wr.heap.size, 2, none⟩ = some (.int .i64 x) := blk_cell HB2.out 2; have HQ2 := Lib.hid hQ2; clear hQ2 hK2) | (go_at_call 20; refine (HC2.out w2 HQ2.out).mono ?_; rintro e w3 ⟨rfl, hQ3, hK3⟩; have HB3 := Lib.hid ((hK3.2 _ hbt0 hbtb HSZ2.out).trans HB2.out); have hkb : w3.cell? ⟨wr.heap.size, 1, none⟩ = some (.int .i64 q) := blk_cell HB3.out 1; have hkd : w3.cell? ⟨wr.heap.size, 2, none⟩ = some (.int .i64 x) := blk_cell HB3.out 2; have HQ3 := Lib.hid hQ3; clear hQ3 hK3))
            all_goals go_wp2_with fail
            all_goals go_meet
            all_goals exact ⟨L2, HL2.out, HQ3.out, HB3.out⟩
      case rest => as_aux_lemma =>
        obtain ⟨L2, hL2, hQ2, hB2⟩ := hcut
        clear HA HBT HSZ HQ k0 k1 k2
        generalize wr.heap.size = bt at hB2 hbt0 hbtb ⊢
        have HL2 := Lib.hid hL2
        have HQ2 := Lib.hid hQ2
        have HB2 := Lib.hid hB2
        clear hL2 hQ2 hB2
        go_wp2_with fail
        go_loopw [15] (fun u wc => ∃ n : Nat, u = .int .i64 n ∧ n ≤ nl ∧ QQ w wc G bq bn n0 g b N L2 L2 ∧ wc.heap[bt]? = some (.cells #[.int .u8 d, .int .i64 q, .int .i64 x] 28 (0, 0))) (fun u _ => nl - (intOf u).toNat)
        case atStart => exact ⟨0, rfl, Nat.zero_le _, HQ2.out, HB2.out⟩
        case round =>
          clear HQ2 HB2
          obtain ⟨n, rfl, hnn, hQ3, hB3⟩ := hrel
          have nz : (0 : Int) ≤ (n : Int) := Int.natCast_nonneg _
          have c0 := hQ3.q.c0
          rw [HL2.out] at c0
          have HQ3 := Lib.hid hQ3
          have HB3 := Lib.hid hB3
          clear hQ3 hB3
          by_cases hcn : n < nl
          · have hcn' : (n : Int) < (nl : Int) := by omega
            obtain ⟨l, hl⟩ : ∃ l, L2[n]? = some l := ⟨_, List.getElem?_eq_getElem (by rw [HL2.out]; exact hcn)⟩
            obtain ⟨al, cl, d0, hlc, hcm, hrv, _⟩ := HQ3.out.q.list hl
            unfold maxLen at hcm
            have hall := all_calls HQ3.out.drew.f n
            rw [show allL L2 n = l by unfold allL; rw [if_neg (by omega)]; simp [hl]] at hall
            have hlen := fun (W : World) (h : QQ w W G bq bn n0 g b N L2 L2) => len_calls h.f n
            rw [show lenL L2 n = (l.length : Int) by unfold lenL; rw [if_neg (by omega)]; simp [hl]] at hlen
            obtain ⟨ln, hln⟩ : ∃ k, k = l.length := ⟨_, rfl⟩
            rw [← hln] at d0 hlc hall hlen hrv
            have HALL := Lib.hid hall
            have HLEN := Lib.hid hlen
            have HRV := Lib.hid hrv
            have hRd := hrv.1
            rw [← hln] at hRd
            have HRD := Lib.hid hRd
            have hglt := HQ3.out.q.glt
            have hblt := HQ3.out.q.blt
            have HBTL := Lib.hid (lt_of_block HB3.out)
            clear hall hlen hrv hl hln hRd
            go_wp2_with fail
            go_region_held3 (fun w' => w'.cell? ⟨g, 0, none⟩ = some (.slice (some ⟨b, 0, none⟩) nl nl) ∧ w'.cell? ⟨b, n, none⟩ = some (.slice al ln cl)) (first | go_keep | exact ⟨hka, hkb⟩)
              (first | (go_at_call 22; refine HALL.out.mono ?_; rintro e w8 ⟨vv, rfl, hrd, hvb, hb8⟩; have HRD8 := Lib.hid hrd; have HU8 := Lib.hid (HRD.out.frame (fun k hk => hb8.block k (HRV.out.2.1 k hk).2.2.2)); have HQ8 := Lib.hid (HQ3.out.drew.plus hb8).1; have HB8 := Lib.hid ((hb8.block _ HBTL.out).trans HB3.out); have hka : w8.cell? ⟨g, 0, none⟩ = some (.slice (some ⟨b, 0, none⟩) nl nl) := (hb8.cell (p := ⟨g, 0, none⟩) hglt).trans c0; have hkb : w8.cell? ⟨b, n, none⟩ = some (.slice al ln cl) := (hb8.cell (p := ⟨b, n, none⟩) hblt).trans d0; clear hrd hvb hb8) | (go_at_call 21; refine (ints_calls HRD8.out HU8.out).mono ?_; rw [decide_eq_true rfl]; rintro e w9 ⟨rfl, nq, rfl⟩; have HQ9 := Lib.hid (HQ8.out.drewN nq)) | (go_at_call 23; refine (HLEN.out _ HQ9.out).mono ?_; rintro e w9 ⟨rfl, rfl⟩))
            all_goals go_wp2_with fail
            all_goals go_roundw
            case rel => exact ⟨n + 1, by go_num, by omega, HQ9.out, HB8.out⟩
            case measure => simp [intOf]; omega
          · obtain rfl : n = nl := by omega
            have hcn' : ¬ (n : Int) < (n : Int) := by omega
            have hw1 := where_calls HQ3.out.drew.f x
            have hw2 := rwhere_calls HQ3.out.drew.q x
            have s2 : wr.cell? ⟨bt, 2, none⟩ = some (.int .i64 x) := blk_cell HB3.out 2
            generalize whereL L2 x = r at hw1 hw2
            have HW1 := Lib.hid hw1
            have HW2 := Lib.hid hw2
            clear hw1 hw2
            go_wp2_with fail
            go_region_held3 (fun w' => w'.cell? ⟨bt, 2, none⟩ = some (.int .i64 x)) (first | go_keep | exact s2) (first | (go_at_call 24; refine HW1.out.mono ?_; rintro e w8 ⟨rfl, rfl⟩) | (go_at_call 25; refine HW2.out.mono ?_; rintro e w9 ⟨rfl, rfl⟩))
            all_goals go_wp2_with fail
            all_goals go_roundw
            case rel => exact ⟨i + 1, L2, by go_num, by omega, by omega, HL2.out, HQ3.out.drew⟩
            case measure => simp [intOf]; omega
    · have hB := HQ.out.below
      have HBb := Lib.hid hB
      clear hB
      by_cases h1 : i < na
      all_goals
        go_wp2_with fail
        refine (awake7_calls _).mono ?_
        rintro e w6 ⟨rfl, hb6⟩
        have HB6 := Lib.hid (HBb.out.trans (hb6.mono HBb.out.size))
        clear hb6
        go_wp2_with fail
        go_ret
        exact ⟨rfl, HB6.out⟩
end Go.Proofs.Ytkiogbenbicghaa
