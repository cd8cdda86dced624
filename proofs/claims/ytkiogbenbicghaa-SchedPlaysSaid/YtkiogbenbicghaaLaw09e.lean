/- The walk of the statement SchedPlays: it returns true. Conditions: the number fits its kind, the slice can be read as data. -/
import Derived.Test.YtkiogbenbicghaaRef09
import Derived.Test.YtkiogbenbicghaaRunPure
namespace Go.Proofs.Ytkiogbenbicghaa
open Go.RowKit BigFrame Go.WideShapes

/-- Both in memory: the tasks (A, rl), and the document's (A2, rl2), those in blocks from n0 on. -/
structure PP (w wr : World) (b : SB) (n0 p g : Nat) (A : Ar) (rl : List Int) (A2 : Ar) (rl2 : List Int) : Prop where
  t : ∃ fs, IsT wr b A fs rl
  r : ∃ fs, IsR9 wr n0 p g A2 fs rl2
  below : Below w.heap.size w wr
  lt : ∀ k, k = b.s ∨ k = b.G ∨ b.ft k → k < n0
  w0 : w.heap.size ≤ n0
  ft : ∀ k, b.ft k → w.heap.size ≤ k
section
variable {w wr w2 : World} {b : SB} {n0 p g : Nat} {A A' A2 A2' : Ar} {rl rl' rl2 rl2' : List Int}
theorem PP.actT (h : PP w wr b n0 p g A rl A2 rl2) (ht : ∃ fs, IsT w2 b A' fs rl') (hx : Ext wr w2 b.ft) : PP w w2 b n0 p g A' rl' A2 rl2 :=
  ⟨ht, h.r.imp (fun _ hr => hr.ext hx (fun k hk => h.lt k (.inr (.inr hk)))), ext_below2 h.below hx h.ft, h.lt, h.w0, h.ft⟩
theorem PP.actR (h : PP w wr b n0 p g A rl A2 rl2) (hr : ∃ fs, IsR9 w2 n0 p g A2' fs rl2') (hb : Below n0 wr w2) : PP w w2 b n0 p g A rl A2' rl2' :=
  ⟨h.t.imp (fun _ ht => ht.frame (fun k hk => hb.block k (h.lt k hk))), hr, h.below.trans (hb.mono h.w0), h.lt, h.w0, h.ft⟩
theorem PP.plus (h : PP w wr b n0 p g A rl A2 rl2) (hb : Below wr.heap.size wr w2) : PP w w2 b n0 p g A rl A2 rl2 :=
  ⟨h.t.imp (fun _ ht => ht.below hb), h.r.imp (fun _ hr => hr.below hb), h.below.trans (hb.mono h.below.size), h.lt, h.w0, h.ft⟩
theorem PP.inv (h : PP w wr b n0 p g A rl A2 rl2) : rl.Nodup ∧ (∀ x ∈ rl, 0 ≤ A.place x) ∧ rl.length ≤ 16 := by
  obtain ⟨fs, ht⟩ := h.t
  exact ⟨ht.nodup, ht.live, Nat.le_trans ht.run_live (Nat.le_trans (live_len A) ht.good.ok.size)⟩
theorem PP.bd (h : PP w wr b n0 p g A rl A2 rl2) : ∀ x ∈ A.live, x ≤ 4096 := by
  obtain ⟨fs, ht⟩ := h.t
  exact ht.live_bd
/-- An act of the tasks, then the same of the document's. -/
theorem PP.spawn (h : PP w wr b n0 p g A rl A rl) :
    Calls Try.prog 28 #[.pointer (some ⟨b.s, 0, none⟩)] wr fun e w' => e = .returned (.tuple #[.int .i64 A.take.1, .bool A.take.2.1]) ∧
      Calls Try.prog 40 #[.pointer (some ⟨p, 0, none⟩)] w' fun e w'' => e = .returned (.tuple #[.int .i64 A.take.1, .bool A.take.2.1]) ∧ PP w w'' b n0 p g (spnA A) (spnR A rl) (spnA A) (spnR A rl) := by
  obtain ⟨fs, ht⟩ := h.t
  have hi := h.inv
  refine (tspawn_calls ht).mono fun _ w1 ⟨e1, _, e2, e3⟩ => ⟨e1, ?_⟩
  have h1 := h.actT ⟨_, e2⟩ e3
  obtain ⟨fs2, hr⟩ := h1.r
  exact (r9spawn_calls hr hi.2.2).mono fun _ w2 ⟨q1, q2, q3⟩ => ⟨q1, h1.actR q2 q3⟩
theorem PP.exit (h : PP w wr b n0 p g A rl A rl) (t : Int) (ht : t ≤ 9223372036854775807) :
    Calls Try.prog 34 #[.pointer (some ⟨b.s, 0, none⟩), .int .i64 t] wr fun e w' => ∃ y, e = .returned (.bool y) ∧
      Calls Try.prog 41 #[.pointer (some ⟨p, 0, none⟩), .int .i64 t] w' fun e w'' => e = .returned (.bool y) ∧ ∃ A' rl', PP w w'' b n0 p g A' rl' A' rl' := by
  obtain ⟨fs, hT⟩ := h.t
  have hi := h.inv
  refine (texit_calls hT t ht).mono fun _ w1 ⟨e1, fs', e2, _, _, e3⟩ => ⟨_, e1, ?_⟩
  have h1 := h.actT ⟨_, e2⟩ e3
  obtain ⟨fs2, hr⟩ := h1.r
  exact (r9exit_calls hr hi.1 hi.2.1 hi.2.2 t).mono fun _ w2 ⟨q1, q2, q3⟩ => ⟨q1, _, _, h1.actR q2 q3⟩
theorem PP.yield (h : PP w wr b n0 p g A rl A rl) (t : Int) (ht : t ≤ 9223372036854775807) :
    Calls Try.prog 31 #[.pointer (some ⟨b.s, 0, none⟩), .int .i64 t] wr fun e w' => ∃ y, e = .returned (.bool y) ∧
      Calls Try.prog 42 #[.pointer (some ⟨p, 0, none⟩), .int .i64 t] w' fun e w'' => e = .returned (.bool y) ∧ ∃ A' rl', PP w w'' b n0 p g A' rl' A' rl' := by
  obtain ⟨fs, hT⟩ := h.t
  have hi := h.inv
  refine (tyield_calls hT t ht).mono fun _ w1 ⟨e1, e2, e3⟩ => ⟨_, e1, ?_⟩
  have h1 := h.actT ⟨_, e2⟩ e3
  obtain ⟨fs2, hr⟩ := h1.r
  exact (r9yield_calls hr hi.1 hi.2.1 hi.2.2 t).mono fun _ w2 ⟨q1, q2, q3⟩ => ⟨q1, _, _, h1.actR ⟨_, q2⟩ q3⟩
theorem PP.block (h : PP w wr b n0 p g A rl A rl) (t : Int) (ht : t ≤ 9223372036854775807) :
    Calls Try.prog 33 #[.pointer (some ⟨b.s, 0, none⟩), .int .i64 t] wr fun e w' => ∃ y, e = .returned (.bool y) ∧
      Calls Try.prog 43 #[.pointer (some ⟨p, 0, none⟩), .int .i64 t] w' fun e w'' => e = .returned (.bool y) ∧ ∃ A' rl', PP w w'' b n0 p g A' rl' A' rl' := by
  obtain ⟨fs, hT⟩ := h.t
  have hi := h.inv
  refine (tblock_calls hT t ht).mono fun _ w1 ⟨e1, e2, e3⟩ => ⟨_, e1, ?_⟩
  have h1 := h.actT ⟨_, e2⟩ e3
  obtain ⟨fs2, hr⟩ := h1.r
  exact (r9block_calls hr hi.1 hi.2.2 t).mono fun _ w2 ⟨q1, q2, q3⟩ => ⟨q1, _, _, h1.actR ⟨_, q2⟩ q3⟩
theorem PP.ready (h : PP w wr b n0 p g A rl A rl) (t : Int) (ht : t ≤ 9223372036854775807) :
    Calls Try.prog 35 #[.pointer (some ⟨b.s, 0, none⟩), .int .i64 t] wr fun e w' => ∃ y, e = .returned (.bool y) ∧
      Calls Try.prog 44 #[.pointer (some ⟨p, 0, none⟩), .int .i64 t] w' fun e w'' => e = .returned (.bool y) ∧ ∃ A' rl', PP w w'' b n0 p g A' rl' A' rl' := by
  obtain ⟨fs, hT⟩ := h.t
  have hi := h.inv
  refine (tready_calls hT t ht).mono fun _ w1 ⟨e1, e2, e3⟩ => ⟨_, e1, ?_⟩
  have h1 := h.actT ⟨_, e2⟩ e3
  obtain ⟨fs2, hr⟩ := h1.r
  exact (r9ready_calls hr hi.2.1 hi.2.2 t).mono fun _ w2 ⟨q1, q2, q3⟩ => ⟨q1, _, _, h1.actR ⟨_, q2⟩ q3⟩
theorem PP.pick (h : PP w wr b n0 p g A rl A rl) (n : Int) :
    Calls Try.prog 30 #[.pointer (some ⟨b.s, 0, none⟩), .int .i64 n] wr fun e w' => ∃ x y, e = .returned (.tuple #[.int .i64 x, .bool y]) ∧ Below wr.heap.size wr w' ∧
      Calls Try.prog 45 #[.pointer (some ⟨p, 0, none⟩), .int .i64 n] w' fun e w'' => e = .returned (.tuple #[.int .i64 x, .bool y]) ∧ PP w w'' b n0 p g A rl A rl := by
  obtain ⟨fs, hT⟩ := h.t
  refine (tpick_calls hT n).mono fun _ w1 ⟨e1, e2⟩ => ⟨_, _, e1, e2, ?_⟩
  have h1 := h.plus e2
  obtain ⟨fs2, hr⟩ := h1.r
  exact (r9pick_calls hr n).mono fun _ w2 ⟨q1, q2⟩ => ⟨q1, q2 ▸ h1⟩
theorem PP.live (h : PP w wr b n0 p g A rl A2 rl2) :
    Calls Try.prog 39 #[.pointer (some ⟨g, 0, none⟩)] wr fun e w' => ∃ v, e = .returned v ∧ Kv w' (fun _ => False) v A2.live ∧ Below wr.heap.size wr w' := by
  obtain ⟨fs2, hr⟩ := h.r
  exact (r9live_calls hr).mono fun _ _ ⟨v, q1, q2, q3, _, q4⟩ => ⟨v, q1, ⟨q2, fun k hk hl => ⟨q2.lt (by cases hA : A2.live with | nil => exact absurd hA hl | cons => simp) (by decide) k hk, fun h => h⟩⟩, q4⟩
theorem PP.tasks (h : PP w wr b n0 p g A rl A2 rl2) :
    Calls Try.prog 46 #[.pointer (some ⟨b.s, 0, none⟩)] wr fun e w' => ∃ v, e = .returned v ∧ Kv w' (fun _ => False) v A.live ∧ Below wr.heap.size wr w' := by
  obtain ⟨fs2, hr⟩ := h.t
  exact (ttasks_calls hr).mono fun _ _ ⟨v, q1, q2, q3, q4⟩ => ⟨v, q1, ⟨q2, fun k hk hl => ⟨q2.lt (by cases hA : A.live with | nil => exact absurd hA hl | cons => simp) (by decide) k hk, fun h => h⟩⟩, q4⟩
theorem PP.run (h : PP w wr b n0 p g A rl A2 rl2) :
    Calls Try.prog 29 #[.pointer (some ⟨b.s, 0, none⟩)] wr fun e w' => ∃ v, e = .returned v ∧ Kv w' (fun _ => False) v rl ∧ Below wr.heap.size wr w' := by
  obtain ⟨fs2, hr⟩ := h.t
  exact (trun_calls hr).mono fun _ _ ⟨v, q1, q2, q3, q4⟩ => ⟨v, q1, ⟨q2, fun k hk hl => ⟨q2.lt (by cases rl with | nil => exact absurd rfl hl | cons => simp) (by decide) k hk, fun h => h⟩⟩, q4⟩
theorem PP.place (h : PP w wr b n0 p g A rl A2 rl2) (t : Int) (ht : t ≤ 9223372036854775807) :
    Calls Try.prog 36 #[.pointer (some ⟨b.s, 0, none⟩), .int .i64 t] wr fun e w' => e = .returned (.int .i64 (A.place t)) ∧ wr = w' := by
  obtain ⟨fs2, hr⟩ := h.t
  exact tplace_calls hr t ht
theorem PP.rplace (h : PP w wr b n0 p g A rl A2 rl2) (t : Int) :
    Calls Try.prog 47 #[.pointer (some ⟨g, 0, none⟩), .int .i64 t] wr fun e w' => e = .returned (.int .i64 (A2.place t)) ∧ wr = w' := by
  obtain ⟨fs2, hr⟩ := h.r
  exact r9place_calls hr t
theorem ints_same {w : World} {v u : Value} {n m : Nat} {l : List Int} (hv : Reads w 1 v n (ints l)) (hu : Reads w 1 u m (ints l)) :
    Calls Try.prog 21 #[v, u] w fun e w' => e = .returned (.bool true) ∧ ∃ q, w' = w.drewN q := ints_any (decide_eq_true rfl) hv hu
/-- The document's list, where it lies now. -/
structure GG (w wr : World) (b : SB) (n0 p g : Nat) (A : Ar) (rl : List Int) (al : Option Addr) (n cl : Nat) : Prop where
  pp : PP w wr b n0 p g A rl A rl
  blk : wr.heap[p]? = some (.cells #[.pointer (some ⟨g, 0, none⟩), .slice al n cl] 59 (0, 0))
  kv : Kv wr (fun _ => False) (.slice al n cl) rl
theorem GG.plus {al : Option Addr} {n cl : Nat} (h : GG w wr b n0 p g A rl al n cl) (hb : Below wr.heap.size wr w2) : GG w w2 b n0 p g A rl al n cl :=
  ⟨h.pp.plus hb, (hb.block p (lt_of_block h.blk)).trans h.blk, h.kv.below hb⟩
theorem GG.cells {al : Option Addr} {n cl : Nat} (h : GG w wr b n0 p g A rl al n cl) : wr.cell? ⟨p, 0, none⟩ = some (.pointer (some ⟨g, 0, none⟩)) ∧ wr.cell? ⟨p, 1, none⟩ = some (.slice al n cl) := ⟨blk_cell h.blk 0, blk_cell h.blk 1⟩
theorem PP.gg (h : PP w wr b n0 p g A rl A rl) : ∃ al n cl, GG w wr b n0 p g A rl al n cl := by
  obtain ⟨fs, hr⟩ := h.r
  obtain ⟨R, vs, v, h1, h2, h3, h4, h5, h6, h7⟩ := hr.ex
  have h5' := h5
  obtain ⟨_, a, c, rfl, _⟩ := h5
  exact ⟨a, _, c, h, h4, h5', fun k hk _ => ⟨(h6 k hk).2.2.2, fun h => h⟩⟩
end

set_option maxRecDepth 100000 in
set_option maxHeartbeats 16000000 in
theorem schedPlays_walk (w : World) (q : Int) (q0 : -9223372036854775808 ≤ q) (q1 : q ≤ 9223372036854775807) (va : Value) (na : Nat) (xs : List (List Int)) (hl : xs.length = na) (ra : Reads w 3 va na (xs.flatMap (rowCells [.u8, .i64, .u8])))
    (ba : ∀ x ∈ xs, x.length = [IntKind.u8, .i64, .u8].length ∧ ∀ (j : Nat) k y, [IntKind.u8, .i64, .u8][j]? = some k → x[j]? = some y → (Lit.int k y).wf = true) (_ : na * Try.prog.bytesOf 55 ≤ 140737488351232) :
    Calls Try.prog 10 #[.int .i64 q, va] w fun e w' => e = .returned (.bool true) ∧ Below w.heap.size w w' := by
  have hlt := ra.lt
  have RA := ra
  obtain ⟨_, aa, ca, rfl, ha1, ha2, ha3⟩ := ra
  unfold maxLen at ha2
  have HL := Lib.hid hl
  have HRA := Lib.hid RA
  have HBA := Lib.hid ba
  have HA3 := Lib.hid (fun h : 0 < na => (ha3 h).imp (fun b h => h.imp (fun o h => h.1)))
  have HLT := Lib.hid hlt
  clear hl RA ba ha3 hlt
  go_enter Try.func10, Try.ntmps10
  go_wp2_with fail
  refine (tnew_calls q _ q0 q1).mono ?_
  rintro e w1 ⟨b, rfl, h1, hk, hb1⟩
  have H1 := Lib.hid h1
  have HK := Lib.hid hk
  have HB1 := Lib.hid hb1
  clear h1 hk hb1
  go_wp2_with fail
  refine (r9new_calls q _).mono ?_
  rintro e w2 ⟨p, g, fs2, rfl, h2, hb2⟩
  have HP0 := Lib.hid (show PP w w2 b w1.heap.size p g (spnA (Ar.new (quotaN q))) [1] (spnA (Ar.new (quotaN q))) [1] from
    ⟨⟨_, H1.out.below hb2⟩, ⟨_, h2⟩, HB1.out.trans (hb2.mono HB1.out.size), H1.out.lt, HB1.out.size, fun k h => HK.out k (.inr (.inr h))⟩)
  clear h2 hb2 H1 HK HB1
  generalize w1.heap.size = n0 at HP0
  generalize spnA (Ar.new (quotaN q)) = A0 at HP0
  go_wp2_with fail
  go_loopw [7] (fun u wr => ∃ i : Nat, u = .int .i64 i ∧ i ≤ na ∧ ∃ A rl, PP w wr b n0 p g A rl A rl) (fun u _ => na - (intOf u).toNat)
  case atStart => exact ⟨0, rfl, Nat.zero_le _, _, _, HP0.out⟩
  case round =>
    clear HP0
    obtain ⟨i, rfl, hi, A, rl, hP⟩ := hrel
    have iz : (0 : Int) ≤ (i : Int) := Int.natCast_nonneg _
    have HP := Lib.hid hP
    clear hP
    by_cases hc : i < na ∧ i < 60
    · obtain ⟨hc1, hc2⟩ := hc
      have hc1' : (i : Int) < (na : Int) := by omega
      have hc2' : (i : Int) < 60 := by omega
      obtain ⟨bA, oA, rfl⟩ := HA3.out (by omega)
      have hbA : bA < w.heap.size := HLT.out (by omega) (by omega) bA rfl
      obtain ⟨d, t, n, ⟨hwd, hwt, hwn⟩, hk0, hk1, hk2⟩ := act3_cells HRA.out HBA.out HL.out i hc1
      have HD := Lib.hid (bounds_u8 hwd)
      have HN0 := Lib.hid (bounds_u8 hwn)
      have HT := Lib.hid (bounds_i64 hwt).2
      have k0 : wr.cell? ⟨bA, oA + i * 3, none⟩ = some (.int .u8 d) := (HP.out.below.cell (p := ⟨bA, oA + i * 3, none⟩) hbA).trans hk0
      have k1 : wr.cell? ⟨bA, oA + i * 3 + 1, none⟩ = some (.int .i64 t) := (HP.out.below.cell (p := ⟨bA, oA + i * 3 + 1, none⟩) hbA).trans hk1
      have k2 : wr.cell? ⟨bA, oA + i * 3 + 2, none⟩ = some (.int .u8 n) := (HP.out.below.cell (p := ⟨bA, oA + i * 3 + 2, none⟩) hbA).trans hk2
      clear hk0 hk1 hk2 hwd hwt hwn
      go_upto_block 1 with (fail)
      go_cut [] (fun wd => ∃ A' rl', PP w wd b n0 p g A' rl' A' rl')
      case first => as_aux_lemma =>
        go_upto_region 6 with (fail)
        go_cut [9] (fun s wc => ∃ t' : Int, s = .int .i64 t' ∧ t' ≤ 9223372036854775807 ∧ PP w wc b n0 p g A rl A rl ∧ wc.heap[wr.heap.size]? = some (.cells #[.int .u8 d, .int .i64 t, .int .u8 n] 55 (0, 0)))
        case first => as_aux_lemma =>
          obtain ⟨al, nn, cl, hG⟩ := (HP.out.plus (plus_one wr (.cells #[.int .u8 d, .int .i64 t, .int .u8 n] 55))).gg
          have hX : (wr.alloc (.cells #[.int .u8 d, .int .i64 t, .int .u8 n] 55)).heap[wr.heap.size]? = some (.cells #[.int .u8 d, .int .i64 t, .int .u8 n] 55 (0, 0)) := heap_alloc_new wr _
          have KA := Lib.hid (fun (u : World) (hg : u.heap[p]? = some (.cells #[.pointer (some ⟨g, 0, none⟩), .slice al nn cl] 59 (0, 0))) (hx : u.heap[wr.heap.size]? = some (.cells #[.int .u8 d, .int .i64 t, .int .u8 n] 55 (0, 0))) =>
            (show u.cell? ⟨p, 0, none⟩ = some (.pointer (some ⟨g, 0, none⟩)) ∧ u.cell? ⟨wr.heap.size, 0, none⟩ = some (.int .u8 d) ∧ u.cell? ⟨wr.heap.size, 1, none⟩ = some (.int .i64 t) ∧ u.cell? ⟨wr.heap.size, 2, none⟩ = some (.int .u8 n) from
              ⟨blk_cell hg 0, blk_cell hx 0, blk_cell hx 1, blk_cell hx 2⟩))
          have hkj := KA.out _ hG.blk hX
          have hGd := hG.plus ((Below.refl _ _).drew)
          have HG := Lib.hid hGd
          have HX := Lib.hid (show (wr.alloc (.cells #[.int .u8 d, .int .i64 t, .int .u8 n] 55)).drew.heap[wr.heap.size]? = some (.cells #[.int .u8 d, .int .i64 t, .int .u8 n] 55 (0, 0)) from hX)
          have HLV := Lib.hid hGd.pp.live
          clear hGd
          have HBD := Lib.hid HP.out.bd
          clear hG hX k0 k1 k2
          go_wp2_with fail
          go_region_held3 (fun w' => w'.cell? ⟨p, 0, none⟩ = some (.pointer (some ⟨g, 0, none⟩)) ∧ w'.cell? ⟨wr.heap.size, 0, none⟩ = some (.int .u8 d) ∧ w'.cell? ⟨wr.heap.size, 1, none⟩ = some (.int .i64 t) ∧ w'.cell? ⟨wr.heap.size, 2, none⟩ = some (.int .u8 n)) (first | go_keep | exact hkj | exact hkl | exact hkk)
            (first | (go_at_call 39; refine HLV.out.mono ?_; rintro e w2 ⟨v2, rfl, hv2, hb2⟩; have HG2 := Lib.hid (HG.out.plus hb2); have HX2 := Lib.hid ((hb2.block _ (lt_of_block HX.out)).trans HX.out); have hkk := KA.out w2 HG2.out.blk HX2.out; have HV2 := Lib.hid hv2.1; clear hv2 hb2) | (go_at_call 38; refine (who_calls d t n HN0.out.1 HN0.out.2 HV2.out).mono ?_; rintro e w3 ⟨rfl, hb3⟩; have HG3 := Lib.hid (HG2.out.plus hb3); have HX3 := Lib.hid ((hb3.block _ (lt_of_block HX2.out)).trans HX2.out); have hkl := KA.out w3 HG3.out.blk HX3.out; clear hb3))
          all_goals go_wp2_with fail
          all_goals go_meet
          all_goals exact ⟨_, rfl, whoF_le HT.out HBD.out, HG3.out.pp, HX3.out⟩
        case rest => as_aux_lemma =>
          obtain ⟨t', rfl, ht', hP2, hX2⟩ := hcut
          clear HP k0 k1 k2
          have kd : wc.cell? ⟨wr.heap.size, 0, none⟩ = some (.int .u8 d) := blk_cell hX2 0
          have kt : wc.cell? ⟨wr.heap.size, 1, none⟩ = some (.int .i64 t) := blk_cell hX2 1
          have HX := Lib.hid hX2
          have HP := Lib.hid hP2
          clear hX2 hP2
          go_upto_block 2 with (fail)
          go_cut [10] (fun s wd => s = .bool true ∧ ∃ A' rl', PP w wd b n0 p g A' rl' A' rl')
          case first => as_aux_lemma =>
            have HSP := Lib.hid HP.out.spawn
            generalize A.take.1 = x1 at HSP
            generalize A.take.2.1 = x2 at HSP
            have HEX := Lib.hid (HP.out.exit t' ht')
            have HYI := Lib.hid (HP.out.yield t' ht')
            have HBL := Lib.hid (HP.out.block t' ht')
            have HRE := Lib.hid (HP.out.ready t' ht')
            have HPI := Lib.hid (HP.out.pick t)
            go_wp2_with (first | (go_at_call 28; refine HSP.out.mono ?_; rintro e w4 ⟨rfl, h4⟩; have HQ := Lib.hid h4; clear h4) | (go_at_call 40; refine HQ.out.mono ?_; rintro e w5 ⟨rfl, h5⟩) | (go_at_call 34; refine HEX.out.mono ?_; rintro e w4 ⟨y, rfl, h4⟩; have HQ := Lib.hid h4; clear h4) | (go_at_call 41; refine HQ.out.mono ?_; rintro e w5 ⟨rfl, A5, rl5, h5⟩) | (go_at_call 31; refine HYI.out.mono ?_; rintro e w4 ⟨y, rfl, h4⟩; have HQ := Lib.hid h4; clear h4) | (go_at_call 42; refine HQ.out.mono ?_; rintro e w5 ⟨rfl, A5, rl5, h5⟩) | (go_at_call 33; refine HBL.out.mono ?_; rintro e w4 ⟨y, rfl, h4⟩; have HQ := Lib.hid h4; clear h4) | (go_at_call 43; refine HQ.out.mono ?_; rintro e w5 ⟨rfl, A5, rl5, h5⟩) | (go_at_call 35; refine HRE.out.mono ?_; rintro e w4 ⟨y, rfl, h4⟩; have HQ := Lib.hid h4; clear h4) | (go_at_call 44; refine HQ.out.mono ?_; rintro e w5 ⟨rfl, A5, rl5, h5⟩) | (go_at_call 30; refine HPI.out.mono ?_; rintro e w4 ⟨x, y, rfl, hb4, h4⟩; have kt4 := (hb4.cell (p := ⟨wr.heap.size, 1, none⟩) (lt_of_block HX.out)).trans kt; have HQ := Lib.hid h4; clear h4 hb4) | (go_at_call 45; refine HQ.out.mono ?_; rintro e w5 ⟨rfl, h5⟩))
            all_goals go_meet
            all_goals exact ⟨by first | rfl | simp, _, _, h5⟩
          case rest => as_aux_lemma =>
            obtain ⟨rfl, A', rl', hP3⟩ := hcut
            obtain ⟨al, nn, cl, hG⟩ := hP3.gg
            go_wp2_with fail
            have HG := Lib.hid (hG.plus ((Below.refl _ _).drew))
            have hkj := hG.cells
            have HRU := Lib.hid HG.out.pp.run
            have HBD := Lib.hid ht'
            clear hG hP3
            have tok1 : True := trivial
            go_region_held3 (fun w' => w'.cell? ⟨p, 0, none⟩ = some (.pointer (some ⟨g, 0, none⟩)) ∧ w'.cell? ⟨p, 1, none⟩ = some (.slice al nn cl)) (first | go_keep | exact hkj | exact hk2 | exact hk3 | exact hk4 | exact hk5 | exact hk6)
              (first | (go_at_call 29; refine HRU.out.mono ?_; rintro e w2 ⟨v2, rfl, hv2, hb2⟩; have HG2 := Lib.hid (HG.out.plus hb2); have HV2 := Lib.hid hv2; have hk2 := HG2.out.cells; clear hv2 hb2) | (go_at_call 46; refine HG3.out.pp.tasks.mono ?_; rintro e w4 ⟨v4, rfl, hv4, hb4⟩; have HG4 := Lib.hid (HG3.out.plus hb4); have HV4 := Lib.hid hv4; have hk4 := HG4.out.cells; clear hv4 hb4) | (go_at_call 39; refine HG4.out.pp.live.mono ?_; rintro e w5 ⟨v5, rfl, hv5, hb5⟩; have HG5 := Lib.hid (HG4.out.plus hb5); have HV5 := Lib.hid hv5; have HV45 := Lib.hid (HV4.out.below hb5); have hk5 := HG5.out.cells; clear hv5 hb5) | (go_at_call 21; have _t := tok1; refine (ints_same HV2.out.1 HG2.out.kv.1).mono ?_; clear tok1; rintro e w3 ⟨rfl, q3, rfl⟩; have HG3 := Lib.hid (HG2.out.plus (below_drewN (Below.refl _ _) q3)); have hk3 := HG3.out.cells) | (go_at_call 21; refine (ints_same HV45.out.1 HV5.out.1).mono ?_; rintro e w6 ⟨rfl, q6, rfl⟩; have HG6 := Lib.hid (HG5.out.plus (below_drewN (Below.refl _ _) q6)); have hk6 := HG6.out.cells) | (go_at_call 36; refine (HG6.out.pp.place t' HBD.out).mono ?_; rintro e w7 ⟨rfl, rfl⟩) | (go_at_call 47; refine (HG6.out.pp.rplace t').mono ?_; rintro e w8 ⟨rfl, rfl⟩))
            all_goals go_wp2_with fail
            all_goals go_meet
            all_goals exact ⟨_, _, HG6.out.pp⟩
      case rest =>
        have HRd := Lib.hid hcut
        clear HP hcut k0 k1 k2
        go_wp2_with fail
        go_roundw
        case rel => exact ⟨i + 1, by go_num, by omega, HRd.out⟩
        case measure => simp [intOf]; omega
    · have B := Lib.hid HP.out.below
      clear HP
      by_cases h1 : i < na
      all_goals
        go_wp2_with fail
        refine (awake9_calls _).mono ?_
        rintro e w6 ⟨rfl, hb6⟩
        have B6 := Lib.hid (B.out.trans (hb6.mono B.out.size))
        clear hb6
        go_wp2_with fail
        go_ret
        exact ⟨rfl, B6.out⟩
end Go.Proofs.Ytkiogbenbicghaa
