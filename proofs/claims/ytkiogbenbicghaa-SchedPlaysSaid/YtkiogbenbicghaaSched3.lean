/- What sched's methods do, said of handles: the arena, and the run list. Condition of each: the tasks lie in memory (IsT). -/
import Derived.Test.YtkiogbenbicghaaSchedPure
import Derived.Deep.OwnRows
namespace Go.Proofs.Ytkiogbenbicghaa
open Go.RowKit BigFrame

/-- Tasks at b: the arena A with its free places fs, and those that can run, in order: rl. -/
def IsT (w : World) (b : SB) (A : Ar) (fs : List Nat) (rl : List Int) : Prop := ∃ l who, IsS w b A l who ∧ St A fs rl l who
section
variable {w w' : World} {b : SB} {A : Ar} {fs : List Nat} {rl : List Int}
theorem IsT.frame (h : IsT w b A fs rl) (hf : ∀ k, k = b.s ∨ k = b.G ∨ b.ft k → w'.heap[k]? = w.heap[k]?) : IsT w' b A fs rl := by
  obtain ⟨l, who, h1, h2⟩ := h
  exact ⟨l, who, h1.frame hf, h2⟩
theorem IsT.lt (h : IsT w b A fs rl) : ∀ k, k = b.s ∨ k = b.G ∨ b.ft k → k < w.heap.size := by
  obtain ⟨l, who, h1, h2⟩ := h
  exact h1.lt
theorem IsT.below (h : IsT w b A fs rl) (hb : Below w.heap.size w w') : IsT w' b A fs rl := h.frame (fun k hk => hb.block k (h.lt k hk))
theorem IsT.drew (h : IsT w b A fs rl) : IsT w.drew b A fs rl := h.frame (fun _ _ => rfl)
theorem IsT.drewN (h : IsT w b A fs rl) (n : Nat) : IsT (w.drewN n) b A fs rl := h.frame (fun _ _ => rfl)
theorem IsT.good (h : IsT w b A fs rl) : Good A fs := by
  obtain ⟨l, who, h1, h2⟩ := h
  exact h2.good
theorem IsT.nodup (h : IsT w b A fs rl) : rl.Nodup := by
  obtain ⟨l, who, h1, h2⟩ := h
  exact h2.nodup
theorem IsT.live (h : IsT w b A fs rl) : ∀ t ∈ rl, 0 ≤ A.place t := by
  obtain ⟨l, who, h1, h2⟩ := h
  exact h2.live
theorem tplace_calls (h : IsT w b A fs rl) (t : Int) (ht : t ≤ 9223372036854775807) :
    Calls Try.prog 36 #[.pointer (some ⟨b.s, 0, none⟩), .int .i64 t] w fun e w' => e = .returned (.int .i64 (A.place t)) ∧ w = w' := by
  obtain ⟨l, who, h1, h2⟩ := h
  exact splace_calls h1 t ht
theorem tready_calls (h : IsT w b A fs rl) (t : Int) (ht : t ≤ 9223372036854775807) :
    Calls Try.prog 35 #[.pointer (some ⟨b.s, 0, none⟩), .int .i64 t] w fun e w' => e = .returned (.bool (rdyT A rl t).1) ∧ IsT w' b A fs (rdyT A rl t).2 ∧ Ext w w' b.ft := by
  obtain ⟨l, who, h1, h2⟩ := h
  obtain ⟨k1, k2⟩ := h2.rdy t
  exact (sready_calls h1 t ht).mono fun _ _ ⟨e1, e2, e3⟩ => ⟨by rw [e1, k1], ⟨_, _, e2, k2⟩, e3⟩
theorem tblock_calls (h : IsT w b A fs rl) (t : Int) (ht : t ≤ 9223372036854775807) :
    Calls Try.prog 33 #[.pointer (some ⟨b.s, 0, none⟩), .int .i64 t] w fun e w' => e = .returned (.bool (blkT rl t).1) ∧ IsT w' b A fs (blkT rl t).2 ∧ Ext w w' b.ft := by
  obtain ⟨l, who, h1, h2⟩ := h
  obtain ⟨k1, k2⟩ := h2.blk t
  exact (sblock_calls h1 t ht).mono fun _ _ ⟨e1, e2, e3⟩ => ⟨by rw [e1, k1], ⟨_, _, e2, k2⟩, e3⟩
theorem tyield_calls (h : IsT w b A fs rl) (t : Int) (ht : t ≤ 9223372036854775807) :
    Calls Try.prog 31 #[.pointer (some ⟨b.s, 0, none⟩), .int .i64 t] w fun e w' => e = .returned (.bool (yldT rl t).1) ∧ IsT w' b A fs (yldT rl t).2 ∧ Ext w w' b.ft := by
  obtain ⟨l, who, h1, h2⟩ := h
  obtain ⟨k1, k2⟩ := h2.yld t
  exact (syield_calls h1 t ht).mono fun _ _ ⟨e1, e2, e3⟩ => ⟨by rw [e1, k1], ⟨_, _, e2, k2⟩, e3⟩
def extA (A : Ar) (t : Int) : Ar := if A.place t < 0 then A else (A.giveBack t).2
def extR (A : Ar) (rl : List Int) (t : Int) : List Int := if 0 ≤ A.place t then rl.erase t else rl
theorem extA_size (A : Ar) (t : Int) : (extA A t).list.length = A.list.length := by
  unfold extA
  split
  · rfl
  · exact giveBack_size A t
theorem texit_calls (h : IsT w b A fs rl) (t : Int) (ht : t ≤ 9223372036854775807) :
    Calls Try.prog 34 #[.pointer (some ⟨b.s, 0, none⟩), .int .i64 t] w fun e w' => e = .returned (.bool (decide (0 ≤ A.place t))) ∧ ∃ fs', IsT w' b (extA A t) fs' (extR A rl t) ∧ (∀ t', t' ≠ t → (extA A t).place t' = A.place t') ∧ (extA A t).place t < 0 ∧ Ext w w' b.ft := by
  obtain ⟨l, who, h1, h2⟩ := h
  obtain ⟨k1, fs', k2, k3, k4⟩ := h2.ext t
  have e : (extS A l t).2.1 = extA A t := by
    unfold extS extA
    split <;> rfl
  rw [e] at k2 k3 k4
  have hc := sexit_calls h1 t ht
  rw [e] at hc
  exact hc.mono fun _ _ ⟨e1, e2, e3⟩ => ⟨by rw [e1, k1], fs', ⟨_, _, e2, k2⟩, k3, k4, e3⟩
theorem trun_calls (h : IsT w b A fs rl) :
    Calls Try.prog 29 #[.pointer (some ⟨b.s, 0, none⟩)] w fun e w' => ∃ v, e = .returned v ∧ Reads w' 1 v rl.length (ints rl) ∧ (∀ k, v.ownBlock = some k → w.heap.size ≤ k) ∧ Below w.heap.size w w' := by
  obtain ⟨l, who, h1, h2⟩ := h
  have := srun_calls h1
  rw [h2.runs] at this
  exact this
theorem tpick_calls (h : IsT w b A fs rl) (n : Int) :
    Calls Try.prog 30 #[.pointer (some ⟨b.s, 0, none⟩), .int .i64 n] w fun e w' => e = .returned (.tuple #[.int .i64 (pickS rl n).1, .bool (pickS rl n).2]) ∧ Below w.heap.size w w' := by
  obtain ⟨l, who, h1, h2⟩ := h
  have := spick_calls h1 n
  rw [h2.runs] at this
  exact this
theorem ttasks_calls (h : IsT w b A fs rl) :
    Calls Try.prog 46 #[.pointer (some ⟨b.s, 0, none⟩)] w fun e w' => ∃ v, e = .returned v ∧ Reads w' 1 v A.live.length (ints A.live) ∧ (∀ k, v.ownBlock = some k → w.heap.size ≤ k) ∧ Below w.heap.size w w' := by
  obtain ⟨l, who, h1, h2⟩ := h
  exact stasks_calls h1
/-- The states behind Spawn. -/
def spnA (A : Ar) : Ar := if A.take.2.1 = true then A.take.2.2 else A
def spnR (A : Ar) (rl : List Int) : List Int := if A.take.2.1 = true then rl ++ [A.take.1] else rl
set_option maxRecDepth 100000 in
set_option maxHeartbeats 4000000 in
theorem tspawn_calls (h : IsT w b A fs rl) :
    Calls Try.prog 28 #[.pointer (some ⟨b.s, 0, none⟩)] w fun e w' => e = .returned (.tuple #[.int .i64 A.take.1, .bool A.take.2.1]) ∧ A.take.2.1 = decide (fs ≠ []) ∧ IsT w' b (spnA A) fs.tail (spnR A rl) ∧ Ext w w' b.ft := by
  obtain ⟨l, who, h1, h2⟩ := h
  cases fs with
  | nil =>
    have hk : A.take = (0, false, A) := h2.good.take_none
    have c0 := h1.c0
    have htk := take_calls h1.ar
    have hA : spnA A = A := by unfold spnA; rw [hk]; rfl
    have hR : spnR A rl = rl := by unfold spnR; rw [hk]; rfl
    rw [hA, hR]
    rw [hk] at htk ⊢
    have HTK := Lib.hid htk
    have H1 := Lib.hid h1
    have H2 := Lib.hid h2
    clear h1 h2 hk htk hA hR
    go_enter Try.func28, Try.ntmps28
    go_wp2_with fail
    refine HTK.out.mono ?_
    rintro e w1 ⟨rfl, ha1, hx1⟩
    have HS := Lib.hid (H1.out.actA ha1 hx1 rfl)
    clear ha1 hx1
    go_wp2_with fail
    go_ret2
    exact ⟨rfl, by decide, ⟨_, _, HS.out.1, H2.out⟩, HS.out.2⟩
  | cons i fs =>
    obtain ⟨t, A', hk, hg, hp, hn, hbut, hno, ht1, ht2, hl⟩ := take_facts h2.good
    have hA : spnA A = A' := by unfold spnA; rw [hk]; rfl
    have hR : spnR A rl = rl ++ [t] := by unfold spnR; rw [hk]; rfl
    have hs := h2.spawn hk hg hp hn hbut hno hl
    have hc := sspawn_calls h1 hk hp (by omega)
    rw [hA, hR, hk]
    exact hc.mono fun _ _ ⟨e1, e2, e3⟩ => ⟨e1, by simp, ⟨_, _, e2, hs⟩, e3⟩
end

/-- A new Sched's parts, wherever they lie. -/
theorem isS_new {w1 w2 wE : World} {s g G bq bn bw n : Nat} {A : Ar} {F : Nat → Prop} (hA : IsArena w1 g A F) (hf : IsF w2 G bq bn [[]] n) (hn : n ≤ 16) (hl : A.list.length = n)
    (hrow : wE.heap[bw]? = some (.cells (madeCells #[Value.int .i64 0] n) 3 (0, 0)))
    (hobj : wE.heap[s]? = some (.cells #[.pointer (some ⟨g, 0, none⟩), .pointer (some ⟨G, 0, none⟩), .slice (some ⟨bw, 0, none⟩) n n] 81 (0, 0)))
    (e1 : ∀ k, F k → wE.heap[k]? = w1.heap[k]?) (e2 : ∀ k, k = G ∨ k = bq ∨ k = bn → wE.heap[k]? = w2.heap[k]?)
    (d1 : ∀ k, F k → k ≠ s ∧ k ≠ bw ∧ k ≠ G ∧ k ≠ bq ∧ k ≠ bn) (d2 : ∀ k, k = G ∨ k = bq ∨ k = bn → k ≠ s ∧ k ≠ bw) (d3 : bw ≠ s) :
    IsS wE ⟨s, g, G, bq, bn, bw, F⟩ A [] (List.replicate n 0) := by
  refine ⟨by simpa using hobj, hA.frame e1, ?_, ?_, ?_, by simp [hl], by simpa using hn⟩
  · rw [List.length_replicate]
    exact hf.frame e2
  · rw [List.length_replicate]
    refine ⟨by simp [ints], .inr ⟨bw, n, _, rfl, Nat.zero_le _, hrow, Nat.le_refl _, by unfold maxLen; omega, by rw [size_madeCells]; simp, ?_⟩⟩
    rw [toList_madeCells_one, ints, List.map_replicate]
    simp
  · have a1 := d2 G (.inl rfl)
    have a2 := d2 bq (.inr (.inl rfl))
    have a3 := d2 bn (.inr (.inr rfl))
    refine ⟨fun k => if k = s then 4 else if k = bw then 3 else if k = G ∨ k = bq ∨ k = bn then 2 else 1, fun k hk => ?_, ?_, ?_, ?_, ?_, ?_⟩
    · obtain ⟨h1, h2, h3, h4, h5⟩ := d1 k hk
      show (if k = s then 4 else if k = bw then 3 else if k = G ∨ k = bq ∨ k = bn then 2 else 1) = 1
      rw [if_neg h1, if_neg h2, if_neg (by rintro (h | h | h) <;> contradiction)]
    · show (if G = s then 4 else if G = bw then 3 else if G = G ∨ G = bq ∨ G = bn then 2 else 1) = 2
      rw [if_neg a1.1, if_neg a1.2, if_pos (.inl rfl)]
    · show (if bq = s then 4 else if bq = bw then 3 else if bq = G ∨ bq = bq ∨ bq = bn then 2 else 1) = 2
      rw [if_neg a2.1, if_neg a2.2, if_pos (.inr (.inl rfl))]
    · show (if bn = s then 4 else if bn = bw then 3 else if bn = G ∨ bn = bq ∨ bn = bn then 2 else 1) = 2
      rw [if_neg a3.1, if_neg a3.2, if_pos (.inr (.inr rfl))]
    · show (if bw = s then 4 else if bw = bw then 3 else if bw = G ∨ bw = bq ∨ bw = bn then 2 else 1) = 3
      rw [if_neg d3, if_pos rfl]
    · show (if s = s then 4 else if s = bw then 3 else if s = G ∨ s = bq ∨ s = bn then 2 else 1) = 4
      rw [if_pos rfl]
/-- A new Sched's parts, in whatever order they were made. -/
theorem isS_made {w wA wF wR wO wE : World} {g G bq bn n a0 f0 s : Nat} {A : Ar} {F : Nat → Prop} (hA : IsArena wA g A F) (hAl : ∀ k, F k → a0 ≤ k) (hf : IsF wF G bq bn [[]] n) (g1 : f0 ≤ G) (g2 : f0 ≤ bq) (g3 : f0 ≤ bn)
    (hbA : Below wA.heap.size wA wE) (hbF : Below wF.heap.size wF wE) (hbR : Below (wR.alloc (.cells (madeCells #[Value.int .i64 0] n) 3)).heap.size (wR.alloc (.cells (madeCells #[Value.int .i64 0] n) 3)) wE)
    (hO : wE = wO.alloc (.cells #[.pointer (some ⟨g, 0, none⟩), .pointer (some ⟨G, 0, none⟩), .slice (some ⟨wR.heap.size, 0, none⟩) n n] 81)) (hs : s = wO.heap.size) (hb : Below w.heap.size w wE)
    (i1 : w.heap.size ≤ a0) (i2 : w.heap.size ≤ f0) (i3 : w.heap.size ≤ wR.heap.size) (j1 : wA.heap.size ≤ f0 ∨ wF.heap.size ≤ a0) (j2 : wR.heap.size < a0 ∨ wA.heap.size ≤ wR.heap.size) (j3 : wR.heap.size < f0 ∨ wF.heap.size ≤ wR.heap.size)
    (j4 : wA.heap.size ≤ wO.heap.size) (j5 : wF.heap.size ≤ wO.heap.size) (j6 : wR.heap.size < wO.heap.size) (hn : n ≤ 16) (hl : A.list.length = n) :
    ∃ b : SB, Value.pointer (some ⟨s, 0, none⟩) = .pointer (some ⟨b.s, 0, none⟩) ∧ IsS wE b A [] (List.replicate n 0) ∧ (∀ k, k = b.s ∨ k = b.G ∨ b.ft k → w.heap.size ≤ k) ∧ Below w.heap.size w wE := by
  have hAk := hA.lt
  have hfl := hf.lt
  refine ⟨⟨s, g, G, bq, bn, wR.heap.size, F⟩, rfl, isS_new hA hf hn hl ?_ ?_ (fun k hk => hbA.block k (hAk k hk)) (fun k hk => hbF.block k (by omega)) (fun k hk => ?_) (fun k hk => by omega) (by omega), fun k hk => ?_, hb⟩
  · rw [hbR.block _ (by simp)]
    exact heap_alloc_new _ _
  · subst hs; subst hO
    exact heap_alloc_new _ _
  · have h1 := hAl k hk
    have h2 := hAk k hk
    omega
  · rcases hk with rfl | rfl | h | rfl | rfl | rfl
    · show w.heap.size ≤ _
      omega
    · show w.heap.size ≤ _
      omega
    · have := hAl k h; omega
    · show w.heap.size ≤ _
      omega
    · show w.heap.size ≤ _
      omega
    · show w.heap.size ≤ _
      omega
theorem Try.info_int1 : (Try.prog.info? 3).map (fun i => (i.zero, i.size, i.bytes)) = some (some (.int .i64 0), 1, 8) := by kernel_rfl
theorem st_new (n : Nat) (hn : n ≤ 16) : St (Ar.new n) (List.range' 0 n) [] [] (List.replicate n 0) := by
  have hg := Good.new n
  rw [show (max 0 (min (n : Int) 16)).toNat = n by omega] at hg
  refine ⟨hg, fun t i hp => ?_, rfl, fun t ht => by simp at ht, List.nodup_nil, by simp [Ar.new]; omega⟩
  exfalso
  obtain ⟨q, hq, hqt, _⟩ := (place_iff hg.ok t i).1 hp
  have := mem_of_get hq
  simp only [Ar.new, List.mem_map] at this
  obtain ⟨j, _, rfl⟩ := this
  cases hqt
def quotaN (q : Int) : Nat := (max 1 (min q 8)).toNat
theorem size_drew1 (w : World) : w.drew.heap.size = w.heap.size := rfl
theorem size_alloc1 (w : World) (o : Obj) : (w.alloc o).heap.size = w.heap.size + 1 := by simp
theorem new_take (n : Nat) (h : 1 ≤ n ∧ n ≤ 8) : (Ar.new n).take.1 = 1 ∧ (Ar.new n).take.2.1 = true := by
  have key : ∀ m : Fin 8, (Ar.new ((m.val + 1 : Nat) : Int)).take.1 = 1 ∧ (Ar.new ((m.val + 1 : Nat) : Int)).take.2.1 = true := by decide
  have := key ⟨n - 1, by omega⟩
  rw [show ((⟨n - 1, by omega⟩ : Fin 8).val + 1 : Nat) = n by simp; omega] at this
  exact this
theorem ext_below2 {w w1 w2 : World} {F : Nat → Prop} (hb : Below w.heap.size w w1) (hx : Ext w1 w2 F) (hF : ∀ k, F k → w.heap.size ≤ k) : Below w.heap.size w w2 :=
  ⟨hx.os.trans hb.os, hx.tape.trans hb.tape, hx.output.trans hb.output, Nat.le_trans hb.size hx.size, fun k hk => (hx.block k (Nat.lt_of_lt_of_le hk hb.size) (fun h => by have := hF k h; omega)).trans (hb.block k hk)⟩
set_option maxRecDepth 100000 in
set_option maxHeartbeats 8000000 in
theorem tnew_calls (q : Int) (w : World) (q0 : -9223372036854775808 ≤ q) (q1 : q ≤ 9223372036854775807) :
    Calls Try.prog 27 #[.int .i64 q] w fun e w' => ∃ b : SB, e = .returned (.pointer (some ⟨b.s, 0, none⟩)) ∧ IsT w' b (spnA (Ar.new (quotaN q))) (List.range' 1 (quotaN q - 1)) [1] ∧ (∀ k, k = b.s ∨ k = b.G ∨ b.ft k → w.heap.size ≤ k) ∧ Below w.heap.size w w' := by
  obtain ⟨n, hn⟩ : ∃ n : Nat, n = quotaN q := ⟨_, rfl⟩
  rw [← hn]
  have hcase : (q ≤ 8 ∧ (q = n ∨ q < 1 ∧ n = 1)) ∨ (8 < q ∧ n = 8) := by unfold quotaN at hn; omega
  have hn1 : 1 ≤ n ∧ n ≤ 8 := by unfold quotaN at hn; omega
  have hn8 := hn1.2
  have hmk := fun u : World => run_make_row' (P := Try.prog) 37 3 (.int .i64 0) 8 Try.underlying37 Try.info_int1 rfl .i64 .i64 n (by omega) (by omega) u
  have HAC := Lib.hid (fun u : World => anew_calls n u (by omega) (by omega))
  have HFC := Lib.hid (fun u : World => new_calls 1 n u)
  have HN1 := Lib.hid hn1
  have HN16 := Lib.hid (show n ≤ 16 by omega)
  have HH := Lib.hid (show heldN n = n by unfold heldN; omega)
  have HLN := Lib.hid (show (Ar.new n).list.length = n by simp [Ar.new]; omega)
  have HCA := Lib.hid hcase
  clear hn hn1 hcase
  go_enter Try.func27, Try.ntmps27
  go_upto_region 1 with (fail)
  go_cut [3] (fun s wc => s = .int .i64 n ∧ w = wc)
  case first =>
    go_wp2_with fail
    all_goals go_meet
    all_goals refine ⟨?_, rfl⟩
    all_goals congr 1
    all_goals have := HCA.out
    all_goals have := HN1.out
    all_goals omega
  case rest =>
    obtain ⟨rfl, rfl⟩ := hcut
    clear HCA q0 q1
    go_upto_region 3 with (fail)
    go_cut [4] (fun s wc => ∃ b : SB, s = .pointer (some ⟨b.s, 0, none⟩) ∧ IsS wc b (Ar.new n) [] (List.replicate n 0) ∧ (∀ k, k = b.s ∨ k = b.G ∨ b.ft k → w.heap.size ≤ k) ∧ Below w.heap.size w wc)
    case first => as_aux_lemma =>
      go_wp2_with fail
      go_region_held3 (fun w' => True) (first | go_keep | trivial) (first | (go_at_call 56; refine (HAC.out _).mono ?_; rintro e w1 ⟨g, F, rfl, hA, hF, hb1⟩) | (go_at_call 13; refine (HFC.out _).mono ?_; rintro e w2 ⟨G, bq, bn, rfl, hf, hg, hq, hbn, hb2⟩))
      all_goals go_wp2_with fail
      all_goals go_meet
      all_goals have z1 := hb1.size
      all_goals have z2 := hb2.size
      all_goals try simp only [size_alloc1, size_drew1] at z1 z2 hF hg hq hbn
      all_goals rw [HH.out] at hf
      all_goals first
      | (exact isS_made (w := w) (wR := w2) (wO := (w2.alloc (.cells (madeCells #[Value.int .i64 0] n) 3))) hA hF hf hg hq hbn (hbA := ((((Below.refl w1.heap.size w1).trans (hb2.mono (by first | (simp only [size_alloc1, size_drew1]; done) | (simp only [size_alloc1, size_drew1]; omega) | omega))).alloc (by first | (simp only [size_alloc1, size_drew1]; done) | (simp only [size_alloc1, size_drew1]; omega) | omega) _).alloc (by first | (simp only [size_alloc1, size_drew1]; done) | (simp only [size_alloc1, size_drew1]; omega) | omega) _)) (hbF := (((Below.refl w2.heap.size w2).alloc (by first | (simp only [size_alloc1, size_drew1]; done) | (simp only [size_alloc1, size_drew1]; omega) | omega) _).alloc (by first | (simp only [size_alloc1, size_drew1]; done) | (simp only [size_alloc1, size_drew1]; omega) | omega) _)) (hbR := ((Below.refl (w2.alloc (.cells (madeCells #[Value.int .i64 0] n) 3)).heap.size (w2.alloc (.cells (madeCells #[Value.int .i64 0] n) 3))).alloc (by first | (simp only [size_alloc1, size_drew1]; done) | (simp only [size_alloc1, size_drew1]; omega) | omega) _)) rfl (by first | (simp only [size_alloc1, size_drew1]; done) | (simp only [size_alloc1, size_drew1]; omega) | omega) (((((Below.refl w.heap.size w).drew.trans (hb1.mono (by first | (simp only [size_alloc1, size_drew1]; done) | (simp only [size_alloc1, size_drew1]; omega) | omega))).trans (hb2.mono (by first | (simp only [size_alloc1, size_drew1]; done) | (simp only [size_alloc1, size_drew1]; omega) | omega))).alloc (by first | (simp only [size_alloc1, size_drew1]; done) | (simp only [size_alloc1, size_drew1]; omega) | omega) _).alloc (by first | (simp only [size_alloc1, size_drew1]; done) | (simp only [size_alloc1, size_drew1]; omega) | omega) _) (by first | (simp only [size_alloc1, size_drew1]; done) | (simp only [size_alloc1, size_drew1]; omega) | omega) (by first | (simp only [size_alloc1, size_drew1]; done) | (simp only [size_alloc1, size_drew1]; omega) | omega) (by first | (simp only [size_alloc1, size_drew1]; done) | (simp only [size_alloc1, size_drew1]; omega) | omega) (by first | (simp only [size_alloc1, size_drew1]; done) | (simp only [size_alloc1, size_drew1]; omega) | omega) (by first | (simp only [size_alloc1, size_drew1]; done) | (simp only [size_alloc1, size_drew1]; omega) | omega) (by first | (simp only [size_alloc1, size_drew1]; done) | (simp only [size_alloc1, size_drew1]; omega) | omega) (by first | (simp only [size_alloc1, size_drew1]; done) | (simp only [size_alloc1, size_drew1]; omega) | omega) (by first | (simp only [size_alloc1, size_drew1]; done) | (simp only [size_alloc1, size_drew1]; omega) | omega) (by first | (simp only [size_alloc1, size_drew1]; done) | (simp only [size_alloc1, size_drew1]; omega) | omega) HN16.out HLN.out)
      | (exact isS_made (w := w) (wR := w1) (wO := w2) hA hF hf hg hq hbn (hbA := ((((Below.refl w1.heap.size w1).alloc (by first | (simp only [size_alloc1, size_drew1]; done) | (simp only [size_alloc1, size_drew1]; omega) | omega) _).trans (hb2.mono (by first | (simp only [size_alloc1, size_drew1]; done) | (simp only [size_alloc1, size_drew1]; omega) | omega))).alloc (by first | (simp only [size_alloc1, size_drew1]; done) | (simp only [size_alloc1, size_drew1]; omega) | omega) _)) (hbF := ((Below.refl w2.heap.size w2).alloc (by first | (simp only [size_alloc1, size_drew1]; done) | (simp only [size_alloc1, size_drew1]; omega) | omega) _)) (hbR := (((Below.refl (w1.alloc (.cells (madeCells #[Value.int .i64 0] n) 3)).heap.size (w1.alloc (.cells (madeCells #[Value.int .i64 0] n) 3))).trans (hb2.mono (by first | (simp only [size_alloc1, size_drew1]; done) | (simp only [size_alloc1, size_drew1]; omega) | omega))).alloc (by first | (simp only [size_alloc1, size_drew1]; done) | (simp only [size_alloc1, size_drew1]; omega) | omega) _)) rfl (by first | (simp only [size_alloc1, size_drew1]; done) | (simp only [size_alloc1, size_drew1]; omega) | omega) (((((Below.refl w.heap.size w).drew.trans (hb1.mono (by first | (simp only [size_alloc1, size_drew1]; done) | (simp only [size_alloc1, size_drew1]; omega) | omega))).alloc (by first | (simp only [size_alloc1, size_drew1]; done) | (simp only [size_alloc1, size_drew1]; omega) | omega) _).trans (hb2.mono (by first | (simp only [size_alloc1, size_drew1]; done) | (simp only [size_alloc1, size_drew1]; omega) | omega))).alloc (by first | (simp only [size_alloc1, size_drew1]; done) | (simp only [size_alloc1, size_drew1]; omega) | omega) _) (by first | (simp only [size_alloc1, size_drew1]; done) | (simp only [size_alloc1, size_drew1]; omega) | omega) (by first | (simp only [size_alloc1, size_drew1]; done) | (simp only [size_alloc1, size_drew1]; omega) | omega) (by first | (simp only [size_alloc1, size_drew1]; done) | (simp only [size_alloc1, size_drew1]; omega) | omega) (by first | (simp only [size_alloc1, size_drew1]; done) | (simp only [size_alloc1, size_drew1]; omega) | omega) (by first | (simp only [size_alloc1, size_drew1]; done) | (simp only [size_alloc1, size_drew1]; omega) | omega) (by first | (simp only [size_alloc1, size_drew1]; done) | (simp only [size_alloc1, size_drew1]; omega) | omega) (by first | (simp only [size_alloc1, size_drew1]; done) | (simp only [size_alloc1, size_drew1]; omega) | omega) (by first | (simp only [size_alloc1, size_drew1]; done) | (simp only [size_alloc1, size_drew1]; omega) | omega) (by first | (simp only [size_alloc1, size_drew1]; done) | (simp only [size_alloc1, size_drew1]; omega) | omega) HN16.out HLN.out)
      | (exact isS_made (w := w) (wR := w1) (wO := (w1.alloc (.cells (madeCells #[Value.int .i64 0] n) 3))) hA hF hf hg hq hbn (hbA := (((Below.refl w1.heap.size w1).alloc (by first | (simp only [size_alloc1, size_drew1]; done) | (simp only [size_alloc1, size_drew1]; omega) | omega) _).alloc (by first | (simp only [size_alloc1, size_drew1]; done) | (simp only [size_alloc1, size_drew1]; omega) | omega) _)) (hbF := ((((Below.refl w2.heap.size w2).trans (hb1.mono (by first | (simp only [size_alloc1, size_drew1]; done) | (simp only [size_alloc1, size_drew1]; omega) | omega))).alloc (by first | (simp only [size_alloc1, size_drew1]; done) | (simp only [size_alloc1, size_drew1]; omega) | omega) _).alloc (by first | (simp only [size_alloc1, size_drew1]; done) | (simp only [size_alloc1, size_drew1]; omega) | omega) _)) (hbR := ((Below.refl (w1.alloc (.cells (madeCells #[Value.int .i64 0] n) 3)).heap.size (w1.alloc (.cells (madeCells #[Value.int .i64 0] n) 3))).alloc (by first | (simp only [size_alloc1, size_drew1]; done) | (simp only [size_alloc1, size_drew1]; omega) | omega) _)) rfl (by first | (simp only [size_alloc1, size_drew1]; done) | (simp only [size_alloc1, size_drew1]; omega) | omega) (((((Below.refl w.heap.size w).drew.trans (hb2.mono (by first | (simp only [size_alloc1, size_drew1]; done) | (simp only [size_alloc1, size_drew1]; omega) | omega))).trans (hb1.mono (by first | (simp only [size_alloc1, size_drew1]; done) | (simp only [size_alloc1, size_drew1]; omega) | omega))).alloc (by first | (simp only [size_alloc1, size_drew1]; done) | (simp only [size_alloc1, size_drew1]; omega) | omega) _).alloc (by first | (simp only [size_alloc1, size_drew1]; done) | (simp only [size_alloc1, size_drew1]; omega) | omega) _) (by first | (simp only [size_alloc1, size_drew1]; done) | (simp only [size_alloc1, size_drew1]; omega) | omega) (by first | (simp only [size_alloc1, size_drew1]; done) | (simp only [size_alloc1, size_drew1]; omega) | omega) (by first | (simp only [size_alloc1, size_drew1]; done) | (simp only [size_alloc1, size_drew1]; omega) | omega) (by first | (simp only [size_alloc1, size_drew1]; done) | (simp only [size_alloc1, size_drew1]; omega) | omega) (by first | (simp only [size_alloc1, size_drew1]; done) | (simp only [size_alloc1, size_drew1]; omega) | omega) (by first | (simp only [size_alloc1, size_drew1]; done) | (simp only [size_alloc1, size_drew1]; omega) | omega) (by first | (simp only [size_alloc1, size_drew1]; done) | (simp only [size_alloc1, size_drew1]; omega) | omega) (by first | (simp only [size_alloc1, size_drew1]; done) | (simp only [size_alloc1, size_drew1]; omega) | omega) (by first | (simp only [size_alloc1, size_drew1]; done) | (simp only [size_alloc1, size_drew1]; omega) | omega) HN16.out HLN.out)
      | (exact isS_made (w := w) (wR := w2) (wO := w1) hA hF hf hg hq hbn (hbA := ((Below.refl w1.heap.size w1).alloc (by first | (simp only [size_alloc1, size_drew1]; done) | (simp only [size_alloc1, size_drew1]; omega) | omega) _)) (hbF := ((((Below.refl w2.heap.size w2).alloc (by first | (simp only [size_alloc1, size_drew1]; done) | (simp only [size_alloc1, size_drew1]; omega) | omega) _).trans (hb1.mono (by first | (simp only [size_alloc1, size_drew1]; done) | (simp only [size_alloc1, size_drew1]; omega) | omega))).alloc (by first | (simp only [size_alloc1, size_drew1]; done) | (simp only [size_alloc1, size_drew1]; omega) | omega) _)) (hbR := (((Below.refl (w2.alloc (.cells (madeCells #[Value.int .i64 0] n) 3)).heap.size (w2.alloc (.cells (madeCells #[Value.int .i64 0] n) 3))).trans (hb1.mono (by first | (simp only [size_alloc1, size_drew1]; done) | (simp only [size_alloc1, size_drew1]; omega) | omega))).alloc (by first | (simp only [size_alloc1, size_drew1]; done) | (simp only [size_alloc1, size_drew1]; omega) | omega) _)) rfl (by first | (simp only [size_alloc1, size_drew1]; done) | (simp only [size_alloc1, size_drew1]; omega) | omega) (((((Below.refl w.heap.size w).drew.trans (hb2.mono (by first | (simp only [size_alloc1, size_drew1]; done) | (simp only [size_alloc1, size_drew1]; omega) | omega))).alloc (by first | (simp only [size_alloc1, size_drew1]; done) | (simp only [size_alloc1, size_drew1]; omega) | omega) _).trans (hb1.mono (by first | (simp only [size_alloc1, size_drew1]; done) | (simp only [size_alloc1, size_drew1]; omega) | omega))).alloc (by first | (simp only [size_alloc1, size_drew1]; done) | (simp only [size_alloc1, size_drew1]; omega) | omega) _) (by first | (simp only [size_alloc1, size_drew1]; done) | (simp only [size_alloc1, size_drew1]; omega) | omega) (by first | (simp only [size_alloc1, size_drew1]; done) | (simp only [size_alloc1, size_drew1]; omega) | omega) (by first | (simp only [size_alloc1, size_drew1]; done) | (simp only [size_alloc1, size_drew1]; omega) | omega) (by first | (simp only [size_alloc1, size_drew1]; done) | (simp only [size_alloc1, size_drew1]; omega) | omega) (by first | (simp only [size_alloc1, size_drew1]; done) | (simp only [size_alloc1, size_drew1]; omega) | omega) (by first | (simp only [size_alloc1, size_drew1]; done) | (simp only [size_alloc1, size_drew1]; omega) | omega) (by first | (simp only [size_alloc1, size_drew1]; done) | (simp only [size_alloc1, size_drew1]; omega) | omega) (by first | (simp only [size_alloc1, size_drew1]; done) | (simp only [size_alloc1, size_drew1]; omega) | omega) (by first | (simp only [size_alloc1, size_drew1]; done) | (simp only [size_alloc1, size_drew1]; omega) | omega) HN16.out HLN.out)
      | (exact isS_made (w := w) (wR := w) (wO := w2) hA hF hf hg hq hbn (hbA := (((Below.refl w1.heap.size w1).trans (hb2.mono (by first | (simp only [size_alloc1, size_drew1]; done) | (simp only [size_alloc1, size_drew1]; omega) | omega))).alloc (by first | (simp only [size_alloc1, size_drew1]; done) | (simp only [size_alloc1, size_drew1]; omega) | omega) _)) (hbF := ((Below.refl w2.heap.size w2).alloc (by first | (simp only [size_alloc1, size_drew1]; done) | (simp only [size_alloc1, size_drew1]; omega) | omega) _)) (hbR := ((((Below.refl (w.alloc (.cells (madeCells #[Value.int .i64 0] n) 3)).heap.size (w.alloc (.cells (madeCells #[Value.int .i64 0] n) 3))).drew.trans (hb1.mono (by first | (simp only [size_alloc1, size_drew1]; done) | (simp only [size_alloc1, size_drew1]; omega) | omega))).trans (hb2.mono (by first | (simp only [size_alloc1, size_drew1]; done) | (simp only [size_alloc1, size_drew1]; omega) | omega))).alloc (by first | (simp only [size_alloc1, size_drew1]; done) | (simp only [size_alloc1, size_drew1]; omega) | omega) _)) rfl (by first | (simp only [size_alloc1, size_drew1]; done) | (simp only [size_alloc1, size_drew1]; omega) | omega) (((((Below.refl w.heap.size w).alloc (by first | (simp only [size_alloc1, size_drew1]; done) | (simp only [size_alloc1, size_drew1]; omega) | omega) _).drew.trans (hb1.mono (by first | (simp only [size_alloc1, size_drew1]; done) | (simp only [size_alloc1, size_drew1]; omega) | omega))).trans (hb2.mono (by first | (simp only [size_alloc1, size_drew1]; done) | (simp only [size_alloc1, size_drew1]; omega) | omega))).alloc (by first | (simp only [size_alloc1, size_drew1]; done) | (simp only [size_alloc1, size_drew1]; omega) | omega) _) (by first | (simp only [size_alloc1, size_drew1]; done) | (simp only [size_alloc1, size_drew1]; omega) | omega) (by first | (simp only [size_alloc1, size_drew1]; done) | (simp only [size_alloc1, size_drew1]; omega) | omega) (by first | (simp only [size_alloc1, size_drew1]; done) | (simp only [size_alloc1, size_drew1]; omega) | omega) (by first | (simp only [size_alloc1, size_drew1]; done) | (simp only [size_alloc1, size_drew1]; omega) | omega) (by first | (simp only [size_alloc1, size_drew1]; done) | (simp only [size_alloc1, size_drew1]; omega) | omega) (by first | (simp only [size_alloc1, size_drew1]; done) | (simp only [size_alloc1, size_drew1]; omega) | omega) (by first | (simp only [size_alloc1, size_drew1]; done) | (simp only [size_alloc1, size_drew1]; omega) | omega) (by first | (simp only [size_alloc1, size_drew1]; done) | (simp only [size_alloc1, size_drew1]; omega) | omega) (by first | (simp only [size_alloc1, size_drew1]; done) | (simp only [size_alloc1, size_drew1]; omega) | omega) HN16.out HLN.out)
      | (exact isS_made (w := w) (wR := w) (wO := w1) hA hF hf hg hq hbn (hbA := ((Below.refl w1.heap.size w1).alloc (by first | (simp only [size_alloc1, size_drew1]; done) | (simp only [size_alloc1, size_drew1]; omega) | omega) _)) (hbF := (((Below.refl w2.heap.size w2).trans (hb1.mono (by first | (simp only [size_alloc1, size_drew1]; done) | (simp only [size_alloc1, size_drew1]; omega) | omega))).alloc (by first | (simp only [size_alloc1, size_drew1]; done) | (simp only [size_alloc1, size_drew1]; omega) | omega) _)) (hbR := ((((Below.refl (w.alloc (.cells (madeCells #[Value.int .i64 0] n) 3)).heap.size (w.alloc (.cells (madeCells #[Value.int .i64 0] n) 3))).drew.trans (hb2.mono (by first | (simp only [size_alloc1, size_drew1]; done) | (simp only [size_alloc1, size_drew1]; omega) | omega))).trans (hb1.mono (by first | (simp only [size_alloc1, size_drew1]; done) | (simp only [size_alloc1, size_drew1]; omega) | omega))).alloc (by first | (simp only [size_alloc1, size_drew1]; done) | (simp only [size_alloc1, size_drew1]; omega) | omega) _)) rfl (by first | (simp only [size_alloc1, size_drew1]; done) | (simp only [size_alloc1, size_drew1]; omega) | omega) (((((Below.refl w.heap.size w).alloc (by first | (simp only [size_alloc1, size_drew1]; done) | (simp only [size_alloc1, size_drew1]; omega) | omega) _).drew.trans (hb2.mono (by first | (simp only [size_alloc1, size_drew1]; done) | (simp only [size_alloc1, size_drew1]; omega) | omega))).trans (hb1.mono (by first | (simp only [size_alloc1, size_drew1]; done) | (simp only [size_alloc1, size_drew1]; omega) | omega))).alloc (by first | (simp only [size_alloc1, size_drew1]; done) | (simp only [size_alloc1, size_drew1]; omega) | omega) _) (by first | (simp only [size_alloc1, size_drew1]; done) | (simp only [size_alloc1, size_drew1]; omega) | omega) (by first | (simp only [size_alloc1, size_drew1]; done) | (simp only [size_alloc1, size_drew1]; omega) | omega) (by first | (simp only [size_alloc1, size_drew1]; done) | (simp only [size_alloc1, size_drew1]; omega) | omega) (by first | (simp only [size_alloc1, size_drew1]; done) | (simp only [size_alloc1, size_drew1]; omega) | omega) (by first | (simp only [size_alloc1, size_drew1]; done) | (simp only [size_alloc1, size_drew1]; omega) | omega) (by first | (simp only [size_alloc1, size_drew1]; done) | (simp only [size_alloc1, size_drew1]; omega) | omega) (by first | (simp only [size_alloc1, size_drew1]; done) | (simp only [size_alloc1, size_drew1]; omega) | omega) (by first | (simp only [size_alloc1, size_drew1]; done) | (simp only [size_alloc1, size_drew1]; omega) | omega) (by first | (simp only [size_alloc1, size_drew1]; done) | (simp only [size_alloc1, size_drew1]; omega) | omega) HN16.out HLN.out)
    case rest =>
      obtain ⟨b, rfl, hs, hk, hb⟩ := hcut
      have hT : IsT wc b (Ar.new n) (List.range' 0 n) [] := ⟨_, _, hs, st_new n HN16.out⟩
      have hsp := tspawn_calls hT
      obtain ⟨k1, k2⟩ := new_take n HN1.out
      have hR : spnR (Ar.new n) [] = [1] := by unfold spnR; rw [k2, k1]; rfl
      rw [hR, show (List.range' 0 n).tail = List.range' 1 (n - 1) by have := HN1.out; obtain ⟨m, rfl⟩ : ∃ m, n = m + 1 := ⟨n - 1, by omega⟩; simp [List.range'_succ]] at hsp
      have HSP := Lib.hid hsp
      have HK := Lib.hid hk
      have HB := Lib.hid hb
      have HLT := Lib.hid hs.lt
      clear hsp k1 k2 hR hT hs hk hb hmk
      go_wp2_with fail
      refine HSP.out.mono ?_
      rintro e w2 ⟨rfl, _, h2, hx2⟩
      have H2 := Lib.hid h2
      have HB2 := Lib.hid (ext_below2 HB.out hx2 (fun k hk => HK.out k (.inr (.inr hk))))
      clear h2 hx2
      go_wp2_with fail
      go_ret
      exact ⟨b, rfl, H2.out, HK.out, HB2.out⟩
end Go.Proofs.Ytkiogbenbicghaa
