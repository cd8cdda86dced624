/- The law ArenaPlays, walked: it returns true, and leaves all memory that was there as it was. Conditions: the numbers fit their kinds, the list takes at most 2^47 - 4096 bytes. -/
import Derived.Test.YtbmkioaomjnggaaLaw06b
import Derived.Test.YtbmkioaomjnggaaSim06
import Derived.Test.YtbmkioaomjnggaaInts
namespace Go.Proofs.Ytbmkioaomjnggaa
open Go.RowKit

/-- Both arenas in memory, and the handles that were given. -/
structure Plays (w wr : World) (g : Nat) (F : Nat → Prop) (A : Ar) (r : Nat) (R : Rf) (vs : List Value) (gv : Value) (G : List Int) : Prop where
  arena : IsArena wr g A F
  afoot : ∀ k, F k → w.heap.size ≤ k
  ref : IsRf wr r R vs
  rfoot : ∀ k, foot r (rfFields R) vs k → w.heap.size ≤ k
  apart : ∀ k, F k → ¬ foot r (rfFields R) vs k
  given : wr.ownsRow w.heap.size 3 1 gv G.length (ints G)
  gapart : ∀ k, gv.ownBlock = some k → ¬ foot r (rfFields R) vs k
  below : Below w.heap.size w wr
theorem IsRf.frame {w w' : World} {g : Nat} {R : Rf} {vs : List Value} (h : IsRf w g R vs) (hs : ∀ k, foot g (rfFields R) vs k → w'.heap[k]? = w.heap[k]?) : IsRf w' g R vs := ⟨h.1, h.2.frame hs⟩
theorem Reads.below {w w' : World} {size : Nat} {v : Value} {n : Nat} {xs : List Value} (h : Reads w size v n xs) (hs : 0 < size) (hb : Below w.heap.size w w') : Reads w' size v n xs := by
  by_cases hn : 0 < n
  · exact h.frame (fun k hk => hb.block k (h.lt hn hs k hk))
  · obtain ⟨h1, a, cap, rfl, h2, h3, h4⟩ := h
    exact ⟨h1, a, cap, rfl, h2, h3, fun h0 => absurd h0 hn⟩
section
variable {w wr w2 : World} {g : Nat} {F : Nat → Prop} {A A' : Ar} {r : Nat} {R R' : Rf} {vs : List Value} {gv gv' : Value} {G G' : List Int}
theorem Plays.stepA (h : Plays w wr g F A r R vs gv G) (hA : IsArena w2 g A' F) (hx : Ext wr w2 F) : Plays w w2 g F A' r R vs gv G :=
  ⟨hA, h.afoot, h.ref.frame (fun k hk => hx.block k (h.ref.2.lt k hk) (fun hF => h.apart k hF hk)), h.rfoot, h.apart, h.arena.leaves hx h.given (by decide) (by decide), h.gapart, below_ext h.below hx h.afoot⟩
theorem Plays.stepR (h : Plays w wr g F A r R vs gv G) (hx : After wr r R vs w2 R') : ∃ vs', Plays w w2 g F A r R' vs' gv G := by
  obtain ⟨vs', hR, hf, hx⟩ := hx
  have hs := h.below.size
  refine ⟨vs', h.arena.frame (fun k hk => hx.block k (h.arena.lt k hk) (h.apart k hk)), h.afoot, hR, fun k hk => ?_, fun k hk hk2 => ?_, owns_same h.given (fun k hk => hx.block k (h.given.lt k hk).2 (h.gapart k hk)), fun k hk hk2 => ?_, below_ext h.below hx h.rfoot⟩
  · rcases hf k hk with h1 | h1
    · exact h.rfoot k h1
    · omega
  · rcases hf k hk2 with h1 | h1
    · exact h.apart k hk h1
    · have := h.arena.lt k hk; omega
  · rcases hf k hk2 with h1 | h1
    · exact h.gapart k hk h1
    · have := (h.given.lt k hk).2; omega
theorem Plays.stepB (h : Plays w wr g F A r R vs gv G) (hb : Below wr.heap.size wr w2) : Plays w w2 g F A r R vs gv G :=
  ⟨h.arena.frame (fun k hk => hb.block k (h.arena.lt k hk)), h.afoot, h.ref.frame (fun k hk => hb.block k (h.ref.2.lt k hk)), h.rfoot, h.apart, owns_same h.given (fun k hk => hb.block k (h.given.lt k hk).2), h.gapart, h.below.trans (hb.mono h.below.size)⟩
theorem Plays.drewN (h : Plays w wr g F A r R vs gv G) (n : Nat) : Plays w (wr.drewN n) g F A r R vs gv G := h.stepB ⟨rfl, rfl, rfl, Nat.le_refl _, fun _ _ => rfl⟩
theorem Plays.push {gb c n : Nat} (h : Plays w wr g F A r R vs gv G) (o : Obj) (hg : (wr.alloc o).grownBy w2 gv.ownBlock) (lies : gv.ownBlock = some gb ∨ gb = wr.heap.size + 1) (hn : n = G'.length)
    (own : w2.ownsRow w.heap.size 3 1 (.slice (some ⟨gb, 0, none⟩) n c) n (ints G')) : Plays w w2 g F A r R vs (.slice (some ⟨gb, 0, none⟩) n c) G' := by
  obtain ⟨hx, hl⟩ := grow_step (wr := wr) (plus_one wr o) hg (by simpa using lies)
  have hs := h.below.size
  subst hn
  have hga := h.arena.beside h.given (by decide) (by decide)
  refine ⟨h.arena.frame (fun k hk => hx.block k (h.arena.lt k hk) (fun e => hga k e hk)), h.afoot, h.ref.frame (fun k hk => hx.block k (h.ref.2.lt k hk) (fun e => h.gapart k e hk)), h.rfoot, h.apart, own, ?_, below_ext h.below hx (fun k hk => (h.given.lt k hk).1)⟩
  intro k hk hf
  simp [Value.ownBlock] at hk
  subst hk
  rcases hl with hl | hl
  · exact h.gapart _ hl hf
  · have := h.ref.2.lt _ hf; omega
end

set_option maxHeartbeats 8000000 in
set_option maxRecDepth 100000 in
theorem arenaPlays_walk (w : World) (m : Int) (m0 : -9223372036854775808 ≤ m) (m1 : m ≤ 9223372036854775807) (v : Value) (n : Nat) (xs : List (List Int)) (hl : xs.length = n) (hr : Reads w 3 v n (xs.flatMap (rowCells [.u8, .i64, .u8])))
    (hb : ∀ x ∈ xs, x.length = 3 ∧ ∀ (j : Nat) k y, [IntKind.u8, .i64, .u8][j]? = some k → x[j]? = some y → (Lit.int k y).wf = true) (hz : n * Try.prog.bytesOf 29 ≤ 140737488351232) :
    Calls Try.prog 3 #[.int .i64 m, v] w fun e w' => e = .returned (.bool true) ∧ Below w.heap.size w w' := by
  rw [show Try.prog.bytesOf 29 = 24 by kernel_rfl] at hz
  obtain ⟨i0, hi0, hz0, hz1, hz2⟩ := info_parts Try.info_int
  have HI0 := Lib.hid hi0
  clear hi0
  obtain ⟨a, cap, hv, hnc, hcm, hpos⟩ := hr.2
  have hpos' : 0 < n → ∃ b o, a = some ⟨b, o, none⟩ := fun hn => by obtain ⟨b, o, e, _⟩ := hpos hn; exact ⟨b, o, e⟩
  clear hpos
  subst hv
  have HB := Lib.hid hb
  have HL := Lib.hid hl
  have HR := Lib.hid hr
  have hlt := Lib.hid (fun (hn : 0 < n) => hr.lt hn (by omega))
  clear hb hl hr
  go_enter Try.func3, Try.ntmps3
  go_wp2_with fail
  refine (anew_calls m w (by omega) (by omega)).mono ?_
  rintro e w1 ⟨g, F, rfl, hA, hF, hb⟩
  go_wp2_with fail
  refine (rnew_calls m w1 (by omega) (by omega)).mono ?_
  rintro e w2 ⟨r, vs, rfl, hR, hrF, hb2⟩
  go_wp2_with fail
  have hinit : Plays w (w2.alloc (.cells #[] 3)) g F (Ar.new m) r (Rf.new m) vs (.slice (some ⟨w2.heap.size, 0, none⟩) 0 0) [] := by
    have hs := hb.size
    have hs2 := hb2.size
    have h2 := plus_one w2 (.cells #[] 3)
    have hb12 := hb2.trans (h2.mono hs2)
    refine ⟨hA.frame (fun k hk => hb12.block k (hA.lt k hk)), hF, hR.frame (fun k hk => h2.block k (hR.2.lt k hk)), fun k hk => Nat.le_trans hs (hrF k hk), fun k hk hk2 => ?_, ?_, fun k hk hk2 => ?_, hb.trans (hb12.mono hs)⟩
    · have := hA.lt k hk
      have := hrF k hk2
      omega
    · exact World.ownsRow_made w2 #[] 0 (by omega) (by unfold maxLen; omega) rfl
    · simp [Value.ownBlock] at hk
      have := hR.2.lt k hk2
      omega
  have hsim := Lib.hid (Sim.new m)
  clear hA hb hF hR hrF hb2
  go_loopg [7, 8] n (fun q gv i wr => ∃ (k : Nat) (A : Ar) (fs : List Nat) (R : Rf) (vs : List Value) (G : List Int), i = .int .i64 k ∧ k ≤ 80 ∧ k + q = n ∧ Plays w wr g F A r R vs gv G ∧ Sim A fs R ∧ G.length ≤ k ∧ (∀ x ∈ G, 0 ≤ x ∧ x ≤ 4096))
  case atStart => exact ⟨0, _, _, _, _, _, by go_num, by omega, by omega, hinit, hsim.out, Nat.le_refl _, by simp⟩
  case round =>
    clear hinit hsim
    obtain ⟨k, A, fs, R, vs, G, rfl, hk80, hkn, hP, hS, hG, hG4⟩ := hrel
    by_cases hlt' : k < n ∧ k < 80
    · obtain ⟨hlt1, hlt2⟩ := hlt'
      obtain ⟨b, o, rfl⟩ := hpos' (by omega)
      have hbW := hlt.out (by omega) b rfl
      obtain ⟨d, h, q, hxk, hd, hh, hq, e1w, e2w, e3w⟩ := act_cells HR.out HB.out HL.out k hlt1
      have e1 := (hP.below.cell (p := ⟨b, o + k * 3, none⟩) hbW).trans e1w
      have e2 := (hP.below.cell (p := ⟨b, o + k * 3 + 1, none⟩) hbW).trans e2w
      have e3 := (hP.below.cell (p := ⟨b, o + k * 3 + 2, none⟩) hbW).trans e3w
      have hws := hP.below.size
      have HP := Lib.hid hP
      have HS := Lib.hid hS
      have HG4 := Lib.hid hG4
      clear hxk hP hS hG4
      obtain ⟨ga, gcap, rfl, _, _, hg3⟩ := owns_shape HP.out.given
      go_upto_if 37 with (fail)
      go_cut [7] (fun gv wc => ∃ (A : Ar) (fs : List Nat) (R : Rf) (vs : List Value) (G : List Int), Plays w wc g F A r R vs gv G ∧ Sim A fs R ∧ G.length ≤ k + 1 ∧ (∀ x ∈ G, 0 ≤ x ∧ x ≤ 4096))
      case first => as_aux_lemma =>
        have hP1 := HP.out.stepB (plus_one wr (.cells #[.int .u8 d, .int .i64 h, .int .u8 q] 29))
        by_cases hd0 : d % 3 = 0
        · as_aux_lemma =>
          have hd0' : (d % 3 == 0) = true := by rw [hd0]; rfl
          have HD := Lib.hid hd0
          clear hd0
          obtain ⟨x, bb, A', R', fs', ht1, ht2, hS', hx0, hx1⟩ := HS.out.take
          have HT1 := Lib.hid ht1
          have HT2 := Lib.hid ht2
          clear ht1 ht2
          go_wp2_with fail
          refine (take_calls hP1.arena).mono ?_
          rw [HT1.out]
          rintro e w3 ⟨rfl, hA3, hx3⟩
          have hP3 := hP1.stepA hA3 hx3
          go_wp2_with fail
          refine (rtake_calls hP3.ref).mono ?_
          rw [HT2.out]
          rintro e w4 ⟨rfl, hx4⟩
          obtain ⟨vs4, hP4⟩ := hP3.stepR hx4
          clear hP1 hP3 hA3 hx3 hx4
          have hs4 := hP4.below.size
          go_wp2_with (at_builtin; refine wpList_append_lies _ rfl (.tmp 56) (.tmp 58) 27 rfl w.heap.size 3 i0 (.int .i64 0) 1 8 Try.underlying27 HI0.out hz0 hz1 hz2 rfl (by decide) (.slice ga G.length gcap) G.length (ints G) rfl (hP4.given.alloc _) _ 1 1 [.int .i64 x] rfl rfl ?_ ?_ (by omega) ?_ ?_ (by simp; omega) _ rfl ?_; exact news_at _ _ _ _ (by simp); exact news_int _; (unfold maxLen; omega); omega)
          intro gb gc w5 own grow lies lt
          rw [← ints_snoc] at own
          have hP5 := hP4.push (G' := G ++ [x]) _ grow lies (by simp) own
          go_wp2_with fail
          go_meet
          refine ⟨A', fs', R', vs4, G ++ [x], hP5, hS', by simp; omega, ?_⟩
          intro y hy
          rcases List.mem_append.1 hy with hy | hy
          · exact HG4.out y hy
          · simp at hy; omega
        · as_aux_lemma =>
          have hd0' : (d % 3 == 0) = false := by rw [beq_eq_false_iff_ne]; exact hd0
          have HD := Lib.hid hd0
          clear hd0
          have hc : ∃ c : Bool, (c = true → d % 3 = 1 ∧ 0 < G.length) ∧ (c = false → d % 3 ≠ 1 ∨ G.length ≤ 0) := by
            by_cases h : d % 3 = 1 ∧ 0 < G.length
            · exact ⟨true, (fun _ => h), (fun h => by cases h)⟩
            · refine ⟨false, (fun h => by cases h), fun _ => ?_⟩
              by_cases h1 : d % 3 ≠ 1
              · exact .inl h1
              · exact .inr (by omega)
          obtain ⟨c, hc1, hc2⟩ := hc
          have HC1 := Lib.hid hc1
          have HC2 := Lib.hid hc2
          clear hc1 hc2
          go_upto_region 14 with (fail)
          go_cut [70] (fun s wc => s = .bool c ∧ wc = wr.alloc (.cells #[.int .u8 d, .int .i64 h, .int .u8 q] 29))
          case first => as_aux_lemma =>
            cases c
            · by_cases h1 : d % 3 = 1
              · have h2 : ¬ 0 < G.length := by have := HC2.out rfl; omega
                have h4 : decide (0 < (G.length : Int)) = false := decide_eq_false (by omega)
                have h3 : (d % 3 == 1) = true := by rw [h1]; rfl
                clear h1
                go_wp2_with fail
                go_meet
                exact ⟨by first | rfl | rw [h4] | (congr 1; simpa using h4), rfl⟩
              · have h3 : (d % 3 == 1) = false := by rw [beq_eq_false_iff_ne]; exact h1
                clear h1
                go_wp2_with fail
                go_meet
                exact ⟨rfl, rfl⟩
            · obtain ⟨h1, h2⟩ := HC1.out rfl
              have h3 : (d % 3 == 1) = true := by rw [h1]; rfl
              clear h1
              go_wp2_with fail
              go_meet
              exact ⟨by first | rfl | simp [h2], rfl⟩
          case rest =>
            obtain ⟨rfl, rfl⟩ := hcut
            go_upto_if 70 with (fail)
            go_cut [14] (fun hv wc => ∃ y : Int, hv = .int .i64 y ∧ (-9223372036854775808 ≤ y ∧ y ≤ 9223372036854775807) ∧ wc = wr.alloc (.cells #[.int .u8 d, .int .i64 h, .int .u8 q] 29))
            case first => as_aux_lemma =>
              cases c
              · go_wp2_with fail
                go_meet
                exact ⟨h, rfl, hh, rfl⟩
              · obtain ⟨h1, h2⟩ := HC1.out rfl
                obtain ⟨kk, hkk⟩ := Int.eq_ofNat_of_zero_le (a := q % (G.length : Int)) (Int.emod_nonneg _ (by omega))
                have hkl : q % (G.length : Int) < G.length := Int.emod_lt_of_pos _ (by omega)
                rw [hkk] at hkl
                have hkl' : kk < G.length := by omega
                obtain ⟨y, hy⟩ : ∃ y, G[kk]? = some y := ⟨_, List.getElem?_eq_getElem hkl'⟩
                obtain ⟨ga, rfl⟩ := hg3 (by omega)
                have c1 := owns_int hP1.given hy
                have hyr := HG4.out y (mem_of_get hy)
                have ik0 : (0 : Int) ≤ (kk : Int) := Int.natCast_nonneg _
                clear h1 hy hP1 e1 e2 e3
                go_wp2_with fail
                go_meet
                exact ⟨y, rfl, by omega, rfl⟩
            case rest => as_aux_lemma =>
              obtain ⟨y, rfl, hy, rfl⟩ := hcut
              obtain ⟨bb, A', R', fs', hf1, hf2, hS', hq1, hq2⟩ := HS.out.freed y
              have hpl := HS.out.place y
              obtain ⟨pp, hpp⟩ : ∃ pp, pp = A.place y := ⟨_, rfl⟩
              have hc1 := place_calls hP1.arena y hy.2
              have hc2 := rplace_calls hP1.ref y
              have hc3 := is_calls hP1.arena y hy.2
              have hc4 := free_calls hP1.arena y hy.2
              rw [hpl] at hc2
              rw [← hpp] at hc1 hc2 hc3
              rw [hf1] at hc4
              have HF2 := Lib.hid hf2
              have HQ1 := Lib.hid hq1
              have HQ2 := Lib.hid hq2
              have HC1' := Lib.hid hc1
              have HC2' := Lib.hid hc2
              have HC3' := Lib.hid hc3
              have HC4' := Lib.hid hc4
              clear hf1 hf2 hq1 hq2 hc1 hc2 hc3 hc4 hpl hpp e1 e2 e3
              go_wp2_with fail
              refine HC1'.out.mono ?_
              rintro e w3 ⟨rfl, rfl⟩
              go_wp2_with fail
              refine HC2'.out.mono ?_
              rintro e w3 ⟨rfl, rfl⟩
              go_wp2_with fail
              refine HC3'.out.mono ?_
              rintro e w3 ⟨rfl, rfl⟩
              go_wp2_with fail
              refine HC2'.out.mono ?_
              rintro e w3 ⟨rfl, rfl⟩
              go_wp2_with fail
              refine HC4'.out.mono ?_
              rintro e w3 ⟨rfl, hA3, hx3⟩
              have hP3 := hP1.stepA hA3 hx3
              go_wp2_with fail
              refine (rfree_calls hP3.ref y HQ1.out HQ2.out).mono ?_
              rw [HF2.out]
              rintro e w4 ⟨rfl, hx4⟩
              obtain ⟨vs4, hP4⟩ := hP3.stepR hx4
              go_wp2_with fail
              go_meet
              exact ⟨A', fs', R', vs4, G, hP4, hS', by omega, HG4.out⟩
      case rest => as_aux_lemma =>
        clear e1 e2 e3 HP HS hws HG4 hG hg3 hlt
        obtain ⟨A, fs, R, vs, G, hP, hS, hG, hG4⟩ := hcut
        have hws := hP.below.size
        have HLV := Lib.hid hS.live
        go_wp2_with fail
        refine (live_calls hP.arena).mono ?_
        rintro e w3 ⟨v3, rfl, hr3, hv3, hb3⟩
        have hP3 := hP.stepB hb3
        go_wp2_with fail
        refine (rlive_calls hP3.ref).mono ?_
        rintro e w4 ⟨v4, rfl, hr4, hv4, hb4⟩
        have hP4 := hP3.stepB hb4
        go_wp2_with fail
        refine (ints_calls (hr3.below (by omega) hb4) hr4).mono ?_
        rw [decide_eq_true HLV.out.symm]
        rintro e w5 ⟨rfl, nq, rfl⟩
        go_wp2_with fail
        go_roundg (n - (k + 1))
        case measure => omega
        case rel => exact ⟨k + 1, A, fs, R, vs, G, by go_num, by omega, by omega, hP4.drewN nq, hS, by omega, hG4⟩
    · as_aux_lemma =>
      have hbel := hP.below
      have hbs := hbel.size
      clear hP hS hG4
      by_cases h1 : k < n
      all_goals
        go_wp2_with fail
        refine (awake6_calls wr).mono ?_
        rintro e w3 ⟨rfl, hb3⟩
        go_wp2
        go_ret
        exact ⟨rfl, hbel.trans (hb3.mono hbs)⟩
end Go.Proofs.Ytbmkioaomjnggaa
