/- What lex.Words does. Condition: the text is at most 2^47 bytes. -/
import Derived.Test.YtbgpniepgbmkaaaDoorLex2
import Derived.Test.YtbgpniepgbmkaaaDoorSignRead2
namespace Go.Proofs.YtbgpniepgbmkaaaDoor
open Go.RowKit BigFrame

theorem results_tmp4 {fn : Func} {t u v x : Tmp} (h : fn.results = #[.tmp t, .tmp u, .tmp v, .tmp x]) (tmps : Array Value) (P : Program) (w : World) :
    (results fn tmps).run P w = .ok (.tuple #[tmps.getD t undef, tmps.getD u undef, tmps.getD v undef, tmps.getD x undef]) w := by
  simp [results, h]
theorem iterPos_of {w : World} {k p : Nat} {s : ByteArray} (h : w.heap[k]? = some (.stringIter s p)) : w.iterPos k = p := by simp only [World.iterPos, h]
theorem owns_type1 {w : World} {base : Nat} {e : TypeId} {size : Nat} {v : Value} {n : Nat} {xs : List Value} (h : w.ownsRow base e size v n xs) {k : Nat} (hk : v.ownBlock = some k) : ∃ cs fr, w.heap[k]? = some (.cells cs e fr) := by
  rcases h.2 with ⟨rfl, _⟩ | ⟨g, cap, cur, rfl, _, hg, _⟩
  · cases hk
  · simp only [Value.ownBlock, Option.some.injEq] at hk
    subst hk
    exact ⟨_, _, hg⟩
structure LS where
  L : List Wd
  ln : Int
  co : Int
  fr : Int
  ca : Int
  re : Bool
/-- The reader, rune by rune: the words; or the error's number, its line and column. -/
def lexRun (s : ByteArray) : Nat → Nat → LS → List Wd × Int × Int × Int
  | 0, _, st => (endL st.L s st.ln st.fr st.ca s.size, 0, 0, 0)
  | f + 1, pos, st => if pos < s.size then
      (if ((Utf8.decode s pos).1 : Int) = 10 then lexRun s f (pos + (Utf8.decode s pos).2) ⟨endL st.L s st.ln st.fr st.ca pos, st.ln + 1, 0, -1, st.ca, false⟩
      else if badR (Utf8.decode s pos).1 (s.extract pos s.size) = true then ([], 2, st.ln, st.co + 1)
      else lexRun s f (pos + (Utf8.decode s pos).2) ⟨nxL st.L s st.ln st.fr st.ca pos st.re (Utf8.decode s pos).1, st.ln, st.co + 1, nxF st.fr pos st.re (Utf8.decode s pos).1, nxC st.fr (st.co + 1) st.ca st.re (Utf8.decode s pos).1, st.re || ((Utf8.decode s pos).1 : Int) == 35⟩)
    else (endL st.L s st.ln st.fr st.ca s.size, 0, 0, 0)
def lexM (s : ByteArray) : List Wd × Int × Int × Int := if 4096 < s.size then ([], 13, 0, 0) else lexRun s s.size 0 ⟨[], 1, 0, -1, 0, false⟩
theorem lexRun_end {s : ByteArray} {f pos : Nat} {st : LS} (h : ¬ pos < s.size) : lexRun s f pos st = (endL st.L s st.ln st.fr st.ca s.size, 0, 0, 0) := by
  cases f with
  | zero => rfl
  | succ f => rw [lexRun, if_neg h]
/-- How far a state can have come. -/
structure LB (s : ByteArray) (pos : Nat) (st : LS) : Prop where
  n1 : st.L.length + (if 0 ≤ st.fr then 1 else 0) ≤ pos
  n2 : st.L.length + (if 0 ≤ st.fr then 1 else 0) ≤ s.size
  f1 : st.fr ≤ pos
  f2 : st.fr ≤ s.size
  c0 : 0 ≤ st.co
  c1 : st.co ≤ pos
  l0 : 1 ≤ st.ln
  l1 : st.ln ≤ pos + 1
theorem endL_mem {P : Wd → Prop} {L : List Wd} {s : ByteArray} {ln fr ca : Int} {i : Nat} (h : ∀ d ∈ L, P d) (hn : ∀ f : Nat, P ⟨s.extract f i, ln, ca⟩) : ∀ d ∈ endL L s ln fr ca i, P d := by
  unfold endL
  split
  · intro d hd
    rcases List.mem_append.1 hd with hd | hd
    · exact h d hd
    · rw [List.mem_singleton] at hd
      rw [hd]
      exact hn _
  · exact h
theorem endL_len {L : List Wd} {s : ByteArray} {ln fr ca : Int} {i : Nat} : (endL L s ln fr ca i).length = L.length + (if 0 ≤ fr then 1 else 0) := by
  unfold endL
  split <;> simp
theorem LB.start (s : ByteArray) : LB s 0 ⟨[], 1, 0, -1, 0, false⟩ := ⟨by simp, by simp, by simp, by simp <;> omega, by simp, by simp, by simp, by simp⟩
theorem LB.line {s : ByteArray} {pos wd : Nat} {st : LS} (h : LB s pos st) (hp : pos < s.size) (hw : 1 ≤ wd) : LB s (pos + wd) ⟨endL st.L s st.ln st.fr st.ca pos, st.ln + 1, 0, -1, st.ca, false⟩ := by
  obtain ⟨h1, h2, h3, h4, h5, h6, h7, h8⟩ := h
  have e := @endL_len st.L s st.ln st.fr st.ca pos
  refine ⟨?_, ?_, by simp only; omega, by simp only; omega, by simp, by simp only; omega, by simp only; omega, by simp only; omega⟩
  · simp only; rw [e]; simp; omega
  · simp only; rw [e]; simp; omega
theorem LB.rune {s : ByteArray} {pos wd : Nat} {st : LS} {c : Int} (h : LB s pos st) (hp : pos < s.size) (hw : 1 ≤ wd) : LB s (pos + wd) ⟨nxL st.L s st.ln st.fr st.ca pos st.re c, st.ln, st.co + 1, nxF st.fr pos st.re c, nxC st.fr (st.co + 1) st.ca st.re c, st.re || c == 35⟩ := by
  obtain ⟨h1, h2, h3, h4, h5, h6, h7, h8⟩ := h
  have e := @endL_len st.L s st.ln st.fr st.ca pos
  unfold nxL nxF nxC
  by_cases hc : cutB st.re c = true
  · simp only [hc, if_true]
    refine ⟨?_, ?_, by simp only; omega, by simp only; omega, by simp only; omega, by simp only; omega, h7, by simp only; omega⟩
    · simp only; rw [e]; simp; omega
    · simp only; rw [e]; simp; omega
  · simp only [hc]
    by_cases hf : st.fr < 0
    · simp only [hf, if_true, if_false]
      have h0 : ¬ 0 ≤ st.fr := by omega
      rw [if_neg h0] at h1 h2
      refine ⟨?_, ?_, ?_, ?_, by simp only; omega, by simp only; omega, h7, by simp only; omega⟩
      · first | omega | (simp; omega)
      · first | omega | (simp; omega)
      · first | omega | (simp; omega)
      · first | omega | (simp; omega)
    · simp only [hf, if_false]
      refine ⟨?_, ?_, ?_, ?_, by simp only; omega, by simp only; omega, h7, by simp only; omega⟩
      · exact Nat.le_trans h1 (Nat.le_add_right _ _)
      · exact h2
      · first | omega | (simp; omega)
      · first | omega | (simp; omega)
section
variable {w0 w : World} {rb ib : Nat} {L : List Wd} {ln co fr ca : Int} {re : Bool} {s : ByteArray} {pos : Nat}
theorem RD.iter (h : RD w0 w rb ib (.stringIter s pos) L ln co fr ca re) (hib : w0.heap.size ≤ ib) (p : Nat) : RD w0 (w.iterAt ib s p) rb ib (.stringIter s p) L ln co fr ca re := by
  obtain ⟨v, h1, h2, h3, h4⟩ := h.ex
  exact ⟨⟨v, (Lib.iterAt_other _ _ _ _ _ (fun e => h.ne e.symm)).trans h1, owns_same h2 (fun k hk => Lib.iterAt_other _ _ _ _ _ (fun e => h4 (by rw [hk, e]))), h3, h4⟩, Lib.iterAt_heap _ _ _ _ _ h.it, h.ne, Lib.below_iterAt h.b hib _ _, h.ge⟩
theorem clipW_calls {a : Option Addr} {n cap : Nat} (h : n ≤ cap) (_hm : cap ≤ maxLen) (w : World) :
    Calls Tryd.prog 43 #[.slice a n cap] w fun e w' => e = .returned (.slice a n n) ∧ w = w' := by
  unfold maxLen at _hm
  cases a
  all_goals
    go_enter Tryd.func43, Tryd.ntmps43
    go_wp2
    go_ret
    exact ⟨rfl, rfl⟩
theorem lex_len (s : ByteArray) : ∀ (f pos : Nat) (st : LS), (lexRun s f pos st).1.length ≤ st.L.length + f + 1
  | 0, pos, st => by
    rw [lexRun]
    simp only
    rw [endL_len]
    split <;> omega
  | f + 1, pos, st => by
    rw [lexRun]
    split
    · split
      · have := lex_len s f (pos + (Utf8.decode s pos).2) ⟨endL st.L s st.ln st.fr st.ca pos, st.ln + 1, 0, -1, st.ca, false⟩
        have h2 := @endL_len st.L s st.ln st.fr st.ca pos
        simp only at this
        split at h2 <;> omega
      · split
        · simp
        · refine Nat.le_trans (lex_len s f _ _) ?_
          simp only [nxL]
          split
          · have h2 := @endL_len st.L s st.ln st.fr st.ca pos
            split at h2 <;> omega
          · omega
    · simp only
      rw [endL_len]
      split <;> omega
theorem extract_size (s : ByteArray) (a b : Nat) : (s.extract a b).size ≤ s.size := by
  rw [ByteArray.size_extract]
  omega
theorem lex_sz (s : ByteArray) : ∀ (f pos : Nat) (st : LS), (∀ d ∈ st.L, d.tx.size ≤ s.size) → ∀ d ∈ (lexRun s f pos st).1, d.tx.size ≤ s.size
  | 0, pos, st, h => by
    rw [lexRun]
    exact endL_mem h (fun f => extract_size _ _ _)
  | f + 1, pos, st, h => by
    rw [lexRun]
    split
    · split
      · exact lex_sz s f _ _ (endL_mem h (fun f => extract_size _ _ _))
      · split
        · intro d hd
          cases hd
        · refine lex_sz s f _ _ ?_
          simp only [nxL]
          split
          · exact endL_mem h (fun f => extract_size _ _ _)
          · exact h
    · exact endL_mem h (fun f => extract_size _ _ _)
theorem lexM_len (s : ByteArray) : (lexM s).1.length ≤ 4097 := by
  unfold lexM
  split
  · simp
  · have := lex_len s s.size 0 ⟨[], 1, 0, -1, 0, false⟩
    simp only [List.length_nil] at this
    omega
theorem lexM_sz (s : ByteArray) : ∀ d ∈ (lexM s).1, d.tx.size ≤ 4096 := by
  unfold lexM
  split
  · intro d hd
    cases hd
  · intro d hd
    have := lex_sz s s.size 0 ⟨[], 1, 0, -1, 0, false⟩ (fun d hd => by cases hd) d hd
    omega
set_option maxRecDepth 100000 in
set_option maxHeartbeats 16000000 in
theorem words_calls (s : ByteArray) (hs : s.size ≤ 140737488351232) (w : World) :
    Calls Tryd.prog 20 #[.string s] w fun e w' => ∃ v, e = .returned (.tuple #[v, .int .i64 (lexM s).2.1, .int .i64 (lexM s).2.2.1, .int .i64 (lexM s).2.2.2]) ∧ Reads w' 3 v (lexM s).1.length ((lexM s).1.flatMap wdCells) ∧ (∀ k, v.ownBlock = some k → w.heap.size ≤ k ∧ ∃ cs fr, w'.heap[k]? = some (.cells cs 63 fr)) ∧ Below w.heap.size w w' := by
  by_cases h4 : 4096 < s.size
  · have HM := Lib.hid (show lexM s = ([], 13, 0, 0) by unfold lexM; rw [if_pos h4])
    have h4' : (4096 : Int) < (s.size : Int) := by omega
    go_enter Tryd.func20, Tryd.ntmps20
    go_wp2_with fail
    (try simp only [Exit.inBlock, Exit.then])
    refine bodyPost_ret (results_tmp4 rfl _ _ _) rfl ?_
    rw [HM.out]
    exact ⟨_, rfl, Reads.nil _ _, (fun k hk => by cases hk), Below.refl _ _⟩
  · have HM := Lib.hid (show lexM s = lexRun s s.size 0 ⟨[], 1, 0, -1, 0, false⟩ by unfold lexM; rw [if_neg h4])
    have h4' : (s.size : Int) ≤ 4096 := by omega
    have h4n : s.size ≤ 4096 := by omega
    clear h4
    go_enter Tryd.func20, Tryd.ntmps20
    go_wp2_with fail
    go_loopw [7] (fun _ wr => ∃ (pos fuel : Nat) (st : LS), RD w wr w.heap.size (w.heap.size + 1) (.stringIter s pos) st.L st.ln st.co st.fr st.ca st.re ∧ lexM s = lexRun s fuel pos st ∧ s.size ≤ pos + fuel ∧ LB s pos st) (fun _ wr => s.size - wr.iterPos (w.heap.size + 1))
    case atStart =>
      refine ⟨0, s.size, ⟨[], 1, 0, -1, 0, false⟩, ⟨⟨.slice none 0 0, ?_, World.ownsRow_nil _ _ _ _, by simp [Value.ownBlock], by simp [Value.ownBlock]⟩, ?_, by omega, ?_, Nat.le_refl _⟩, HM.out, by omega, LB.start s⟩
      · exact (Below.heap_alloc _ _ _ (by simp)).trans (heap_alloc_new w _)
      · have h := World.iter_heap (w.alloc (.cells #[.slice none 0 0, .int .i64 1, .int .i64 0, .int .i64 (-1), .int .i64 0, .bool false] 93)) s 0
        rw [show w.heap.size + 1 = (w.alloc (.cells #[.slice none 0 0, .int .i64 1, .int .i64 0, .int .i64 (-1), .int .i64 0, .bool false] 93)).heap.size by simp]
        exact h
      · exact ((Below.refl _ _).alloc (Nat.le_refl _) _).alloc (by simp) _
    case round =>
      obtain ⟨pos, fuel, st, hR, hM, hfu, hLB⟩ := hrel
      clear HM
      obtain ⟨rb, hrb⟩ : ∃ rb, rb = w.heap.size := ⟨_, rfl⟩
      obtain ⟨ib, hib⟩ : ∃ ib, ib = w.heap.size + 1 := ⟨_, rfl⟩
      rw [← hib, ← hrb] at hR
      rw [← hib, ← hrb]
      have hibw : w.heap.size ≤ ib := by omega
      have HIB := Lib.hid (And.intro hrb hib)
      clear hrb hib
      have hit := hR.it
      have HLB := Lib.hid hLB
      by_cases hp : pos < s.size
      · obtain ⟨⟨r, wd⟩, hd⟩ : ∃ d, Utf8.decode s pos = d := ⟨_, rfl⟩
        have hnx := next_rune wr ib s pos r wd hit hp hd
        have hr := decode_le s pos
        rw [hd] at hr
        simp only at hr
        have hwd := rst_wd hp hd
        obtain ⟨f, rfl⟩ : ∃ f, fuel = f + 1 := ⟨fuel - 1, by omega⟩
        rw [lexRun, if_pos hp, hd] at hM
        simp only at hM
        have hI2 := hR.iter hibw (pos + wd)
        have HPOS := Lib.hid (show wr.iterPos ib = pos by simp only [World.iterPos, hit])
        obtain ⟨L, ln, co, fr, ca, re⟩ := st
        simp only at hI2 hM
        obtain ⟨b1, b2, b3, b4, b5, b6, b7, b8⟩ := hLB
        simp only at b1 b2 b3 b4 b5 b6 b7 b8
        have hLl : L.length ≤ 4096 := by omega
        have hco : co + 1 ≤ 4097 := by omega
        have hco0 : 0 ≤ co := b5
        have hln0 : 1 ≤ ln := b7
        have hln : ln + 1 ≤ 4099 := by omega
        have hpz : (0 : Int) ≤ (pos : Int) := Int.natCast_nonneg _
        have hps : (pos : Int) ≤ (s.size : Int) := by omega
        obtain ⟨q, hq⟩ : ∃ q : Int, q = (r : Int) := ⟨_, rfl⟩
        rw [← hq] at hnx hM
        have hq0 : 0 ≤ q := by omega
        have hq1 : q ≤ 2147483647 := by omega
        generalize wr.iterAt ib s (pos + wd) = W at hnx hI2
        have H2 := Lib.hid hI2
        have H3 := Lib.hid (hI2.setC (co + 1))
        have HMM := Lib.hid hM
        obtain ⟨k1, k2, k3, k4, k5⟩ := hI2.cells
        have z2 := hI2.free 2
        have HB4 := Lib.hid b4
        have HFP := Lib.hid (show fr ≤ (pos : Int) by omega)
        have HMEA := Lib.hid (show s.size - (pos + wd) < s.size - pos by omega)
        have HFU := Lib.hid (show s.size ≤ pos + wd + f by omega)
        have HP := Lib.hid (And.intro hp hwd)
        clear hR hM hit hI2 hq hr hd hfu b1 b2 b3 b4 b5 b6 b7 b8 hp hwd
        by_cases h10 : q = 10
        · subst h10
          have HM2 := Lib.hid (show lexM s = lexRun s f (pos + wd) ⟨endL L s ln fr ca pos, ln + 1, 0, -1, ca, false⟩ from HMM.out)
          have HEN := Lib.hid (end_calls H3.out s pos (by have := HP.out.1; omega) h4n HFP.out hLl)
          have HL2 := Lib.hid (HLB.out.line HP.out.1 HP.out.2)
          clear HMM
          go_wp2_with fail
          refine HEN.out.mono ?_
          rintro e w4 ⟨rfl, h4x⟩
          have H4 := Lib.hid h4x
          obtain ⟨m1, m2, m3, m4, m5⟩ := h4x.cells
          have y1 := h4x.free 1
          have y2 := (h4x.setL (ln + 1)).free 2
          have y5 := ((h4x.setL (ln + 1)).setC 0).free 5
          have m2' : (w4.setCell ⟨rb, 1, none⟩ (.int .i64 (ln + 1))).cell? ⟨rb, 2, none⟩ = some (.int .i64 (co + 1)) := (h4x.setL (ln + 1)).cells.2.1
          have m5' : ((w4.setCell ⟨rb, 1, none⟩ (.int .i64 (ln + 1))).setCell ⟨rb, 2, none⟩ (.int .i64 0)).cell? ⟨rb, 5, none⟩ = some (.bool re) := ((h4x.setL (ln + 1)).setC 0).cells.2.2.2.2
          have H5 := Lib.hid (((h4x.setL (ln + 1)).setC 0).setB false)
          clear h4x
          go_wp2_with fail
          go_roundw
          case rel => exact ⟨pos + wd, f, _, H5.out, HM2.out, HFU.out, HL2.out⟩
          case measure => rw [iterPos_of H5.out.it, HPOS.out]; exact HMEA.out
        · have t10 : (q == 10) = false := by simpa using h10
          have HBA := Lib.hid (fun u : World => bad_calls q hq0 hq1 (s.extract pos s.size) u)
          have HM2 := Lib.hid (show lexM s = if badR q (s.extract pos s.size) = true then ([], 2, ln, co + 1) else lexRun s f (pos + wd) ⟨nxL L s ln fr ca pos re q, ln, co + 1, nxF fr pos re q, nxC fr (co + 1) ca re q, re || q == 35⟩ by rw [HMM.out, if_neg h10])
          generalize badR q (s.extract pos s.size) = bd at HBA HM2
          clear HMM h10
          cases bd with
          | true =>
            have HM3 := Lib.hid (show lexM s = ([], 2, ln, co + 1) from HM2.out)
            obtain ⟨m1, m2, m3, m4, m5⟩ := H3.out.cells
            clear HM2
            go_wp2_with fail
            refine (HBA.out _).mono ?_
            rintro e w5 ⟨rfl, rfl⟩
            go_wp2_with fail
            go_big_quiet (fail)
            go_wp2_with fail
            (try simp only [Exit.inBlock, Exit.then])
            refine bodyPost_ret (results_tmp4 rfl _ _ _) rfl ?_
            rw [HM3.out]
            exact ⟨_, rfl, Reads.nil _ _, (fun k hk => by cases hk), H3.out.b.trans ⟨rfl, rfl, rfl, Nat.le_refl _, fun _ _ => rfl⟩⟩
          | false =>
            have HM3 := Lib.hid (show lexM s = lexRun s f (pos + wd) ⟨nxL L s ln fr ca pos re q, ln, co + 1, nxF fr pos re q, nxC fr (co + 1) ca re q, re || q == 35⟩ from HM2.out)
            have HNE := Lib.hid (next_calls H3.out s pos q (by have := HP.out.1; omega) h4n HFP.out hLl hq0 hq1)
            have HL2 := Lib.hid (HLB.out.rune (c := q) HP.out.1 HP.out.2)
            clear HM2
            go_wp2_with fail
            refine (HBA.out _).mono ?_
            rintro e w5 ⟨rfl, rfl⟩
            go_wp2_with fail
            refine HNE.out.mono ?_
            rintro e w4 ⟨rfl, h4x⟩
            have H4 := Lib.hid h4x
            clear h4x
            go_wp2_with fail
            go_roundw
            case rel => exact ⟨pos + wd, f, _, H4.out, HM3.out, HFU.out, HL2.out⟩
            case measure => rw [iterPos_of H4.out.it, HPOS.out]; exact HMEA.out
      · have hnx : ∀ ty, (Instr.next (.pointer (some ⟨ib, 0, none⟩)) true ty).run Tryd.prog wr = _ := fun ty => Lib.run_next_end_at wr ib s pos ty hit hp
        rw [lexRun_end hp] at hM
        obtain ⟨b1, b2, b3, b4, b5, b6, b7, b8⟩ := HLB.out
        have HM2 := Lib.hid hM
        have HEN := Lib.hid (end_calls hR s s.size (Nat.le_refl _) h4n b4 (by omega))
        clear hM b1 b2 b3 b4 b5 b6 b7 b8 hit hR HLB
        go_wp2_with fail
        refine HEN.out.mono ?_
        rintro e w4 ⟨rfl, h4x⟩
        obtain ⟨v, g1, g2, g3, g4⟩ := h4x.ex
        obtain ⟨av, cv, rfl, v1, v2, _⟩ := owns_shape g2
        have HO := Lib.hid g2
        have HB := Lib.hid h4x.b
        have k0 : w4.cell? ⟨rb, 0, none⟩ = some (.slice av (endL st.L s st.ln st.fr st.ca s.size).length cv) := blk_cell g1 0
        generalize endL st.L s st.ln st.fr st.ca s.size = E at k0 v1 HO HM2
        obtain ⟨ne, hne⟩ : ∃ ne, ne = E.length := ⟨_, rfl⟩
        rw [← hne] at k0 v1 HO
        have HNE := Lib.hid hne
        clear g1 g2 g3 g4 h4x hne
        go_wp2_with fail
        refine (clipW_calls v1 v2 _).mono ?_
        rintro e w5 ⟨rfl, rfl⟩
        go_wp2_with fail
        (try simp only [Exit.inBlock, Exit.then])
        refine bodyPost_ret (results_tmp4 rfl _ _ _) rfl ?_
        rw [HM2.out, ← HNE.out]
        obtain ⟨q1, a9, c9, e9, q2, q3, q4⟩ := Reads.of_owns HO.out
        injection e9 with e9 _ e9'
        subst e9 e9'
        exact ⟨_, rfl, ⟨q1, _, _, rfl, Nat.le_refl _, Nat.le_trans v1 v2, q4⟩, (fun k hk => ⟨(HO.out.lt k (by cases av <;> exact hk)).1, owns_type1 HO.out (by cases av <;> exact hk)⟩), HB.out⟩
end
end Go.Proofs.YtbgpniepgbmkaaaDoor
