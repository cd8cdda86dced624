/- What the document's Print of labels does (parcloseref02.Print). Condition: the categories are an int64. -/
import Derived.Test.YtkjhgfjlknbdkaaDoorSignRef2
namespace Go.Proofs.YtkjhgfjlknbdkaaDoor
open Go.RowKit BigFrame

set_option maxHeartbeats 1000000 in
theorem rgk_calls (n : Nat) (h : n < 16) (w : World) :
    Calls Tryd.prog 63 #[.int .i64 n] w fun e w' => e = .returned (.slice (some ⟨w.heap.size, 0, none⟩) 2 2) ∧ w' = w.alloc (.cells (u8s (gk n)).toArray 5) := by
  have h0 : (0 : Int) ≤ (n : Int) := Int.natCast_nonneg _
  have h16 : (n : Int) < 16 := by omega
  go_enter Tryd.func63, Tryd.ntmps63
  by_cases a : (n : Int) < 15
  · have hg : u8s (gk n) = [.int .u8 206, .int .u8 (177 + (n : Int))] := by unfold gk u8s; rw [if_pos (by omega)]; simp
    have HG := Lib.hid hg
    clear hg
    go_wp2
    go_ret
    refine ⟨rfl, ?_⟩
    rw [HG.out]
  · have hg : u8s (gk n) = [.int .u8 207, .int .u8 (128 + (n : Int) - 15)] := by unfold gk u8s; rw [if_neg (by omega)]; simp; omega
    have HG := Lib.hid hg
    clear hg
    go_wp2
    go_ret
    refine ⟨rfl, ?_⟩
    rw [HG.out]

theorem owns_built {w : World} {B g : Nat} {e : TypeId} {xs : List Value} (hB : B ≤ g) (hg : w.heap[g]? = some (.cells xs.toArray e (0, 0))) (hm : xs.length ≤ maxLen) : w.ownsRowF B e 1 (.slice (some ⟨g, 0, none⟩) xs.length xs.length) xs.length xs := by
  refine ⟨by simp, .inr ⟨g, xs.length, xs.toArray, (0, 0), rfl, hB, hg, by simp, Nat.le_refl _, hm, by simp, by simp⟩⟩

theorem u8s_len (l : List Nat) : (u8s l).length = l.length := by simp [u8s]
theorem u8s_app (a b : List Nat) : u8s (a ++ b) = u8s a ++ u8s b := by simp [u8s]
theorem u8s_one (l : List Nat) : ∀ u ∈ u8s l, u.oneCell' = true := by
  intro u hu
  simp [u8s] at hu
  obtain ⟨a, _, rfl⟩ := hu
  rfl
theorem ownsF_read {w : World} {B : Nat} {e : TypeId} {v : Value} {l : List Nat} (h : w.ownsRowF B e 1 v l.length (u8s l)) (h0 : l ≠ []) (hs : ∀ x ∈ l, x < 256) :
    ∃ g cap, v = .slice (some ⟨g, 0, none⟩) (toB l).length cap ∧ ∀ j (hj : j < (toB l).length), w.cell? ((⟨g, 0, none⟩ : Addr).add j) = some (.int .u8 ((toB l)[j].toNat : Int)) := by
  rcases h.2 with ⟨_, hz⟩ | ⟨g, cap, cur, fz, rfl, hB, hg, hf, hn, hm, hc, ht⟩
  · exact absurd (List.length_eq_zero_iff.1 hz) h0
  · refine ⟨g, cap, by simp [toB], ?_⟩
    intro j hj
    have hc := h.cells (g := g) rfl j (.int .u8 ((toB l)[j].toNat : Int)) ?_
    · exact hc
    · have hj' : j < l.length := by simpa [toB] using hj
      have := hs l[j] (List.getElem_mem hj')
      simp [u8s, toB, hj']
      omega

set_option maxRecDepth 100000 in
set_option maxHeartbeats 4000000 in
theorem rPrint_calls (l c : Int) (x0 : -9223372036854775808 ≤ c) (x1 : c ≤ 9223372036854775807) (w : World) :
    Calls Tryd.prog 39 #[lab l c] w fun e w' => e = .returned (.tuple #[.string (printV l c).1, .int .i64 (printV l c).2]) ∧ Below w.heap.size w w' := by
  have hgood := fun u : World => rgood_calls l c x0 x1 u
  have HP := Lib.hid (show printV l c = if goodL l c then (textS l c, 0) else (⟨#[]⟩, 3) from rfl)
  obtain ⟨i8, hi, hz0, hz1, hz2⟩ := info_parts sb_byte
  have HI := Lib.hid hi
  clear hi
  by_cases hg : goodL l c = true
  · have hr : 0 ≤ l ∧ l ≤ 7 ∧ 0 ≤ c ∧ c < 65536 := by unfold goodL at hg; simpa using hg
    rw [hg] at hgood
    have HG := Lib.hid hg
    have HR := Lib.hid hr
    have hl0 := hr.1
    have hl7 := hr.2.1
    clear hr hg
    unfold lab at hgood ⊢
    go_enter Tryd.func39, Tryd.ntmps39
    go_wp2_with fail
    refine (hgood _).mono ?_
    rintro e w1 ⟨rfl, hb1⟩
    have hsz : w.heap.size < w1.heap.size := by have := hb1.size; simp at this; omega
    have hbx : w1.heap[w.heap.size]? = some (.cells #[.int .i64 l, .int .i64 c] 35 (0, 0)) := (hb1.block _ (by simp)).trans (heap_alloc_new w _)
    have hbel : Below w.heap.size w w1 := ((Below.refl _ _).alloc (Nat.le_refl _) _).trans (hb1.mono (by simp))
    clear hb1 hgood
    have c0 : w1.cell? ⟨w.heap.size, 0, none⟩ = some (.int .i64 l) := blk_cell hbx 0
    go_wp2_with fail
    have hown0 : (w1.alloc (.cells #[.int .u8 (48 + l), .int .u8 123] 5)).ownsRowF w1.heap.size 5 1 (.slice (some ⟨w1.heap.size, 0, none⟩) 2 2) 2 (u8s [(48 + l).toNat, 123]) := by
      have e : ((48 + l).toNat : Int) = 48 + l := by omega
      have h := owns_built (w := w1.alloc (.cells #[.int .u8 (48 + l), .int .u8 123] 5)) (B := w1.heap.size) (g := w1.heap.size) (e := 5) (xs := [.int .u8 (48 + l), .int .u8 123]) (Nat.le_refl _) (heap_alloc_new w1 _) (by simp [maxLen])
      simpa [u8s, e] using h
    have HO := Lib.hid hown0
    clear hown0
    go_loopw [4, 5] (fun v u wr => ∃ (n f : Nat) (acc : List Nat), u = .int .i64 n ∧ n + f = 16 ∧ wr.ownsRowF w1.heap.size 5 1 v acc.length (u8s acc) ∧ Below w1.heap.size w1 wr ∧ acc ++ (signsFrom c f n ++ [125]) = textL l c ∧ acc.length ≤ 2 + 2 * n ∧ ∀ x ∈ acc, x < 256) (fun _ u _ => 16 - (intOf u).toNat)
    case atStart => exact ⟨0, 16, [(48 + l).toNat, 123], rfl, rfl, HO.out, (Below.refl _ _).alloc (Nat.le_refl _) _, rfl, by simp, by intro x hx; simp at hx; omega⟩
    case round =>
      obtain ⟨n, f, acc, rfl, hnf, hown, hbw, hacc, hlen, hsm⟩ := hrel
      have HA := Lib.hid hacc
      have HS := Lib.hid hsm
      clear hacc hsm HO
      have hn0 : (0 : Int) ≤ (n : Int) := Int.natCast_nonneg _
      have hsz2 := hbw.size
      by_cases hn : n < 16
      · have hn1 : (n : Int) < 16 := by omega
        obtain ⟨f, rfl⟩ : ∃ f', f = f' + 1 := ⟨f - 1, by omega⟩
        have c1 : wr.cell? ⟨w.heap.size, 1, none⟩ = some (.int .i64 c) := blk_cell ((hbw.block _ hsz).trans hbx) 1
        have hdiv : 0 ≤ c / 2 ^ n := Int.ediv_nonneg HR.out.2.2.1 (by have := pow_pos' n; omega)
        by_cases ht : testB c n
        · have h1 : (c / 2 ^ n % 2 == 1) = true := by unfold testB at ht; rw [ht]; rfl
          have HT := Lib.hid ht
          clear ht
          go_wp2_with fail
          refine (rgk_calls n hn _).mono ?_
          rintro e w4 ⟨rfl, rfl⟩
          go_wp2_with (at_builtin; refine wpList_append_ownF _ rfl _ _ 72 rfl w1.heap.size 5 i8 (.int .u8 0) 1 1 Tryd.underlying72 HI.out hz0 hz1 hz2 rfl (by decide) _ _ _ rfl (hown.alloc _) ⟨wr.heap.size, 0, none⟩ 2 2 (u8s (gk n)) rfl (by rw [u8s_len, gk_len]) ?c1 ?c2 ?c3 ?c4 ?c5 ?_)
          case c1 => simpa using news_cells wr (u8s (gk n)).toArray 5 _ rfl
          case c2 => exact u8s_one _
          case c3 => unfold maxLen; omega
          case c4 => omega
          case c5 => simp; omega
          intro v' w2 hown' hgrow _
          go_wp2_with fail
          go_roundw
          case rel =>
            refine ⟨n + 1, f, acc ++ gk n, by go_num, by omega, ?_, (hbw.alloc hsz2 _).grown hgrow (by simp; omega) (fun k hk => (hown.lt k hk).1), ?_, ?_, ?_⟩
            · rw [u8s_app, List.length_append, gk_len]
              exact hown'
            · rw [← HA.out, signsFrom_succ, if_pos HT.out]
              simp
            · rw [List.length_append, gk_len]
              omega
            · intro x hx
              rcases List.mem_append.1 hx with h | h
              · exact HS.out x h
              · exact gk_small n hn x h
          case measure => simp [intOf]; omega
        · have h1 : (c / 2 ^ n % 2 == 1) = false := by unfold testB at ht; simpa using ht
          have HT := Lib.hid ht
          clear ht
          go_wp2_with fail
          go_roundw
          case rel =>
            refine ⟨n + 1, f, acc, by go_num, by omega, hown, hbw, ?_, by omega, HS.out⟩
            rw [← HA.out, signsFrom_succ, if_neg HT.out]
            rfl
          case measure => simp [intOf]; omega
      · obtain rfl : n = 16 := by omega
        obtain rfl : f = 0 := by omega
        go_wp2_with (at_builtin; refine wpList_append_ownF _ rfl _ _ 72 rfl w1.heap.size 5 i8 (.int .u8 0) 1 1 Tryd.underlying72 HI.out hz0 hz1 hz2 rfl (by decide) _ _ _ rfl (hown.alloc _) ⟨wr.heap.size, 0, none⟩ 1 1 (u8s [125]) rfl (by rfl) ?c1 ?c2 ?c3 ?c4 ?c5 ?_)
        case c1 => intro j u hj; simpa [u8s] using hj
        case c2 => exact u8s_one _
        case c3 => unfold maxLen; omega
        case c4 => omega
        case c5 => first | omega | (simp; omega)
        intro v' w2 hown' hgrow _
        have hT : acc ++ [125] = textL l c := HA.out
        have hall : ∀ x ∈ textL l c, x < 256 := by
          rw [← hT]
          intro x hx
          rcases List.mem_append.1 hx with h | h
          · exact HS.out x h
          · simp at h; omega
        have hown2 : w2.ownsRowF w1.heap.size 5 1 v' (textL l c).length (u8s (textL l c)) := by
          rw [← hT, u8s_app, List.length_append]
          exact hown'
        obtain ⟨g, cap, rfl, hcells⟩ := ownsF_read hown2 (by rw [← hT]; simp) hall
        have hb2 : Below w1.heap.size w1 w2 := (hbw.alloc hsz2 _).grown hgrow (by simp; omega) (fun k hk => (hown.lt k hk).1)
        have HCV := Lib.hid (run_convert_bytes_back (P := Tryd.prog) w2 72 9 5 ⟨g, 0, none⟩ cap (toB (textL l c)) Tryd.underlying72 Tryd.underlying5 Tryd.underlying9 hcells)
        clear hT hall hown2 hown' hown hcells
        go_wp2_with fail
        rw [HCV.out]
        simp only [Result.andThen]
        rw [Oper.upon_value]
        go_wp2_with fail
        go_ret2
        refine ⟨by rw [HP.out, HG.out]; rfl, hbel.trans (hb2.mono (by omega))⟩
  · have hg' : goodL l c = false := by simpa using hg
    rw [hg'] at hgood
    have HG := Lib.hid hg'
    clear hg hg'
    unfold lab at hgood ⊢
    go_enter Tryd.func39, Tryd.ntmps39
    go_wp2_with fail
    refine (hgood _).mono ?_
    rintro e w1 ⟨rfl, hb1⟩
    go_wp2_with fail
    go_ret2
    refine ⟨by rw [HP.out, HG.out]; rfl, ?_⟩
    exact ((Below.refl _ _).alloc (Nat.le_refl _) _).trans (hb1.mono (by simp))
end Go.Proofs.YtkjhgfjlknbdkaaDoor
