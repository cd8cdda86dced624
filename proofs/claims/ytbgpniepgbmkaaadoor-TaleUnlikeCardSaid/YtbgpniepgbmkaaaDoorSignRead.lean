/- What sign.Read and sign.Name do, rune by rune. Condition: the text's length, at most 2^47 bytes. -/
import Derived.Test.YtbgpniepgbmkaaaDoorSign
import Derived.Deep.CutBlock
namespace Go.Proofs.YtbgpniepgbmkaaaDoor
open Go.RowKit

theorem next_rune (wr : World) (k : Nat) (s : ByteArray) (pos r wd : Nat) (hit : wr.heap[k]? = some (.stringIter s pos)) (hp : pos < s.size) (hd : Utf8.decode s pos = (r, wd)) :
    ∀ ty, (Instr.next (.pointer (some ⟨k, 0, none⟩)) true ty).run Tryd.prog wr = .ok (.tuple #[.bool true, .int .i64 pos, .int .i32 r]) (wr.iterAt k s (pos + wd)) := by
  intro ty
  rw [Lib.run_next_any_at wr k s pos ty hit hp, hd]

set_option maxHeartbeats 4000000 in
theorem signName_calls (s : ByteArray) (hs : s.size ≤ 140737488351232) (w : World) :
    Calls Tryd.prog 51 #[.string s] w fun e w' => e = .returned (.bool (nameB (bl s 0))) ∧ Below w.heap.size w w' := by
  go_enter Tryd.func51, Tryd.ntmps51
  go_wp2_with fail
  go_loopw [3] (fun v wr => ∃ pos k : Nat, v = .int .i64 k ∧ k ≤ pos ∧ pos ≤ s.size ∧ wr.heap[w.heap.size]? = some (.stringIter s pos) ∧ Below w.heap.size w wr ∧ nameLen (bl s 0) = (nameLen (bl s pos)).map (· + k)) (fun _ wr => s.size - wr.iterPos w.heap.size)
  case atStart => exact ⟨0, 0, rfl, Nat.le_refl _, Nat.zero_le _, World.iter_heap w s 0, (Below.refl _ _).alloc (Nat.le_refl _) _, by simp⟩
  case round =>
    obtain ⟨pos, k, rfl, hk, hps, hit, hbw, hnl⟩ := hrel
    have HN := Lib.hid hnl
    clear hnl
    by_cases hp : pos < s.size
    · obtain ⟨⟨r, wd⟩, hd⟩ : ∃ d, Utf8.decode s pos = d := ⟨_, rfl⟩
      have hnx := next_rune wr w.heap.size s pos r wd hit hp hd
      have hc := dec_cases s pos hp
      rw [hd] at hc
      have hr := decode_le s pos
      rw [hd] at hr
      have hit2 := Lib.iterAt_heap wr w.heap.size s pos (pos + wd) hit
      have hbw2 := Lib.below_iterAt hbw (k := w.heap.size) (Nat.le_refl _) s (pos + wd)
      have HB := Lib.hid (bl_cons s pos hp)
      have HB2 := Lib.hid (fun h => bl_cons s (pos + 1) h)
      have HB3 := Lib.hid (fun h => bl_nil s (pos + 1) h)
      clear hd
      simp only at hc hr
      have bad : ∀ b : Nat, bAt s pos = b → ¬ (97 ≤ b ∧ b ≤ 122) → (pos + 1 < s.size → ¬ (0 ≤ greek b (bAt s (pos + 1)) ∧ greek b (bAt s (pos + 1)) ≤ 24)) → nameB (bl s 0) = false := by
        intro b hb h1 h2
        have h3 : nameLen (bl s pos) = none := by
          rw [HB.out, hb]
          by_cases hp2 : pos + 1 < s.size
          · rw [HB2.out hp2]
            exact nameLen_bad b _ h1 _ (h2 hp2)
          · rw [HB3.out hp2]
            exact nameLen_stop b h1
        unfold nameB
        rw [HN.out, h3]
        rfl
      have good1 : 97 ≤ bAt s pos ∧ bAt s pos ≤ 122 → wd = 1 → nameLen (bl s 0) = (nameLen (bl s (pos + wd))).map (· + (k + 1)) := by
        intro h1 h2
        rw [HN.out, HB.out, nameLen_letter _ h1, h2, Option.map_map]
        congr 1
        funext x
        simp
        omega
      have good2 : 128 ≤ bAt s pos → pos + 1 < s.size → 0 ≤ greek (bAt s pos) (bAt s (pos + 1)) ∧ greek (bAt s pos) (bAt s (pos + 1)) ≤ 24 → wd = 2 → nameLen (bl s 0) = (nameLen (bl s (pos + wd))).map (· + (k + 1)) := by
        intro h0 hp2 h1 h2
        rw [HN.out, HB.out, HB2.out hp2, nameLen_sign _ _ (by omega) _ h1, h2, Option.map_map]
        congr 1
        funext x
        simp
        omega
      have G1 := Lib.hid good1
      have G2 := Lib.hid good2
      have G3 := Lib.hid bad
      have HC := Lib.hid hc
      clear good1 good2 bad hc
      obtain ⟨q, hq⟩ : ∃ q : Int, q = (r : Int) := ⟨_, rfl⟩
      rw [← hq] at hnx
      have hq0 : 0 ≤ q := by omega
      have hq1 : q ≤ 2147483647 := by omega
      have HQ := Lib.hid hq
      clear hq
      by_cases hok : 97 ≤ q ∧ q ≤ 122 ∨ 945 ≤ q ∧ q ≤ 969
      · have hnl : nameLen (bl s 0) = (nameLen (bl s (pos + wd))).map (· + (k + 1)) ∧ 1 ≤ wd ∧ pos + wd ≤ s.size := by
          have hq := HQ.out
          rcases HC.out with ⟨h1, h2⟩ | ⟨h1, h2, h3, h4, h5⟩ | ⟨h1, h2, h3, h4, h5⟩
          · injection h2 with h2 h2'
            exact ⟨G1.out (by omega) h2', by omega, by omega⟩
          · exact ⟨G2.out h1 h2 (by omega) h5, by omega, by omega⟩
          · omega
        have HL := Lib.hid hnl.1
        have hw1 := hnl.2.1
        have hw2 := hnl.2.2
        clear hnl
        have arm : True := trivial
        rcases hok with ⟨ha, hb⟩ | ⟨ha, hb⟩
        all_goals
          go_wp2_with fail
          go_roundw
          case rel => exact ⟨pos + wd, k + 1, by go_num, by omega, hw2, hit2, hbw2, HL.out⟩
          case measure =>
            simp only [World.iterPos, hit2, hit]
            omega
      · have hno : nameB (bl s 0) = false := by
          have hq := HQ.out
          rcases HC.out with ⟨h1, h2⟩ | ⟨h1, h2, h3, h4, h5⟩ | ⟨h1, h2, h3, h4, h5⟩
          · injection h2 with h2 h2'
            exact G3.out _ rfl (by omega) (fun _ => by unfold greek; rw [if_neg (by omega), if_neg (by omega)]; omega)
          · exact G3.out _ rfl (by omega) (fun _ => by omega)
          · exact G3.out _ rfl (by omega) (fun h => by rw [h2 h]; omega)
        have HO := Lib.hid hno
        clear hno
        have h3 : q < 97 ∨ (122 < q ∧ q < 945) ∨ 969 < q := by omega
        clear hok
        rcases h3 with ha | ⟨ha, hb⟩ | ha
        all_goals
          go_wp2_with fail
          go_ret
          exact ⟨by rw [HO.out]; rfl, hbw2⟩
    · have hnx : ∀ ty, (Instr.next (.pointer (some ⟨w.heap.size, 0, none⟩)) true ty).run Tryd.prog wr = _ := fun ty => Lib.run_next_end_at wr w.heap.size s pos ty hit hp
      have hN : nameB (bl s 0) = decide (1 ≤ k ∧ k ≤ 12) := by
        unfold nameB
        rw [HN.out, bl_nil s pos hp]
        simp [nameLen]
      have HO := Lib.hid hN
      clear hN
      by_cases h1 : (1 : Int) ≤ (k : Int)
      · by_cases h2 : (k : Int) ≤ 12
        · go_wp2_with fail
          go_ret
          exact ⟨by rw [HO.out, decide_eq_true (by omega)]; try rfl, hbw⟩
        · go_wp2_with fail
          go_ret
          exact ⟨by rw [HO.out, decide_eq_false (by omega)]; try rfl, hbw⟩
      · go_wp2_with fail
        go_ret
        exact ⟨by rw [HO.out, decide_eq_false (by omega)]; try rfl, hbw⟩
end Go.Proofs.YtbgpniepgbmkaaaDoor
