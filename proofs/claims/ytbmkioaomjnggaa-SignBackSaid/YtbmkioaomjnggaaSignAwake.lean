/- The fixed facts that each statement on labels ends with (parcloselaw02.awake). No condition. -/
import Derived.Test.YtbmkioaomjnggaaSignRef3
namespace Go.Proofs.Ytbmkioaomjnggaa
open Go.RowKit BigFrame

def aw1 : ByteArray := ⟨#[51, 123, 206, 177, 206, 179, 125]⟩
def aw2 : ByteArray := ⟨#[51, 123, 206, 179, 206, 177, 125]⟩
theorem aw_print : printV 3 5 = (aw1, 0) := by decide
theorem aw_read1 : readOut aw1 = .tuple #[lab 3 5, .int .i64 0] := by
  unfold readOut
  rw [show readV aw1 = (3, 5, 0) by decide]
theorem aw_read2 : readOut aw2 = .tuple #[lab 0 0, .int .i64 3] := by
  unfold readOut
  rw [show readV aw2 = (0, 0, 3) by decide]
theorem aw_name1 : nameB (bl ⟨#[97, 98]⟩ 0) = true := by decide
theorem aw_name2 : nameB (bl ⟨#[]⟩ 0) = false := by decide

theorem conv_aw1 (w : World) (b : Nat) (hb : b = w.heap.size) : (convert 69 9 (.slice (some ⟨b, 0, none⟩) 7 7)).run Try.prog (w.alloc (.cells #[.int .u8 51, .int .u8 123, .int .u8 206, .int .u8 177, .int .u8 206, .int .u8 179, .int .u8 125] 5)) = .ok (.string aw1) (w.alloc (.cells #[.int .u8 51, .int .u8 123, .int .u8 206, .int .u8 177, .int .u8 206, .int .u8 179, .int .u8 125] 5)) := by
  subst hb
  refine run_convert_bytes_back (P := Try.prog) _ 69 9 5 ⟨w.heap.size, 0, none⟩ 7 [51, 123, 206, 177, 206, 179, 125] Try.underlying69 Try.underlying5 Try.underlying9 ?_
  intro j hj
  have h := news_cells w #[.int .u8 51, .int .u8 123, .int .u8 206, .int .u8 177, .int .u8 206, .int .u8 179, .int .u8 125] 5 _ rfl j (.int .u8 (([51, 123, 206, 177, 206, 179, 125] : List UInt8)[j].toNat : Int))
  apply h
  match j, hj with
  | 0, _ => rfl
  | 1, _ => rfl
  | 2, _ => rfl
  | 3, _ => rfl
  | 4, _ => rfl
  | 5, _ => rfl
  | 6, _ => rfl
theorem conv_aw2 (w : World) (b : Nat) (hb : b = w.heap.size) : (convert 69 9 (.slice (some ⟨b, 0, none⟩) 7 7)).run Try.prog (w.alloc (.cells #[.int .u8 51, .int .u8 123, .int .u8 206, .int .u8 179, .int .u8 206, .int .u8 177, .int .u8 125] 5)) = .ok (.string aw2) (w.alloc (.cells #[.int .u8 51, .int .u8 123, .int .u8 206, .int .u8 179, .int .u8 206, .int .u8 177, .int .u8 125] 5)) := by
  subst hb
  refine run_convert_bytes_back (P := Try.prog) _ 69 9 5 ⟨w.heap.size, 0, none⟩ 7 [51, 123, 206, 179, 206, 177, 125] Try.underlying69 Try.underlying5 Try.underlying9 ?_
  intro j hj
  have h := news_cells w #[.int .u8 51, .int .u8 123, .int .u8 206, .int .u8 179, .int .u8 206, .int .u8 177, .int .u8 125] 5 _ rfl j (.int .u8 (([51, 123, 206, 179, 206, 177, 125] : List UInt8)[j].toNat : Int))
  apply h
  match j, hj with
  | 0, _ => rfl
  | 1, _ => rfl
  | 2, _ => rfl
  | 3, _ => rfl
  | 4, _ => rfl
  | 5, _ => rfl
  | 6, _ => rfl

set_option maxRecDepth 100000 in
set_option maxHeartbeats 4000000 in
theorem awake2_calls (w : World) :
    Calls Try.prog 28 #[] w fun e w' => e = .returned (.bool true) ∧ Below w.heap.size w w' := by
  have hp := fun u : World => signPrint_calls 3 5 u
  rw [aw_print] at hp
  have hr1 := fun u : World => signRead_calls aw1 (by decide) u
  rw [aw_read1] at hr1
  have hr2 := fun u : World => signRead_calls aw2 (by decide) u
  rw [aw_read2] at hr2
  have hn1 := fun u : World => signName_calls ⟨#[97, 98]⟩ (by decide) u
  rw [aw_name1] at hn1
  have hn2 := fun u : World => signName_calls ⟨#[]⟩ (by decide) u
  rw [aw_name2] at hn2
  unfold lab at hp hr1 hr2
  go_enter Try.func28, Try.ntmps28
  go_wp2_with fail
  refine (hp _).mono ?_
  rintro e w1 ⟨rfl, hb1⟩
  go_wp2_with fail
  rw [conv_aw1 w1 _ rfl]
  simp only [Result.andThen]
  rw [Oper.upon_value]
  go_wp2_with fail
  refine (hr1 _).mono ?_
  rintro e w2 ⟨rfl, hb2⟩
  go_wp2_with fail
  rw [conv_aw2 (w2.alloc _) (w2.heap.size + 1) (by simp)]
  simp only [Result.andThen]
  rw [Oper.upon_value]
  go_wp2_with fail
  refine (hr2 _).mono ?_
  rintro e w3 ⟨rfl, hb3⟩
  go_wp2_with fail
  have hW2 : w3.heap[w2.heap.size]? = some (.cells #[.int .i64 3, .int .i64 5] 43 (0, 0)) := (hb3.block _ (by simp; omega)).trans ((Below.heap_alloc _ _ _ (by simp)).trans (heap_alloc_new w2 _))
  have s3 := hb3.size
  simp only [World.size_alloc] at s3
  obtain ⟨W, hW⟩ : ∃ W, W = (w3.alloc (.cells #[.int .i64 0, .int .i64 0] 43)).alloc (.cells #[.int .u8 51, .int .u8 123, .int .u8 206, .int .u8 177, .int .u8 206, .int .u8 179, .int .u8 125] 5) := ⟨_, rfl⟩
  have hWb : W.heap[w2.heap.size]? = some (.cells #[.int .i64 3, .int .i64 5] 43 (0, 0)) := by
    rw [hW]
    exact (Below.heap_alloc _ _ _ (by simp; omega)).trans ((Below.heap_alloc _ _ _ (by omega)).trans hW2)
  have hbW : Below w3.heap.size w3 W := by
    rw [hW]
    exact ((Below.refl _ _).alloc (Nat.le_refl _) _).alloc (by simp) _
  rw [conv_aw1 (w3.alloc _) (w3.heap.size + 1) (by simp), ← hW]
  clear hW hW2
  have d0 : W.cell? ⟨w2.heap.size, 0, none⟩ = some (.int .i64 3) := blk_cell hWb 0
  have d1 : W.cell? ⟨w2.heap.size, 1, none⟩ = some (.int .i64 5) := blk_cell hWb 1
  simp only [Result.andThen]
  rw [Oper.upon_value]
  go_wp2_with fail
  refine (hn1 _).mono ?_
  rintro e w4 ⟨rfl, hb4⟩
  go_wp2_with fail
  refine (hn2 _).mono ?_
  rintro e w5 ⟨rfl, hb5⟩
  go_wp2_with fail
  go_ret
  refine ⟨rfl, ?_⟩
  have s1 := hb1.size
  have s2 := hb2.size
  have s4 := hb4.size
  have sW := hbW.size
  simp only [World.size_alloc] at s1 s2
  have a1 : Below w.heap.size w w1 := hb1
  have a2 : Below w.heap.size w w2 := a1.trans (((Below.refl _ w1).alloc (by omega) _).trans (hb2.mono (by simp; omega)))
  have a3 : Below w.heap.size w w3 := a2.trans ((((Below.refl _ w2).alloc (by omega) _).alloc (by simp; omega) _).trans (hb3.mono (by simp; omega)))
  exact a3.trans ((hbW.mono (by omega)).trans ((hb4.mono (by omega)).trans (hb5.mono (by omega))))
end Go.Proofs.Ytbmkioaomjnggaa
