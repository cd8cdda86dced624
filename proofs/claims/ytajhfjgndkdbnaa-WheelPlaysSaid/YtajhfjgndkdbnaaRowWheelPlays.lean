/-
  'parcloselaw08.WheelPlays' returns true for every input, and each argument reads afterwards as it read before. Conditions: none but the row's own.
  The frame is written by row.py (this repo's wip) after the guide's template.
-/
import Derived.Test.YtajhfjgndkdbnaaLaw08d
import Derived.Test.YtajhfjgndkdbnaaView
namespace Go.Proofs.Ytajhfjgndkdbnaa.wheelPlays
open Go.ChangeShapes Go.WideShapes Go.ChangeAt Go.RowKit Go
open Go.ChangeMaps (open_string shut_string)
set_option linter.unusedVariables false

theorem own : ownKnob Try.prog.godebug = none := by kernel_rfl
theorem laidOut : laidOutB Try.prog = true := by kernel_rfl

set_option maxRecDepth 100000 in
theorem lifted (os : Os) (started : os.Started) (H : Type) (enc : TypeId × Value → H) :
    ReturnsInHanded {} Try.checked os 5 .any (Rows.wheelPlaysSpec.pre6 enc Try.prog Try.f5 Rows.wheelPlaysRow.domain false) (Rows.wheelPlaysSpec.post enc Try.prog Try.f5 false true false false) := by
  refine returnsInHanded_of_change_sized (C := Try.checked) own started (by kernel_rfl) Try.func5
    (ChangeSpec.witness6 (enc := enc) (C := Try.checked) false ⟨#[], #[.int .i64 0, .slice none 0 0], []⟩ 8 (by kernel_rfl) (by kernel_rfl) (by kernel_rfl) (by kernel_rfl)) ?_
  intro W base args ds gs before hval0 hW _ hsz0 _
  have hsz : (DataW.weightsEach Try.prog (Try.f5.params.toList ++ Rows.wheelPlaysSpec.plain.varTypes Try.prog) (ds ++ gs)).all (· ≤ reachBytes) = true := hsz0
  clear hsz0
  have hval : ∀ (j : Nat) t v, Try.f5.params[j]? = some t → args[j]? = some v → Value.okWide Try.prog W .any base t v := hval0
  have hW' := hW
  obtain ⟨p, q, hA0, hV, rfl, _, _⟩ := hW
  have hA : DataW.TrodAll enc Try.prog W 0 (fun _ => true) true Try.f5.params.toList args.toList ds p := hA0
  rw [Try.params5] at hA hval hsz
  obtain ⟨v0, vs0, d0, ds0, p0, q0, hargs, rfl, rfl, h0, r0⟩ := trodAll_cons hA
  obtain ⟨v1, vs1, d1, ds1, p1, q1, rfl, rfl, rfl, h1, r1⟩ := trodAll_cons r0
  obtain ⟨rfl, rfl, rfl⟩ := trodAll_nil r1
  obtain rfl : args = #[v0, v1] := by cases args; simp_all
  obtain ⟨rfl, rfl⟩ := trodVars_none hV
  clear hA0 hval0
  simp only [List.append_nil] at hW'
  have t0 : ∀ x ∈ p0, x.block < W.heap.size := fun x hx => hW'.lt x (by simp [hx])
  have t1 : ∀ x ∈ p1, x.block < W.heap.size := fun x hx => hW'.lt x (by simp [hx])
  obtain ⟨a0, rfl, rfl, rfl, w0⟩ := open_int Try.underlying3 (hval 0 3 v0 rfl rfl) h0
  obtain ⟨n1, xs1, hl1, hr1, hb1, hd1⟩ := view_structs (P := Try.prog) (w := W) [.u8, .i64, .i64] Try.underlying36 Try.underlying40 (by kernel_rfl) (by kernel_rfl) (by rfl) (by decide) (by intro j k f hk hf; have hj := (List.getElem?_eq_some_iff.1 hk).1; match j, hj, hk, hf with | 0, _, hk, hf => (simp at hk hf; subst hk hf; exact Try.underlying5) | 1, _, hk, hf => (simp at hk hf; subst hk hf; exact Try.underlying3) | 2, _, hk, hf => (simp at hk hf; subst hk hf; exact Try.underlying3)) (hval 1 36 v1 rfl rfl) h1
  have z1 : n1 * Try.prog.bytesOf 40 ≤ 140737488351232 := by
    rcases hd1 with h | ⟨elems, sp, hd, he⟩
    · rw [h]; omega
    · have := sized_slice hsz (j := 1) (t := 36) (e := 40) rfl (by rw [hd]; rfl) Try.underlying36
      rw [he] at this
      exact Nat.le_trans (Nat.mul_le_mul_right _ (Nat.le_add_right _ _)) this
  refine (wheelPlays_walk W a0 (bounds_i64 w0).1 (bounds_i64 w0).2 v1 n1 xs1 hl1 hr1 hb1 z1).mono fun e W' ⟨he, hb⟩ => ?_
  subst he
  exact ⟨_, rfl, _, _, _, [], _, [], hW', trodAll_cons_mk (shut_bool Try.underlying4 _) trodAll_mk0, (trodAll_cons_mk (Below.trod laidOut (by kernel_rfl) (of_decide_eq_true (by kernel_rfl)) h0 hb t0) (trodAll_cons_mk (Below.trod laidOut (by kernel_rfl) (of_decide_eq_true (by kernel_rfl)) h1 hb t1) trodAll_mk0)), rfl, hb.frame _, fun h => by cases h⟩

theorem over : Rows.wheelPlaysRow.holds Try.pinned (OpenSpec.ofChange Rows.wheelPlaysSpec) :=
  OpenClaim.holds_of_wide 5 Try.f5 rfl rfl rfl rfl rfl rfl rfl ⟨rfl, rfl, rfl, rfl, rfl⟩ rfl rfl rfl rfl rfl (by kernel_rfl) Try.func5 (by kernel_rfl)
    (of_decide_eq_true (by kernel_rfl)) (by unfold Func.isWrapper; first | (rw [if_pos (by decide +kernel)]; kernel_rfl) | (rw [if_neg (by decide +kernel)]; exact ⟨rfl, rfl⟩))
    (fun os started H enc _ => lifted os started H enc)

theorem proved : Rows.WheelPlaysSaid := over
#print axioms proved
end Go.Proofs.Ytajhfjgndkdbnaa.wheelPlays
