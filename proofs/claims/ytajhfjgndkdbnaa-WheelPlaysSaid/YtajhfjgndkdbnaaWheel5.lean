/- What wheel's order answers (cmp.Or of two cmp.Compare). Condition: the timers lie in memory (IsW), the two are of them. -/
import Derived.Test.YtajhfjgndkdbnaaWheel4
import Derived.Test.YtajhfjgndkdbnaaShelf
namespace Go.Proofs.Ytajhfjgndkdbnaa
open Go.RowKit BigFrame

def cmpI (x y : Int) : Int := if x < y then -1 else if y < x then 1 else 0
def cfW (D : WD) (x y : Nat) : Int := if cmpI (D.at_.getD x 0) (D.at_.getD y 0) ≠ 0 then cmpI (D.at_.getD x 0) (D.at_.getD y 0) else cmpI (D.turn.getD x 0) (D.turn.getD y 0)
theorem cfW_neg (D : WD) (x y : Nat) : cfW D x y < 0 ↔ wl D x y := by
  unfold cfW cmpI wl
  generalize D.at_.getD x 0 = a
  generalize D.at_.getD y 0 = b
  generalize D.turn.getD x 0 = c
  generalize D.turn.getD y 0 = d
  by_cases h1 : a < b
  · simp [h1]
  · by_cases h2 : b < a
    · simp [h1, h2]; omega
    · have e : a = b := by omega
      subst e
      by_cases h3 : c < d
      · simp [h3]
      · by_cases h4 : d < c <;> simp [h3, h4]
theorem compare_calls (x y : Int) (w : World) : Calls Try.prog 41 #[.int .i64 x, .int .i64 y] w fun e w' => e = .returned (.int .i64 (cmpI x y)) ∧ w = w' := by
  have h := Try.cmp_Compare_int x y w
  refine h.mono fun e w' ⟨h1, h2⟩ => ⟨?_, h2.symm⟩
  rw [h1]
  rfl
set_option maxHeartbeats 4000000 in
theorem or_calls (x y : Int) {w : World} {bv : Nat} (h0 : w.cell? ⟨bv, 0, none⟩ = some (.int .i64 x)) (h1 : w.cell? ⟨bv, 1, none⟩ = some (.int .i64 y)) :
    Calls Try.prog 40 #[.slice (some ⟨bv, 0, none⟩) 2 2] w fun e w' => e = .returned (.int .i64 (if x ≠ 0 then x else y)) ∧ w = w' := by
  by_cases hx : x = 0
  · subst hx
    by_cases hy : y = 0
    · subst hy
      go_enter Try.func40, Try.ntmps40
      go_wp2_with fail
      refine wp_loop_rounds 3 ?_
      rw [rounds_succ]
      go_wp2_with fail
      rw [rounds_succ]
      go_wp2_with fail
      rw [rounds_succ]
      go_wp2_with fail
      go_ret
      exact ⟨rfl, rfl⟩
    · have hy' : (y == 0) = false := by simpa using hy
      have hyn : (y != 0) = true := by simpa using hy
      go_enter Try.func40, Try.ntmps40
      go_wp2_with fail
      refine wp_loop_rounds 2 ?_
      rw [rounds_succ]
      go_wp2_with fail
      rw [rounds_succ]
      go_wp2_with fail
      go_ret
      exact ⟨by simp, rfl⟩
  · have hx' : (x == 0) = false := by simpa using hx
    have hxn : (x != 0) = true := by simpa using hx
    have HX := Lib.hid hx
    clear hx
    go_enter Try.func40, Try.ntmps40
    go_wp2_with fail
    refine wp_loop_rounds 1 ?_
    rw [rounds_succ]
    go_wp2_with fail
    go_ret
    exact ⟨by first | rfl | simp, rfl⟩
set_option maxRecDepth 100000 in
set_option maxHeartbeats 8000000 in
theorem order_calls {w : World} {b : WB} {D : WD} {N : Nat} (h : IsW w b D N) (x y : Nat) (hx : x < N) (hy : y < N) :
    Calls Try.prog 28 #[.pointer (some ⟨b.s, 0, none⟩), .int .i64 x, .int .i64 y] w fun e w' => e = .returned (.int .i64 (cfW D x y)) ∧ Below w.heap.size w w' := by
  have hN := h.small
  have HC := Lib.hid (fun (u : World) (hu : IsW u b D N) => And.intro hu.c1 (And.intro hu.c2 (And.intro (owns_int hu.at_ (i := x) (x := D.at_.getD x 0) (by rw [List.getD_eq_getElem?_getD, List.getElem?_eq_getElem (by rw [hu.al]; exact hx)]; rfl))
    (And.intro (owns_int hu.at_ (i := y) (x := D.at_.getD y 0) (by rw [List.getD_eq_getElem?_getD, List.getElem?_eq_getElem (by rw [hu.al]; exact hy)]; rfl))
    (And.intro (owns_int hu.tu (i := x) (x := D.turn.getD x 0) (by rw [List.getD_eq_getElem?_getD, List.getElem?_eq_getElem (by rw [hu.tl]; exact hx)]; rfl))
      (owns_int hu.tu (i := y) (x := D.turn.getD y 0) (by rw [List.getD_eq_getElem?_getD, List.getElem?_eq_getElem (by rw [hu.tl]; exact hy)]; rfl)))))))
  have hcc := HC.out w h
  obtain ⟨r, hr⟩ : ∃ r, r = cfW D x y := ⟨_, rfl⟩
  rw [← hr]
  unfold cfW at hr
  generalize D.at_.getD x 0 = p1 at *
  generalize D.at_.getD y 0 = p2 at *
  generalize D.turn.getD x 0 = p3 at *
  generalize D.turn.getD y 0 = p4 at *
  have hx' : (x : Int) < (N : Int) := by omega
  have hxz : (0 : Int) ≤ (x : Int) := Int.natCast_nonneg _
  have hy' : (y : Int) < (N : Int) := by omega
  have hyz : (0 : Int) ≤ (y : Int) := Int.natCast_nonneg _
  have HN := Lib.hid hN
  have HOR := Lib.hid (fun (u : World) (bv : Nat) (h0 : u.cell? ⟨bv, 0, none⟩ = some (.int .i64 (cmpI p1 p2))) (h1 : u.cell? ⟨bv, 1, none⟩ = some (.int .i64 (cmpI p3 p4))) =>
    (show Calls Try.prog 40 #[.slice (some ⟨bv, 0, none⟩) 2 2] u fun e w' => e = .returned (.int .i64 r) ∧ u = w' from by rw [hr]; exact or_calls _ _ h0 h1))
  clear h hr
  go_enter Try.func28, Try.ntmps28
  go_wp2_with fail
  go_region_held3 (fun w' => w'.cell? ⟨b.s, 1, none⟩ = some (.slice (some ⟨b.ba, 0, none⟩) N N) ∧ w'.cell? ⟨b.s, 2, none⟩ = some (.slice (some ⟨b.bt, 0, none⟩) N N) ∧ w'.cell? ⟨b.ba, x, none⟩ = some (.int .i64 p1) ∧ w'.cell? ⟨b.ba, y, none⟩ = some (.int .i64 p2) ∧ w'.cell? ⟨b.bt, x, none⟩ = some (.int .i64 p3) ∧ w'.cell? ⟨b.bt, y, none⟩ = some (.int .i64 p4)) (first | go_keep | exact hcc)
    (first | (go_at_call 41; refine (compare_calls _ _ _).mono ?_; rintro e w' ⟨rfl, rfl⟩) | (go_at_call 40; refine (HOR.out _ _ (by go_simp) (by go_simp)).mono ?_; rintro e w' ⟨rfl, rfl⟩))
  all_goals go_wp2_with fail
  all_goals go_ret
  all_goals exact ⟨rfl, by first | exact ((Below.refl _ _).alloc (Nat.le_refl _) _).drew | exact (Below.refl _ _).drew.alloc (Nat.le_refl _) _⟩
end Go.Proofs.Ytajhfjgndkdbnaa
