/- What wheel's Set and New do; the nil ones. Condition of Set: the timers lie in memory (IsM), and were set less than 2^62 times. -/
import Derived.Test.YtajhfjgndkdbnaaWheel
import Derived.IntWalk
namespace Go.Proofs.Ytajhfjgndkdbnaa
open Go.RowKit BigFrame

section
variable {w w' : World} {b : WB} {N n : Nat} {M : List (Int × Nat)}
theorem IsM.mono (h : IsM w b N M n) {m : Nat} (hm : n ≤ m) : IsM w b N M m := by
  obtain ⟨D, h1, h2, h3, h4⟩ := h
  exact ⟨D, h1, h2, h3, by omega⟩
set_option maxHeartbeats 4000000 in
theorem wset_no (h : IsM w b N M n) (x t : Int) (hx : x < 0 ∨ (N : Int) ≤ x) :
    Calls Try.prog 9 #[.pointer (some ⟨b.s, 0, none⟩), .int .i64 x, .int .i64 t] w fun e w' => e = .returned (.bool false) ∧ w = w' := by
  obtain ⟨D, h1, h2, h3, h4⟩ := h
  have c1 := h1.c1
  have hs := h1.small
  clear h1 h2 h3 h4
  by_cases h0 : x < 0
  · go_enter Try.func9, Try.ntmps9
    go_wp2_with fail
    go_ret
    exact ⟨rfl, rfl⟩
  · have h0' : (N : Int) ≤ x := by omega
    go_enter Try.func9, Try.ntmps9
    go_wp2_with fail
    go_ret
    exact ⟨rfl, rfl⟩
set_option maxRecDepth 100000 in
set_option maxHeartbeats 8000000 in
theorem wset_yes (h : IsM w b N M n) (x : Nat) (hx : x < N) (t : Int) (ht : t ≤ 9223372036854775807) (hn : n < 4611686018427387904) :
    Calls Try.prog 9 #[.pointer (some ⟨b.s, 0, none⟩), .int .i64 x, .int .i64 t] w fun e w' => e = .returned (.bool true) ∧ IsM w' b N (insM M (heldT t) x) (n + 1) ∧ Ext w w' b.ft := by
  obtain ⟨D, h1, h2, h3, h4⟩ := h
  obtain ⟨k1, k2⟩ := h2.set hx t
  obtain ⟨hb1, hb2⟩ := heldT_bd t
  have hadd := fun u : World => add0_calls t u ht
  generalize heldT t = a at k1 k2 hb1 hb2 hadd ⊢
  have c0 := h1.c0
  have c1 := h1.c1
  have hs := h1.small
  have hrm := remove_calls h1.fi x
  have HRM := Lib.hid hrm
  have H1 := Lib.hid h1
  have HADD := Lib.hid hadd
  clear hadd
  have HK1 := Lib.hid k1
  have HK2 := Lib.hid k2
  have hx' : (x : Int) < (N : Int) := by omega
  have hxz : (0 : Int) ≤ (x : Int) := Int.natCast_nonneg _
  have HD := Lib.hid (And.intro h3 h4)
  obtain ⟨c, e1, e2, e3, e4, e5, e6⟩ := h1.apart
  have hsa : b.ba ≠ b.s := fun e => by rw [e] at e5; omega
  have hst : b.bt ≠ b.s := fun e => by rw [e] at e6; omega
  have hab : b.ba ≠ b.bt := fun e => by rw [e] at e5; omega
  clear h1 h2 k1 k2 hrm e1 e2 e3 e4 e5 e6 h3 h4
  go_enter Try.func9, Try.ntmps9
  go_wp2_with fail
  refine HRM.out.mono ?_
  rintro e w1 ⟨rfl, hf, hx1⟩
  obtain ⟨a1, a2⟩ := H1.out.actF hf hx1
  have c3 := a1.c3
  have f3 := blk_free a1.obj 3
  simp only at c3 f3
  have A1 := Lib.hid a1
  have A2 := Lib.hid a2
  have hd0 := HD.out.1
  have hd1 := HD.out.2
  clear hf hx1 a1 a2 c0 c1
  go_wp2_with fail
  have a2 := A1.out.setNow (D.now + 1)
  have x2 := A2.out.setCell (p := ⟨b.s, 3, none⟩) (fun _ => .inl rfl) (.int .i64 (D.now + 1))
  have HX2 := Lib.hid x2
  clear x2 c3 f3 A1 A2
  simp only at a2
  generalize w1.setCell ⟨b.s, 3, none⟩ (.int .i64 (D.now + 1)) = w2 at *
  have c1 := a2.c1
  have c2 := a2.c2
  have c4 := a2.c3
  simp only at c4
  obtain ⟨v0, hv0⟩ : ∃ v0, D.at_[x]? = some v0 := ⟨_, List.getElem?_eq_getElem (by have := a2.al; simp only at this; omega)⟩
  obtain ⟨u0, hu0⟩ : ∃ u0, D.turn[x]? = some u0 := ⟨_, List.getElem?_eq_getElem (by have := a2.tl; simp only at this; omega)⟩
  have ka := owns_int a2.at_ hv0
  have kt := owns_int a2.tu hu0
  have fa := a2.at_.frozenAt x
  have ft := a2.tu.frozenAt x
  have HW2 := Lib.hid a2
  clear a2 hv0 hu0
  go_upto_region 6 with (fail)
  go_cut [] (fun wc => IsW wc b ⟨(removeL D.L x).2, D.at_.set x (a), D.turn.set x (D.now + 1), D.now + 1⟩ N ∧ Ext w wc b.ft)
  case first => as_aux_lemma =>
    go_region_held3 (fun w' => w'.cell? ⟨b.s, 1, none⟩ = some (.slice (some ⟨b.ba, 0, none⟩) N N) ∧ w'.cell? ⟨b.s, 2, none⟩ = some (.slice (some ⟨b.bt, 0, none⟩) N N) ∧ w'.cell? ⟨b.s, 3, none⟩ = some (.int .i64 (D.now + 1))) (first | go_keep | exact ⟨c1, c2, c4⟩) ((go_at_call 24; refine (HADD.out _).mono ?_; rintro e w' ⟨rfl, rfl⟩))
    all_goals go_wp2_with fail
    all_goals go_meet
    all_goals first
      | exact ⟨((HW2.out.setAt x (a)).setTu x (D.now + 1)).frame (fun _ _ => rfl), ((HX2.out.setCell (p := ⟨b.ba, x, none⟩) (fun _ => .inr (.inr (.inr (.inl rfl)))) _).setCell (p := ⟨b.bt, x, none⟩) (fun _ => .inr (.inr (.inr (.inr rfl)))) _).drew⟩
      | exact ⟨((HW2.out.setTu x (D.now + 1)).setAt x (a)).frame (fun _ _ => rfl), ((HX2.out.setCell (p := ⟨b.bt, x, none⟩) (fun _ => .inr (.inr (.inr (.inr rfl)))) _).setCell (p := ⟨b.ba, x, none⟩) (fun _ => .inr (.inr (.inr (.inl rfl)))) _).drew⟩
  case rest => as_aux_lemma =>
    obtain ⟨h2, hx2⟩ := hcut
    have c0 := h2.c0
    have c1 := h2.c1
    have ka0 : (D.at_.set x (a))[x]? = some (a) := (by
      have := h2.al
      simp only [List.length_set] at this
      rw [List.getElem?_set_self (by omega)])
    have ka := owns_int h2.at_ ka0
    have KA := Lib.hid ka0
    have hpu := push_calls (h2.frame (w' := wc.drew) (fun _ _ => rfl)).fi (a % 16) x
    simp only at hpu
    rw [HK2.out] at hpu
    have HPU := Lib.hid hpu
    have H2 := Lib.hid h2
    have HX := Lib.hid hx2
    have HK := Lib.hid HK1.out
    clear HK1 HK2 HW2 HX2 HADD h2 hx2 hpu H1 HRM ka0
    have m2 : Int.tmod a 16 = a % 16 := Int.tmod_eq_emod_of_nonneg hb1
    have m3 : IntKind.i64.wrap (a % 16) = a % 16 := IntWalk.i64_in _ (by omega)
    clear hb1 hb2
    go_wp2_with fail
    go_region_held3 (fun w' => w'.cell? ⟨b.s, 0, none⟩ = some (.pointer (some ⟨b.G, 0, none⟩)) ∧ w'.cell? ⟨b.s, 1, none⟩ = some (.slice (some ⟨b.ba, 0, none⟩) N N) ∧ w'.cell? ⟨b.ba, x, none⟩ = some (.int .i64 a)) (first | go_keep | exact ⟨c0, c1, ka⟩ | exact hkk)
      ((go_at_call 25; refine HPU.out.mono ?_; rintro e w3 ⟨rfl, hf, hx3⟩; have HS3 := Lib.hid ((H2.out.frame (w' := wc.drew) (fun _ _ => rfl)).actF hf hx3); have hkk := And.intro HS3.out.1.c0 (And.intro HS3.out.1.c1 (owns_int HS3.out.1.at_ KA.out)); clear hf hx3))
    all_goals go_wp2_with fail
    all_goals go_ret
    all_goals exact ⟨rfl, ⟨_, HS3.out.1, HK.out, by have := HD.out; simp only; omega, by have := HD.out; simp only; omega⟩, HX.out.drew.then HS3.out.2⟩
end
end Go.Proofs.Ytajhfjgndkdbnaa
