/- What package lex's bad and next do. Condition: the reader lies in memory. -/
import Derived.Test.YtbgpniepgbmkaaaDoorLex1
import Derived.Test.YtbgpniepgbmkaaaDoorShelf
import Derived.Test.YtbgpniepgbmkaaaDoorSignStep
namespace Go.Proofs.YtbgpniepgbmkaaaDoor
open Go.RowKit BigFrame

def fffd : ByteArray := ⟨#[239, 191, 189]⟩
/-- May a rune not be? -/
def badR (c : Int) (rest : ByteArray) : Bool := decide (c < 32) || (c == 127 || (c == 65533 && !(Lib.hasPrefix rest.data.toList fffd.data.toList)))
set_option maxRecDepth 100000 in
set_option maxHeartbeats 4000000 in
theorem bad_calls (c : Int) (h0 : 0 ≤ c) (h1 : c ≤ 2147483647) (rest : ByteArray) (w : World) :
    Calls Tryd.prog 41 #[.int .i32 c, .string rest] w fun e w' => e = .returned (.bool (badR c rest)) ∧ w = w' := by
  by_cases a1 : c < 32
  · have H := Lib.hid (show badR c rest = true by unfold badR; rw [decide_eq_true a1, Bool.true_or])
    go_enter Tryd.func41, Tryd.ntmps41
    go_wp2
    go_ret
    exact ⟨by rw [H.out]; rfl, rfl⟩
  · by_cases a2 : c = 127
    · subst a2
      go_enter Tryd.func41, Tryd.ntmps41
      go_wp2
      go_ret
      exact ⟨rfl, rfl⟩
    · by_cases a3 : c = 65533
      · subst a3
        have HP := Lib.hid (fun u : World => Tryd.strings_HasPrefix rest fffd u)
        have H := Lib.hid (show badR 65533 rest = !(Lib.hasPrefix rest.data.toList fffd.data.toList) by unfold badR; simp)
        generalize Lib.hasPrefix rest.data.toList fffd.data.toList = hp at HP H
        clear a1 a2
        go_enter Tryd.func41, Tryd.ntmps41
        go_wp2_with fail
        refine (HP.out _).mono ?_
        rintro e w' ⟨rfl, rfl⟩
        cases hp
        all_goals
          go_wp2_with fail
          go_ret
          exact ⟨by rw [H.out]; rfl, rfl⟩
      · have t1 : (c == 127) = false := by simpa using a2
        have t2 : (c == 65533) = false := by simpa using a3
        have H := Lib.hid (show badR c rest = false by unfold badR; rw [decide_eq_false a1, t1, t2]; rfl)
        clear a2 a3
        go_enter Tryd.func41, Tryd.ntmps41
        go_wp2
        go_ret
        exact ⟨by rw [H.out]; rfl, rfl⟩
section
variable {w0 w : World} {rb ib : Nat} {o : Obj} {L : List Wd} {ln co fr ca : Int} {re : Bool}
theorem RD.setB (h : RD w0 w rb ib o L ln co fr ca re) (x : Bool) : RD w0 (w.setCell ⟨rb, 5, none⟩ (.bool x)) rb ib o L ln co fr ca x := by
  obtain ⟨v, h1, h2, h3, h4⟩ := h.ex
  refine ⟨⟨v, ?_, owns_same h2 (fun k hk => heap_setCell_other _ _ _ _ (fun e => h3 (by rw [hk, e]))), h3, h4⟩, (heap_setCell_other _ _ _ _ h.ne).trans h.it, h.ne, h.b.setCell (p := ⟨rb, 5, none⟩) h.ge _, h.ge⟩
  have := blk_set h1 5 (.bool x)
  simpa [rdCells] using this
theorem RD.setA (h : RD w0 w rb ib o L ln co fr ca re) (x : Int) : RD w0 (w.setCell ⟨rb, 4, none⟩ (.int .i64 x)) rb ib o L ln co fr x re := by
  obtain ⟨v, h1, h2, h3, h4⟩ := h.ex
  refine ⟨⟨v, ?_, owns_same h2 (fun k hk => heap_setCell_other _ _ _ _ (fun e => h3 (by rw [hk, e]))), h3, h4⟩, (heap_setCell_other _ _ _ _ h.ne).trans h.it, h.ne, h.b.setCell (p := ⟨rb, 4, none⟩) h.ge _, h.ge⟩
  have := blk_set h1 4 (.int .i64 x)
  simpa [rdCells] using this
theorem RD.setC (h : RD w0 w rb ib o L ln co fr ca re) (x : Int) : RD w0 (w.setCell ⟨rb, 2, none⟩ (.int .i64 x)) rb ib o L ln x fr ca re := by
  obtain ⟨v, h1, h2, h3, h4⟩ := h.ex
  refine ⟨⟨v, ?_, owns_same h2 (fun k hk => heap_setCell_other _ _ _ _ (fun e => h3 (by rw [hk, e]))), h3, h4⟩, (heap_setCell_other _ _ _ _ h.ne).trans h.it, h.ne, h.b.setCell (p := ⟨rb, 2, none⟩) h.ge _, h.ge⟩
  have := blk_set h1 2 (.int .i64 x)
  simpa [rdCells] using this
theorem RD.setL (h : RD w0 w rb ib o L ln co fr ca re) (x : Int) : RD w0 (w.setCell ⟨rb, 1, none⟩ (.int .i64 x)) rb ib o L x co fr ca re := by
  obtain ⟨v, h1, h2, h3, h4⟩ := h.ex
  refine ⟨⟨v, ?_, owns_same h2 (fun k hk => heap_setCell_other _ _ _ _ (fun e => h3 (by rw [hk, e]))), h3, h4⟩, (heap_setCell_other _ _ _ _ h.ne).trans h.it, h.ne, h.b.setCell (p := ⟨rb, 1, none⟩) h.ge _, h.ge⟩
  have := blk_set h1 1 (.int .i64 x)
  simpa [rdCells] using this
theorem RD.cells (h : RD w0 w rb ib o L ln co fr ca re) : w.cell? ⟨rb, 1, none⟩ = some (.int .i64 ln) ∧ w.cell? ⟨rb, 2, none⟩ = some (.int .i64 co) ∧ w.cell? ⟨rb, 3, none⟩ = some (.int .i64 fr) ∧ w.cell? ⟨rb, 4, none⟩ = some (.int .i64 ca) ∧ w.cell? ⟨rb, 5, none⟩ = some (.bool re) := by
  obtain ⟨v, h1, _⟩ := h.ex
  exact ⟨blk_cell h1 1, blk_cell h1 2, blk_cell h1 3, blk_cell h1 4, blk_cell h1 5⟩
theorem RD.free (h : RD w0 w rb ib o L ln co fr ca re) (i : Nat) : w.frozen? ⟨rb, i, none⟩ = false := by
  obtain ⟨v, h1, _⟩ := h.ex
  exact blk_free h1 i
theorem RD.drew (h : RD w0 w rb ib o L ln co fr ca re) : RD w0 w.drew rb ib o L ln co fr ca re := by
  obtain ⟨v, h1, h2, h3, h4⟩ := h.ex
  exact ⟨⟨v, h1, owns_same h2 (fun _ _ => rfl), h3, h4⟩, h.it, h.ne, h.b.trans ((Below.refl _ _).drew), h.ge⟩
def cutB (re : Bool) (c : Int) : Bool := re || (c == 35 || c == 32)
def nxL (L : List Wd) (s : ByteArray) (ln fr ca : Int) (i : Nat) (re : Bool) (c : Int) : List Wd := if cutB re c = true then endL L s ln fr ca i else L
def nxF (fr : Int) (i : Nat) (re : Bool) (c : Int) : Int := if cutB re c = true then -1 else if fr < 0 then i else fr
def nxC (fr co ca : Int) (re : Bool) (c : Int) : Int := if cutB re c = true then ca else if fr < 0 then co else ca
set_option maxRecDepth 100000 in
set_option maxHeartbeats 16000000 in
theorem next_calls (h : RD w0 w rb ib o L ln co fr ca re) (s : ByteArray) (i : Nat) (c : Int) (hi : i ≤ s.size) (hs : s.size ≤ 4096) (hf : fr ≤ i) (hL : L.length ≤ 4096) (c0 : 0 ≤ c) (c1 : c ≤ 2147483647) :
    Calls Tryd.prog 42 #[.pointer (some ⟨rb, 0, none⟩), .string s, .int .i64 i, .int .i32 c] w fun e w' => e = .returned (.tuple #[]) ∧
      RD w0 w' rb ib o (nxL L s ln fr ca i re c) ln co (nxF fr i re c) (nxC fr co ca re c) (re || c == 35) := by
  obtain ⟨k1, k2, k3, k4, k5⟩ := h.cells
  have z5 := h.free 5
  obtain ⟨re2, hre⟩ : ∃ r, r = (re || c == 35) := ⟨_, rfl⟩
  have H1 := Lib.hid (h.setB re2)
  obtain ⟨m1, m2, m3, m4, m5⟩ := H1.out.cells
  have y3 := H1.out.free 3
  have y4 := (H1.out.setF (i : Int)).free 4
  have y5 : ((w.setCell ⟨rb, 5, none⟩ (.bool re2)).setCell ⟨rb, 3, none⟩ (.int .i64 i)).cell? ⟨rb, 4, none⟩ = some (.int .i64 ca) := (H1.out.setF (i : Int)).cells.2.2.2.1
  have HEN := Lib.hid (end_calls H1.out s i hi hs hf hL)
  have HRE := Lib.hid hre
  have HCB := Lib.hid (show cutB re c = (re || (c == 35 || c == 32)) from rfl)
  have HN := Lib.hid (show nxL L s ln fr ca i re c = (if cutB re c = true then endL L s ln fr ca i else L) ∧ nxF fr i re c = (if cutB re c = true then -1 else if fr < 0 then (i : Int) else fr) ∧ nxC fr co ca re c = (if cutB re c = true then ca else if fr < 0 then co else ca) from ⟨rfl, rfl, rfl⟩)
  generalize nxL L s ln fr ca i re c = oL at HN ⊢
  generalize nxF fr i re c = oF at HN ⊢
  generalize nxC fr co ca re c = oC at HN ⊢
  generalize cutB re c = cb at HN HCB
  clear h hre
  generalize t35 : (c == 35) = b35 at HRE HCB ⊢
  generalize t32 : (c == 32) = b32 at HCB
  rw [← HRE.out]
  cases cb with
  | true =>
    have HN2 := Lib.hid (show oL = endL L s ln fr ca i ∧ oF = -1 ∧ oC = ca from HN.out)
    have HG := Lib.hid (show re2 = true ∨ b32 = true by
      have h1 := HRE.out
      have h2 := HCB.out
      revert h1 h2
      cases re <;> cases b35 <;> cases b32 <;> cases re2 <;> simp)
    clear HN HCB
    cases re <;> cases b35
    all_goals
      have hr2 := HRE.out
      simp only [Bool.or_false, Bool.or_true, Bool.false_or, Bool.true_or] at hr2
      subst hr2
      clear HRE
    case false.false =>
      obtain rfl : b32 = true := by rcases HG.out with h | h <;> first | exact h | cases h
      go_enter Tryd.func42, Tryd.ntmps42
      go_wp2_with fail
      refine HEN.out.mono ?_
      rintro e w4 ⟨rfl, h4⟩
      have H4 := Lib.hid h4
      clear h4
      go_wp2_with fail
      go_end0
      rw [HN2.out.1, HN2.out.2.1, HN2.out.2.2]
      exact ⟨rfl, H4.out⟩
    all_goals
      go_enter Tryd.func42, Tryd.ntmps42
      go_wp2_with fail
      refine HEN.out.mono ?_
      rintro e w4 ⟨rfl, h4⟩
      have H4 := Lib.hid h4
      clear h4
      go_wp2_with fail
      go_end0
      rw [HN2.out.1, HN2.out.2.1, HN2.out.2.2]
      exact ⟨rfl, H4.out⟩
  | false =>
    obtain ⟨rfl, rfl, rfl⟩ : re = false ∧ b35 = false ∧ b32 = false := by
      have h2 := HCB.out
      revert h2
      cases re <;> cases b35 <;> cases b32 <;> simp
    obtain rfl : re2 = false := HRE.out
    clear HRE HCB HEN
    by_cases hf0 : fr < 0
    · have HN2 := Lib.hid (show oL = L ∧ oF = (i : Int) ∧ oC = co from ⟨HN.out.1, by rw [HN.out.2.1]; simp [hf0], by rw [HN.out.2.2]; simp [hf0]⟩)
      have HR := Lib.hid ((H1.out.setF (i : Int)).setA co)
      clear HN
      go_enter Tryd.func42, Tryd.ntmps42
      go_wp2_with fail
      go_end0
      rw [HN2.out.1, HN2.out.2.1, HN2.out.2.2]
      exact ⟨rfl, HR.out⟩
    · have HN2 := Lib.hid (show oL = L ∧ oF = fr ∧ oC = ca from ⟨HN.out.1, by rw [HN.out.2.1]; simp [hf0], by rw [HN.out.2.2]; simp [hf0]⟩)
      clear HN
      go_enter Tryd.func42, Tryd.ntmps42
      go_wp2_with fail
      go_end0
      rw [HN2.out.1, HN2.out.2.1, HN2.out.2.2]
      exact ⟨rfl, H1.out⟩
end
end Go.Proofs.YtbgpniepgbmkaaaDoor
