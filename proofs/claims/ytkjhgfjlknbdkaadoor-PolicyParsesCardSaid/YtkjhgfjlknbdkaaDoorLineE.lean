/- What policy.line does. Conditions: the policy grows in memory, the line's words can be read; it has one at least. -/
import Derived.Test.YtkjhgfjlknbdkaaDoorLinkE
namespace Go.Proofs.YtkjhgfjlknbdkaaDoor
open Go.RowKit BigFrame Go.BigFrame

def sDomain : ByteArray := ⟨#[100, 111, 109, 97, 105, 110]⟩
def sSlot : ByteArray := ⟨#[115, 108, 111, 116]⟩
def sCell : ByteArray := ⟨#[99, 101, 108, 108]⟩
def sPump : ByteArray := ⟨#[112, 117, 109, 112]⟩
structure P3 where
  D : List Dm
  S : List (Int × Int)
  K : List Lk
/-- A line of words: the error, and the policy behind it. -/
def lineM (p : P3) (W : List ByteArray) : Int × P3 :=
  match W with
  | [x0, x1, x2, x3, x4, x5] => if x0 = sDomain then (domE p.D x1 x2 x3 x4 x5, ⟨domD p.D x1 x2 x3 x4 x5, p.S, p.K⟩) else (2, p)
  | [x0, x1, x2] => if x0 = sSlot then (slotE p.D x1 x2, ⟨p.D, slotS p.D p.S x1 x2, p.K⟩) else (2, p)
  | [x0, x1, x2, x3] => if x0 = sCell then (linkE p.D x1 x2 x3, ⟨p.D, p.S, linkK p.D p.K 1 x1 x2 x3⟩) else if x0 = sPump then (linkE p.D x1 x2 x3, ⟨p.D, p.S, linkK p.D p.K 2 x1 x2 x3⟩) else (2, p)
  | _ => (2, p)
theorem lineM_bad {p : P3} {x0 : ByteArray} {W1 : List ByteArray} {n : Nat} (hn : (x0 :: W1).length = n) (h1 : x0 = sDomain → n ≠ 6) (h2 : x0 = sSlot → n ≠ 3) (h3 : x0 = sCell → n ≠ 4) (h4 : x0 = sPump → n ≠ 4) : lineM p (x0 :: W1) = (2, p) := by
  subst hn
  unfold lineM
  split
  · next e =>
    injection e with e1 e2
    subst e1 e2
    rw [if_neg (fun e => h1 e rfl)]
  · next e =>
    injection e with e1 e2
    subst e1 e2
    rw [if_neg (fun e => h2 e rfl)]
  · next e =>
    injection e with e1 e2
    subst e1 e2
    rw [if_neg (fun e => h3 e rfl), if_neg (fun e => h4 e rfl)]
  · rfl
theorem tl_of {a b : ByteArray} (h : a.toList = b.toList) : a = b := by
  have := tl_eq a b
  rw [h] at this
  simpa using this.symm
theorem tl_lit (l : Array UInt8) : (⟨l⟩ : ByteArray).toList = l.toList := by rw [ByteArray.toList_eq]
theorem six_of {α : Type} {l : List α} (h : l.length = 5) : ∃ a b c d e, l = [a, b, c, d, e] := by
  match l, h with
  | [a, b, c, d, e], _ => exact ⟨a, b, c, d, e, rfl⟩
theorem three_of {α : Type} {l : List α} (h : l.length = 3) : ∃ a b c, l = [a, b, c] := by
  match l, h with
  | [a, b, c], _ => exact ⟨a, b, c, rfl⟩
theorem two_of {α : Type} {l : List α} (h : l.length = 2) : ∃ a b, l = [a, b] := by
  match l, h with
  | [a, b], _ => exact ⟨a, b, rfl⟩
section
variable {w0 w : World} {pb : Nat} {p : P3} {vd vs vl : Value}
set_option maxRecDepth 100000 in
set_option maxHeartbeats 16000000 in
theorem line_calls (h : PO w0 w pb p.D p.S p.K vd vs vl) (hT : Tab w0) {vw : Value} {n : Nat} {W : List ByteArray} (hw : Reads w 1 vw n (W.map Value.string)) (hn : 1 ≤ n)
    (hs : ∀ x ∈ W, x.size ≤ 140737488351232) (hD : p.D.length ≤ 5000) (hS : p.S.length ≤ 5000) (hK : p.K.length ≤ 5000) :
    Calls Tryd.prog 30 #[.pointer (some ⟨pb, 0, none⟩), vw] w fun e w' => e = .returned (.int .i64 (lineM p W).1) ∧ POF w w' pb vd vs vl ∧ ∃ vd' vs' vl', PO w0 w' pb (lineM p W).2.D (lineM p W).2.S (lineM p W).2.K vd' vs' vl' := by
  have hlw : W.length = n := by have := hw.1; simpa using this
  obtain ⟨x0, W1, rfl⟩ : ∃ x0 W1, W = x0 :: W1 := by
    cases W with
    | nil => simp at hlw; omega
    | cons a b => exact ⟨a, b, rfl⟩
  have HR := Lib.hid hw
  obtain ⟨_, aw, cw, rfl, hw2, hw3, hw4⟩ := hw
  obtain ⟨bw, ow, rfl, hwc⟩ := hw4 (by omega)
  unfold maxLen at hw3
  have k0 : w.cell? ⟨bw, ow, none⟩ = some (.string x0) := hwc 0 _ rfl
  have HP := Lib.hid h
  have HT := Lib.hid hT
  have HS := Lib.hid hs
  have HL := Lib.hid hlw
  have hn' : (1 : Int) ≤ (n : Int) := by omega
  clear h hT hwc hw4 hs hlw
  have t0 : (x0.toList = [100, 111, 109, 97, 105, 110] ∧ n = 6) ∨ (x0.toList = [115, 108, 111, 116] ∧ n = 3) ∨ (x0.toList = [99, 101, 108, 108] ∧ n = 4) ∨ (x0.toList = [112, 117, 109, 112] ∧ n = 4) ∨
      ((x0 = sDomain → n ≠ 6) ∧ (x0 = sSlot → n ≠ 3) ∧ (x0 = sCell → n ≠ 4) ∧ (x0 = sPump → n ≠ 4)) := by
    by_cases h1 : x0 = sDomain ∧ n = 6
    · exact .inl ⟨by rw [h1.1]; exact tl_lit _, h1.2⟩
    by_cases h2 : x0 = sSlot ∧ n = 3
    · exact .inr (.inl ⟨by rw [h2.1]; exact tl_lit _, h2.2⟩)
    by_cases h3 : x0 = sCell ∧ n = 4
    · exact .inr (.inr (.inl ⟨by rw [h3.1]; exact tl_lit _, h3.2⟩))
    by_cases h4 : x0 = sPump ∧ n = 4
    · exact .inr (.inr (.inr (.inl ⟨by rw [h4.1]; exact tl_lit _, h4.2⟩)))
    exact .inr (.inr (.inr (.inr ⟨fun e f => h1 ⟨e, f⟩, fun e f => h2 ⟨e, f⟩, fun e f => h3 ⟨e, f⟩, fun e f => h4 ⟨e, f⟩⟩)))
  rcases t0 with ⟨t1, rfl⟩ | ⟨t1, rfl⟩ | ⟨t1, rfl⟩ | ⟨t1, rfl⟩ | t0
  · have hx := Lib.hid (show x0 = sDomain from tl_of (by rw [t1]; exact (tl_lit _).symm))
    obtain ⟨x1, x2, x3, x4, x5, rfl⟩ := six_of (by have := HL.out; simpa using this : W1.length = 5)
    have HV := Lib.hid (show lineM p [x0, x1, x2, x3, x4, x5] = (domE p.D x1 x2 x3 x4 x5, ⟨domD p.D x1 x2 x3 x4 x5, p.S, p.K⟩) by unfold lineM; simp only [hx.out]; rfl)
    have HC := Lib.hid (domain_calls HP.out HT.out HR.out (HS.out _ (by simp)) (HS.out _ (by simp)) (fun x hx => HS.out x (by simp only [List.mem_cons, List.not_mem_nil, or_false] at hx ⊢; rcases hx with h | h | h <;> simp [h])) hD)
    go_enter Tryd.func30, Tryd.ntmps30
    go_wp2_with fail
    refine HC.out.mono ?_
    rintro e w4 ⟨rfl, hf4, vd4, hp4⟩
    have HF := Lib.hid hf4
    have H4 := Lib.hid hp4
    clear hf4 hp4
    go_wp2_with fail
    go_ret
    rw [HV.out]
    exact ⟨rfl, HF.out, _, _, _, H4.out⟩
  · have hx := Lib.hid (show x0 = sSlot from tl_of (by rw [t1]; exact (tl_lit _).symm))
    obtain ⟨x1, x2, rfl⟩ := two_of (by have := HL.out; simpa using this : W1.length = 2)
    have HV := Lib.hid (show lineM p [x0, x1, x2] = (slotE p.D x1 x2, ⟨p.D, slotS p.D p.S x1 x2, p.K⟩) by unfold lineM; simp only [hx.out]; rfl)
    have HC := Lib.hid (slot_calls HP.out HT.out HR.out (fun x hx => HS.out x (by simp only [List.mem_cons, List.not_mem_nil, or_false] at hx ⊢; simp [hx])) hS)
    go_enter Tryd.func30, Tryd.ntmps30
    go_wp2_with fail
    refine HC.out.mono ?_
    rintro e w4 ⟨rfl, hf4, vd4, hp4⟩
    have HF := Lib.hid hf4
    have H4 := Lib.hid hp4
    clear hf4 hp4
    go_wp2_with fail
    go_ret
    rw [HV.out]
    exact ⟨rfl, HF.out, _, _, _, H4.out⟩
  · have hx := Lib.hid (show x0 = sCell from tl_of (by rw [t1]; exact (tl_lit _).symm))
    obtain ⟨x1, x2, x3, rfl⟩ := three_of (by have := HL.out; simpa using this : W1.length = 3)
    have HV := Lib.hid (show lineM p [x0, x1, x2, x3] = (linkE p.D x1 x2 x3, ⟨p.D, p.S, linkK p.D p.K 1 x1 x2 x3⟩) by unfold lineM; simp only [hx.out]; rfl)
    have HC := Lib.hid (link_calls HP.out HT.out HR.out (fun x hx => HS.out x (by simp only [List.mem_cons, List.not_mem_nil, or_false] at hx ⊢; simp [hx])) hK 1)
    go_enter Tryd.func30, Tryd.ntmps30
    go_wp2_with fail
    refine HC.out.mono ?_
    rintro e w4 ⟨rfl, hf4, vd4, hp4⟩
    have HF := Lib.hid hf4
    have H4 := Lib.hid hp4
    clear hf4 hp4
    go_wp2_with fail
    go_ret
    rw [HV.out]
    exact ⟨rfl, HF.out, _, _, _, H4.out⟩
  · have hx := Lib.hid (show x0 = sPump from tl_of (by rw [t1]; exact (tl_lit _).symm))
    obtain ⟨x1, x2, x3, rfl⟩ := three_of (by have := HL.out; simpa using this : W1.length = 3)
    have HV := Lib.hid (show lineM p [x0, x1, x2, x3] = (linkE p.D x1 x2 x3, ⟨p.D, p.S, linkK p.D p.K 2 x1 x2 x3⟩) by unfold lineM; simp only [hx.out]; rw [if_neg (by decide)]; rfl)
    have HC := Lib.hid (link_calls HP.out HT.out HR.out (fun x hx => HS.out x (by simp only [List.mem_cons, List.not_mem_nil, or_false] at hx ⊢; simp [hx])) hK 2)
    go_enter Tryd.func30, Tryd.ntmps30
    go_wp2_with fail
    refine HC.out.mono ?_
    rintro e w4 ⟨rfl, hf4, vd4, hp4⟩
    have HF := Lib.hid hf4
    have H4 := Lib.hid hp4
    clear hf4 hp4
    go_wp2_with fail
    go_ret
    rw [HV.out]
    exact ⟨rfl, HF.out, _, _, _, H4.out⟩
  · obtain ⟨h1, h2, h3, h4⟩ := t0
    have HV := Lib.hid (lineM_bad (p := p) HL.out h1 h2 h3 h4)
    have t0 : (x0.toList = [100, 111, 109, 97, 105, 110] ∧ ¬ (n : Int) = 6) ∨ (x0.toList = [115, 108, 111, 116] ∧ ¬ (n : Int) = 3) ∨ (x0.toList = [99, 101, 108, 108] ∧ ¬ (n : Int) = 4) ∨ (x0.toList = [112, 117, 109, 112] ∧ ¬ (n : Int) = 4) ∨
        (¬ x0.toList = [100, 111, 109, 97, 105, 110] ∧ ¬ x0.toList = [115, 108, 111, 116] ∧ ¬ x0.toList = [99, 101, 108, 108] ∧ ¬ x0.toList = [112, 117, 109, 112]) := by
      by_cases e1 : x0.toList = [100, 111, 109, 97, 105, 110]
      · exact .inl ⟨e1, by have := h1 (tl_of (by rw [e1]; exact (tl_lit _).symm)); omega⟩
      by_cases e2 : x0.toList = [115, 108, 111, 116]
      · exact .inr (.inl ⟨e2, by have := h2 (tl_of (by rw [e2]; exact (tl_lit _).symm)); omega⟩)
      by_cases e3 : x0.toList = [99, 101, 108, 108]
      · exact .inr (.inr (.inl ⟨e3, by have := h3 (tl_of (by rw [e3]; exact (tl_lit _).symm)); omega⟩))
      by_cases e4 : x0.toList = [112, 117, 109, 112]
      · exact .inr (.inr (.inr (.inl ⟨e4, by have := h4 (tl_of (by rw [e4]; exact (tl_lit _).symm)); omega⟩)))
      exact .inr (.inr (.inr (.inr ⟨e1, e2, e3, e4⟩)))
    clear h1 h2 h3 h4 hD hS hK
    rcases t0 with ⟨t1, t2⟩ | ⟨t1, t2⟩ | ⟨t1, t2⟩ | ⟨t1, t2⟩ | ⟨t1, t2, t3, t4⟩
    all_goals
      go_enter Tryd.func30, Tryd.ntmps30
      go_wp2_with fail
      go_ret
      rw [HV.out]
      exact ⟨rfl, POF.of_below (Below.refl _ _), _, _, _, HP.out⟩
end
end Go.Proofs.YtkjhgfjlknbdkaaDoor
