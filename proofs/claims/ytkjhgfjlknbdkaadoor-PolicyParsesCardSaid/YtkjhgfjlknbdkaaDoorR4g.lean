/- What the document's one does (parcloseref04.one): lineM. Conditions: the policy lies in rows of the call's own, the line can be read, has a word.
   What the document's Parse of a policy does (parcloseref04.Parse): parseM. Condition: the text is at most 2^47 bytes. -/
import Derived.Test.YtkjhgfjlknbdkaaDoorR4c
import Derived.Test.YtkjhgfjlknbdkaaDoorR4d
import Derived.Test.YtkjhgfjlknbdkaaDoorR4e
import Derived.Test.YtkjhgfjlknbdkaaDoorR3g
namespace Go.Proofs.YtkjhgfjlknbdkaaDoor
open Go.RowKit BigFrame Go.BigFrame

theorem rline_calls {B : Nat} {w : World} {vd vs vl vw : Value} {p : P3} {W : List ByteArray} {n : Nat} (h : PW B w vd vs vl p) (hBB : B ≤ w.heap.size) (hw : Reads w 1 vw n (W.map Value.string)) (hn : 1 ≤ n) (hs : ∀ x ∈ W, x.size ≤ 140737488351232)
    (hD : p.D.length ≤ 5000) (hS : p.S.length ≤ 5000) (hK : p.K.length ≤ 5000) :
    Calls Tryd.prog 32 #[.agg #[vd, vs, vl], vw] w fun e w' => ∃ vd' vs' vl', e = .returned (.tuple #[.agg #[vd', vs', vl'], .int .i64 (lineM p W).1]) ∧ PW B w' vd' vs' vl' (lineM p W).2 ∧ Below w.heap.size w w' := by
  have hlw : W.length = n := by have := hw.1; simpa using this
  obtain ⟨x0, W1, rfl⟩ : ∃ x0 W1, W = x0 :: W1 := by
    cases W with
    | nil => simp at hlw; omega
    | cons a b => exact ⟨a, b, rfl⟩
  by_cases h1 : x0 = sDomain ∧ n = 6
  · obtain ⟨rfl, rfl⟩ := h1
    obtain ⟨x1, x2, x3, x4, x5, rfl⟩ := six_of (by simpa using hlw : W1.length = 5)
    have e : lineM p [sDomain, x1, x2, x3, x4, x5] = (domE p.D x1 x2 x3 x4 x5, ⟨domD p.D x1 x2 x3 x4 x5, p.S, p.K⟩) := by unfold lineM; exact if_pos rfl
    refine rdom4_calls h hBB hw hs (tl_lit _) ?_ ?_ ?_ ?_ hD
    · intro h4
      have hd : domE p.D x1 x2 x3 x4 x5 = 4 := by
        unfold domE
        rw [if_pos]
        rcases h4 with h4 | h4
        · rw [h4]; rfl
        · rw [decide_eq_true h4]; simp
      rw [e, domD_bad hd rfl, hd]
    · intro ha hb hc
      have hc3 : (readV x2).2.2 = 3 := by
        cases hp : parseL (bl x2 0) with
        | none => rw [readV_none hp]
        | some q =>
          obtain ⟨l, c⟩ := q
          rw [readV_some hp] at hc
          exact absurd rfl hc
      have hd : domE p.D x1 x2 x3 x4 x5 = 3 := by
        unfold domE
        rw [if_neg (by rw [ha, decide_eq_false (by omega)]; simp), if_neg hc, hc3]
      rw [e, domD_bad hd rfl, hd]
    · intro ha hb hc h3
      have hd : domE p.D x1 x2 x3 x4 x5 = 2 := by
        unfold domE numAll
        rw [if_neg (by rw [ha, decide_eq_false (by omega)]; simp), if_pos hc, if_neg]
        rcases rnum_cases x3 with ⟨a1, _, a2⟩ | ⟨a1, a2⟩ <;> rcases rnum_cases x4 with ⟨b1, _, b2⟩ | ⟨b1, b2⟩ <;> rcases rnum_cases x5 with ⟨c1, _, c2⟩ | ⟨c1, c2⟩ <;> simp [a1, b1, c1]
        omega
      rw [e, domD_bad hd rfl, hd]
    · intro ha hb hc h3
      rcases rnum_cases x3 with ⟨a1, a3, _⟩ | ⟨_, a2⟩
      · rcases rnum_cases x4 with ⟨b1, b3, _⟩ | ⟨_, b2⟩
        · rcases rnum_cases x5 with ⟨c1, c3, _⟩ | ⟨_, c2⟩
          · have hd : domE p.D x1 x2 x3 x4 x5 = 0 := by
              unfold domE numAll
              rw [if_neg (by rw [ha, decide_eq_false (by omega)]; simp), if_pos hc, if_pos (by simp [a1, b1, c1])]
            rw [e, hd]
            unfold domD
            rw [if_pos hd, domV, a3, b3, c3]
          · omega
        · omega
      · omega
  by_cases h2 : x0 = sSlot ∧ n = 3
  · obtain ⟨rfl, rfl⟩ := h2
    obtain ⟨x1, x2, rfl⟩ := two_of (by simpa using hlw : W1.length = 2)
    have l := ln_slot (p := p) (x1 := x1) (x2 := x2)
    exact rslot4_calls h hBB hw (hs x2 (by simp)) (tl_lit _) l.f0 (fun a b => l.bad a (fun c => by cases c) b) (fun a b => l.ok1 rfl a b) hS hK
  by_cases h3 : x0 = sCell ∧ n = 4
  · obtain ⟨rfl, rfl⟩ := h3
    obtain ⟨x1, x2, x3, rfl⟩ := three_of (by simpa using hlw : W1.length = 3)
    have l := ln_link (p := p) (x0 := sCell) (x1 := x1) (x2 := x2) (x3 := x3) (kd := 1) (.inl ⟨rfl, rfl⟩)
    exact rlink4_calls h hBB hw (hs x3 (by simp)) (.inl ⟨rfl, tl_lit _⟩) l.f0 (l.f1 rfl) (fun a b c => l.bad a (fun _ => b) c) (fun a b c => l.ok2 rfl a b c) hS hK
  by_cases h4 : x0 = sPump ∧ n = 4
  · obtain ⟨rfl, rfl⟩ := h4
    obtain ⟨x1, x2, x3, rfl⟩ := three_of (by simpa using hlw : W1.length = 3)
    have l := ln_link (p := p) (x0 := sPump) (x1 := x1) (x2 := x2) (x3 := x3) (kd := 2) (.inr ⟨rfl, rfl⟩)
    exact rlink4_calls h hBB hw (hs x3 (by simp)) (.inr ⟨rfl, tl_lit _⟩) l.f0 (l.f1 rfl) (fun a b c => l.bad a (fun _ => b) c) (fun a b c => l.ok2 rfl a b c) hS hK
  exact rbad4_calls h hw (fun e f => h1 ⟨e, f⟩) (fun e f => h2 ⟨e, f⟩) (fun e f => h3 ⟨e, f⟩) (fun e f => h4 ⟨e, f⟩)
/-- The labels' sets are int64s. -/
def CB (p : P3) : Prop := ∀ d ∈ p.D, -9223372036854775808 ≤ d.ct ∧ d.ct ≤ 9223372036854775807
theorem readV_ct (s : ByteArray) : -9223372036854775808 ≤ (readV s).2.1 ∧ (readV s).2.1 ≤ 9223372036854775807 := by
  cases hp : parseL (bl s 0) with
  | none => rw [readV_none hp]; decide
  | some q =>
    obtain ⟨l, c⟩ := q
    rw [readV_some hp]
    obtain ⟨_, _, h1, h2, _⟩ := text_parse hp
    exact ⟨by show _ ≤ c; omega, by show c ≤ _; omega⟩
theorem CB.step {p : P3} (h : CB p) (W : List ByteArray) : CB (lineM p W).2 := by
  unfold lineM
  split
  · split
    · show ∀ d ∈ domD _ _ _ _ _ _, _
      unfold domD
      split
      · intro x hx
        rcases List.mem_append.1 hx with hx | hx
        · exact h x hx
        · rw [List.mem_singleton] at hx
          rw [hx]
          exact readV_ct _
      · exact h
    · exact h
  · split <;> exact h
  · split
    · exact h
    · split <;> exact h
  · exact h
end Go.Proofs.YtkjhgfjlknbdkaaDoor

namespace Go.Proofs.YtkjhgfjlknbdkaaDoor
open Go.RowKit BigFrame Go.BigFrame

def strV (d : Wd) : Value := .string d.tx
theorem PW.grow {B B' : Nat} {w w' : World} {vd vs vl u : Value} {p : P3} {o : Obj} {n : Nat} {xs : List Value} (h : PW B w vd vs vl p) (hown : w.ownsRow B' 9 1 u n xs) (gr : (w.alloc o).grownBy w' u.ownBlock) : PW B w' vd vs vl p := by
  have hk : ∀ k, k < w.heap.size → u.ownBlock ≠ some k → w'.heap[k]? = w.heap[k]? := fun k hk hn => (gr.block k (Nat.lt_of_lt_of_le hk (plus_one1 w o).size) (fun e => hn e.symm)).trans (Below.heap_alloc w o k hk)
  refine ⟨owns_same h.d (fun k hv => hk k (h.d.lt k hv).2 (fun e => ?_)), owns_same h.s (fun k hv => hk k (h.s.lt k hv).2 (fun e => ?_)), owns_same h.k (fun k hv => hk k (h.k.lt k hv).2 (fun e => ?_))⟩
  · obtain ⟨_, _, hc⟩ := owns_type1 h.d hv
    obtain ⟨_, _, hc2⟩ := owns_type1 hown e
    exact types_apart1 hc hc2 (by decide) rfl
  · obtain ⟨_, _, hc⟩ := owns_type1 h.s hv
    obtain ⟨_, _, hc2⟩ := owns_type1 hown e
    exact types_apart1 hc hc2 (by decide) rfl
  · obtain ⟨_, _, hc⟩ := owns_type1 h.k hv
    obtain ⟨_, _, hc2⟩ := owns_type1 hown e
    exact types_apart1 hc hc2 (by decide) rfl
/-- The walk's state: the policy's box, the line's words. -/
structure PS (B : Nat) (wq : World) (pb : Nat) (vd vs vl u : Value) (p : P3) (T : List Wd) (wr : World) : Prop where
  bl : Below wq.heap.size wq wr
  x : BoxP pb vd vs vl wr
  pw : PW B wr vd vs vl p
  ow : wr.ownsRow wq.heap.size 9 1 u T.length (T.map strV)
theorem PS.grow {B : Nat} {wq wr w' : World} {pb : Nat} {vd vs vl u u' : Value} {p : P3} {T T' : List Wd} {o : Obj} (h : PS B wq pb vd vs vl u p T wr) (gr : (wr.alloc o).grownBy w' u.ownBlock) (hown : w'.ownsRow wq.heap.size 9 1 u' T'.length (T'.map strV)) : PS B wq pb vd vs vl u' p T' w' := by
  refine ⟨(h.bl.trans ((plus_one1 wr o).mono h.bl.size)).grown gr (Nat.le_trans h.bl.size (plus_one1 wr o).size) (fun k hk => (h.ow.lt k hk).1), ?_, h.pw.grow h.ow gr, hown⟩
  refine ((gr.block pb (Nat.lt_of_lt_of_le (lt_of_block h.x) (plus_one1 wr o).size) (fun e => ?_)).trans (Below.heap_alloc wr o pb (lt_of_block h.x))).trans h.x
  obtain ⟨_, _, hc⟩ := owns_type1 h.ow e.symm
  exact types_apart1 hc h.x (by decide) rfl
theorem PS.below {B : Nat} {wq wr w' : World} {pb : Nat} {vd vs vl u : Value} {p : P3} {T : List Wd} (h : PS B wq pb vd vs vl u p T wr) (hb : Below wr.heap.size wr w') : PS B wq pb vd vs vl u p T w' :=
  ⟨h.bl.trans (hb.mono h.bl.size), h.x.below hb, h.pw.below hb, owns_same h.ow (fun k hk => hb.block k (h.ow.lt k hk).2)⟩
theorem map_strV (T : List Wd) : T.map strV = (T.map Wd.tx).map Value.string := by rw [List.map_map]; rfl
theorem strs_one (T : List Wd) : ∀ u ∈ T.map strV, u.oneCell' = true := by
  intro u hu
  obtain ⟨d, _, rfl⟩ := List.mem_map.1 hu
  rfl
theorem run_line {f : Nat} {p : P3} {T : List Wd} {d : Wd} {R' : List Wd} (hT : ∀ x ∈ T, x.ln = d.ln) (hR : headAt R' d.ln = false) (hf : (T ++ d :: R').length ≤ f) :
    ∃ f', R'.length ≤ f' ∧ parseRun f p (T ++ d :: R') = if (lineM p ((T ++ [d]).map Wd.tx)).1 = 0 then parseRun f' (lineM p ((T ++ [d]).map Wd.tx)).2 R' else (noP, d.ln, (lineM p ((T ++ [d]).map Wd.tx)).1) := by
  obtain ⟨a, L, ha, hal⟩ : ∃ a L, T ++ d :: R' = a :: L ∧ a.ln = d.ln := by
    cases T with
    | nil => exact ⟨d, R', rfl, rfl⟩
    | cons a T => exact ⟨a, T ++ d :: R', rfl, hT a (by simp)⟩
  have hl : a :: L = (T ++ [d]) ++ R' := by rw [← ha]; simp
  obtain ⟨h1, h2, _⟩ := split_ln hl (fun x hx => by
    rcases List.mem_append.1 hx with hx | hx
    · rw [hT x hx, hal]
    · rw [List.mem_singleton] at hx
      rw [hx, hal]) (by rw [hal]; exact headAt_false hR)
  rw [List.length_append, List.length_cons] at hf
  obtain ⟨f, rfl⟩ : ∃ f', f = f' + 1 := ⟨f - 1, by omega⟩
  refine ⟨f, by omega, ?_⟩
  rw [ha, parseRun, h1, h2, hal]
set_option maxRecDepth 100000 in
set_option maxHeartbeats 64000000 in
theorem rparse_calls (s : ByteArray) (hs : s.size ≤ 140737488351232) (w : World) :
    Calls Tryd.prog 16 #[.string s] w fun e w' => ∃ vd vs vl, e = .returned (.tuple #[.agg #[vd, vs, vl], .int .i64 (parseM s).2.1, .int .i64 (parseM s).2.2]) ∧ PR w' vd vs vl (parseM s).1 ∧ Below w.heap.size w w' := by
  have HM := Lib.hid (show parseM s = if (lexM s).2.1 = 0 then endM (parseRun (lexM s).1.length noP (lexM s).1) else (noP, (lexM s).2.2.1, (lexM s).2.1) from rfl)
  have HPB := Lib.hid (show PB noP (lexM s).1 from ⟨by have := lexM_len s; simpa [noP] using this, by have := lexM_len s; simpa [noP] using this, by have := lexM_len s; simpa [noP] using this, (by intro x hx; simp [noP] at hx), lexM_sz s⟩)
  have HWO := Lib.hid (fun u : World => rwords_calls s hs u)
  have HLN := Lib.hid (lexM_len s)
  obtain ⟨⟨L, e, ln, co⟩, hl⟩ : ∃ q, lexM s = q := ⟨_, rfl⟩
  rw [hl] at HM HPB HWO HLN
  simp only at HM HPB HWO HLN
  obtain ⟨PM, hpm⟩ : ∃ PM, PM = parseM s := ⟨_, rfl⟩
  rw [← hpm] at HM ⊢
  clear hl hpm hs
  have HY1 := Lib.hid (show BoxP w.heap.size (.slice none 0 0) (.slice none 0 0) (.slice none 0 0) (w.alloc (.cells #[.slice none 0 0, .slice none 0 0, .slice none 0 0] 26)) from heap_alloc_new w _)
  have HB1 := Lib.hid (plus_one1 w (.cells #[.slice none 0 0, .slice none 0 0, .slice none 0 0] 26))
  go_enter Tryd.func16, Tryd.ntmps16
  go_upto_region 1 with (fail)
  obtain ⟨rb, hrb⟩ : ∃ rb, rb = w.heap.size := ⟨_, rfl⟩
  have HRB := Lib.hid (show w.heap.size ≤ rb by omega)
  rw [← hrb] at HY1 ⊢
  generalize w.alloc (.cells #[.slice none 0 0, .slice none 0 0, .slice none 0 0] 26) = w1 at HY1 HB1 ⊢
  clear hrb
  go_wp2_with fail
  refine (HWO.out _).mono ?_
  rintro _ w2 ⟨v, rfl, hown, hb⟩
  have HY2 := Lib.hid (HY1.out.below hb)
  have HB2 := Lib.hid (HB1.out.trans (hb.mono HB1.out.size))
  have HRL := Lib.hid (show v.ownBlock ≠ some rb from fun e => by
    obtain ⟨_, _, hc⟩ := owns_type1 hown e
    exact types_apart1 hc (HY1.out.below hb) (by decide) rfl)
  have HRW := Lib.hid (Reads.of_owns hown)
  have HSV := Lib.hid (owns_shape hown)
  clear hown hb HY1 HB1 HWO
  by_cases he : e = 0
  case neg =>
    have he2 : (e == 0) = false := by simpa using he
    have HV := Lib.hid (show PM = (noP, ln, e) by rw [HM.out, if_neg he])
    have rz0 : w2.frozen? ⟨rb, 0, none⟩ = false := blk_free HY2.out 0
    have ry0 : w2.cell? ⟨rb, 0, none⟩ = some (.slice none 0 0) := blk_cell HY2.out 0
    have rz1 : w2.frozen? ⟨rb, 1, none⟩ = false := blk_free HY2.out 1
    have ry1 : w2.cell? ⟨rb, 1, none⟩ = some (.slice none 0 0) := blk_cell HY2.out 1
    have rz2 : w2.frozen? ⟨rb, 2, none⟩ = false := blk_free HY2.out 2
    have ry2 : w2.cell? ⟨rb, 2, none⟩ = some (.slice none 0 0) := blk_cell HY2.out 2
    go_wp2_with fail
    refine bodyPost_ret (pol_ret rfl _ _ rb _ _ _ rfl (BoxP.put HY2.out _ _ _)) rfl ?_
    rw [HV.out]
    exact ⟨_, _, _, rfl, PR.empty _, below_put HB2.out HRB.out _ _ _⟩
  case pos =>
  subst he
  have HM2 := Lib.hid (show PM = endM (parseRun L.length noP L) by rw [HM.out, if_pos rfl])
  clear HM
  obtain ⟨av, cv, rfl, hv1, hv2, _⟩ := HSV.out
  obtain ⟨nL, hnL⟩ : ∃ nL, nL = L.length := ⟨_, rfl⟩
  rw [← hnL] at hv1 HRW HRL HSV ⊢
  have HNL := Lib.hid hnL
  have hn9 : nL ≤ 4097 := by rw [hnL]; exact HLN.out
  clear hnL
  have HLT := Lib.hid (show 0 < nL → ∃ lb lo, av = some ⟨lb, lo, none⟩ ∧ lb < w2.heap.size ∧ lb ≠ rb ∧ ∀ (i : Nat) (d : Wd), L[i]? = some d → w2.cell? ⟨lb, lo + i * 3, none⟩ = some (.string d.tx) ∧ w2.cell? ⟨lb, lo + i * 3 + 1, none⟩ = some (.int .i64 d.ln) from fun hp => by
    obtain ⟨_, a', c', e1, _, _, h4⟩ := HRW.out
    injection e1 with e1 _ e3
    subst e1 e3
    obtain ⟨lb, lo, rfl, _⟩ := h4 hp
    refine ⟨lb, lo, rfl, HRW.out.lt hp (by omega) lb rfl, fun e => HRL.out (by rw [e]; rfl), fun i d hd => ?_⟩
    have hi : i < nL := by rw [HNL.out]; exact (List.getElem?_eq_some_iff.1 hd).1
    exact ⟨rows_at HRW.out (fun x _ => wd_len x) hd hi (j := 0) rfl, rows_at HRW.out (fun x _ => wd_len x) hd hi (j := 1) rfl⟩)
  clear hv1 hv2 HSV HRW HRL HLN
  go_upto_block 0 with (fail)
  obtain ⟨pb, hpb⟩ : ∃ pb, pb = w2.heap.size := ⟨_, rfl⟩
  have HPQ := Lib.hid (show w2.heap.size ≤ pb by omega)
  refine name_wp (fun W5 hW5 => ?_)
  have HS5 := Lib.hid (show PS w.heap.size w2 pb (.slice none 0 0) (.slice none 0 0) (.slice none 0 0) (.slice (some ⟨pb + 1, 0, none⟩) 0 0) noP [] W5 by
    rw [hW5, hpb]
    refine ⟨(plus_one1 _ _).trans ((plus_one1 _ _).mono (plus_one1 _ _).size), BoxP.below (heap_alloc_new w2 _) (plus_one1 _ _), ⟨World.ownsRow_nil _ _ _ _, World.ownsRow_nil _ _ _ _, World.ownsRow_nil _ _ _ _⟩, owns_emptyE _ (by simp) (plus_one1 _ _).size⟩)
  rw [← hpb]
  clear hpb hW5
  go_wp2_with fail
  go_loopw [10, 11] (fun u10 u11 wr => ∃ (i f : Nat) (p : P3) (vd vs vl : Value) (T R : List Wd), u11 = .int .i64 i ∧ i ≤ nL ∧ PS w.heap.size w2 pb vd vs vl u10 p T wr ∧ R = L.drop i ∧ PB p (T ++ R) ∧ CB p ∧ parseRun L.length noP L = parseRun f p (T ++ R) ∧ (T ++ R).length ≤ f ∧ (∀ d ∈ T, headAt R d.ln = true)) (fun _ u _ => nL - (intOf u).toNat)
  case atStart => exact ⟨0, L.length, noP, _, _, _, [], L, rfl, Nat.zero_le _, HS5.out, rfl, HPB.out, (fun d hd => by simp [noP] at hd), rfl, Nat.le_refl _, (fun d hd => by cases hd)⟩
  case round =>
    clear HS5 HPB
    obtain ⟨i, f, p, vd, vs, vl, T, R, rfl, hi, hps, hR, hpbb, hcb, hrun, hf, hT⟩ := hrel
    have HS := Lib.hid hps
    have HPB := Lib.hid hpbb
    have HCB := Lib.hid hcb
    have HRU := Lib.hid hrun
    have HTT := Lib.hid hT
    have hiz : (0 : Int) ≤ (i : Int) := Int.natCast_nonneg _
    obtain ⟨ad, cd, rfl, d1, d2, _⟩ := owns_shape hps.pw.d
    obtain ⟨as', cs, rfl, s1, s2, _⟩ := owns_shape hps.pw.s
    obtain ⟨al, cl, rfl, l1, l2, _⟩ := owns_shape hps.pw.k
    clear hps hpbb hcb hrun hT d1 d2 s1 s2 l1 l2
    by_cases hc : i < nL
    case neg =>
      have hc' : ¬ (i : Int) < (nL : Int) := by omega
      have hR0 : R = [] := by rw [hR]; exact List.drop_of_length_le (by have := HNL.out; omega)
      have hT0 : T = [] := by
        cases T with
        | nil => rfl
        | cons a T => have := HTT.out a (by simp); rw [hR0] at this; cases this
      have HV := Lib.hid (show PM = endM (p, 0, 0) by rw [HM2.out, HRU.out, hR0, hT0]; cases f <;> rfl)
      have HCH := Lib.hid (fun u hu => rcheck_calls (w := u) (HS.out.pw.below hu).pr.d (HS.out.pw.below hu).pr.s (HS.out.pw.below hu).pr.k (fun x hx => Nat.le_trans (HPB.out.n x hx) (by decide)) HCB.out)
      obtain ⟨ch, hch⟩ : ∃ ch, ch = checkM p.D p.S p.K := ⟨_, rfl⟩
      rw [← hch] at HCH
      have HV2 := Lib.hid (show PM = if ch = 0 then (p, 0, 0) else (noP, 0, ch) by rw [HV.out]; unfold endM; rw [if_pos rfl, ← hch])
      clear HM2 HRU hch HV hR hR0 hT0 hf hc hi HTT
      have e0 : wr.cell? ⟨pb, 0, none⟩ = some (.slice ad p.D.length cd) := blk_cell HS.out.x 0
      have e1 : wr.cell? ⟨pb, 1, none⟩ = some (.slice as' p.S.length cs) := blk_cell HS.out.x 1
      have e2 : wr.cell? ⟨pb, 2, none⟩ = some (.slice al p.K.length cl) := blk_cell HS.out.x 2
      go_wp2_with fail
      refine (HCH.out _ (Below.refl _ _)).mono ?_
      rintro _ w5 ⟨rfl, hb5⟩
      have HX5 := Lib.hid (HS.out.x.below hb5)
      have HPW5 := Lib.hid (HS.out.pw.below hb5)
      have HB5 := Lib.hid (HS.out.bl.trans (hb5.mono HS.out.bl.size))
      have HY5 := Lib.hid (HY2.out.below HB5.out)
      clear e0 e1 e2 hb5 HCH HS
      have e0 : w5.cell? ⟨pb, 0, none⟩ = some (.slice ad p.D.length cd) := blk_cell HX5.out 0
      have e1 : w5.cell? ⟨pb, 1, none⟩ = some (.slice as' p.S.length cs) := blk_cell HX5.out 1
      have e2 : w5.cell? ⟨pb, 2, none⟩ = some (.slice al p.K.length cl) := blk_cell HX5.out 2
      have rz0 : w5.frozen? ⟨rb, 0, none⟩ = false := blk_free HY5.out 0
      have ry0 : w5.cell? ⟨rb, 0, none⟩ = some (.slice none 0 0) := blk_cell HY5.out 0
      have rz1 : w5.frozen? ⟨rb, 1, none⟩ = false := blk_free HY5.out 1
      have ry1 : w5.cell? ⟨rb, 1, none⟩ = some (.slice none 0 0) := blk_cell HY5.out 1
      have rz2 : w5.frozen? ⟨rb, 2, none⟩ = false := blk_free HY5.out 2
      have ry2 : w5.cell? ⟨rb, 2, none⟩ = some (.slice none 0 0) := blk_cell HY5.out 2
      by_cases hz : ch = 0
      · subst hz
        have HV := Lib.hid (show PM = (p, 0, 0) by rw [HV2.out, if_pos rfl])
        clear HV2
        go_wp2_with fail
        refine bodyPost_ret (pol_ret rfl _ _ rb _ _ _ rfl (BoxP.put HY5.out _ _ _)) rfl ?_
        rw [HV.out]
        exact ⟨_, _, _, rfl, (HPW5.out.put HY5.out _ _ _).pr, below_put (HB2.out.trans (HB5.out.mono HB2.out.size)) HRB.out _ _ _⟩
      · have hz2 : (ch == 0) = false := by simpa using hz
        have HV := Lib.hid (show PM = (noP, 0, ch) by rw [HV2.out, if_neg hz])
        clear HV2
        go_wp2_with fail
        refine bodyPost_ret (pol_ret rfl _ _ rb _ _ _ rfl (BoxP.put HY5.out _ _ _)) rfl ?_
        rw [HV.out]
        exact ⟨_, _, _, rfl, PR.empty _, below_put (HB2.out.trans (HB5.out.mono HB2.out.size)) HRB.out _ _ _⟩
    case pos =>
    have hc' : (i : Int) < (nL : Int) := by omega
    obtain ⟨d, hd⟩ : ∃ d, L[i]? = some d := ⟨_, List.getElem?_eq_getElem (by have := HNL.out; omega)⟩
    obtain ⟨lb, lo, rfl, hlb, hlr, hcells⟩ := HLT.out (by omega)
    have HLB := Lib.hid hlr
    have HLC := Lib.hid hcells
    have HLQ := Lib.hid hlb
    have k0 : wr.cell? ⟨lb, lo + i * 3, none⟩ = some (.string d.tx) := below_cell1 HS.out.bl hlb (hcells i d hd).1
    obtain ⟨R', hR'⟩ : ∃ R', R' = L.drop (i + 1) := ⟨_, rfl⟩
    have hRR : R = d :: R' := by
      rw [hR, hR']
      have hlt := (List.getElem?_eq_some_iff.1 hd).1
      rw [List.drop_eq_getElem_cons hlt]
      congr 1
      have := (List.getElem?_eq_some_iff.1 hd).2
      exact this
    subst hRR
    obtain ⟨i0, hi0, hz0, hz1, hz2⟩ := info_parts Tryd.info_str
    have HI0 := Lib.hid hi0
    have htl : T.length ≤ 4097 := by
      have h1 := HPB.out.d
      rw [List.length_append] at h1
      omega
    have hbs := HS.out.bl.size
    clear hi0 hcells hlr hlb
    obtain ⟨e, hee⟩ : ∃ e : Nat, e = i + 1 := ⟨_, rfl⟩
    have he1 : (i : Int) + 1 = (e : Int) := by omega
    have HE := Lib.hid hee
    go_wp2_with (at_builtin; go_loud (refine wpList_append_from rfl (.tmp 33) (.tmp 39) 62 rfl w2.heap.size 9 i0 (.string ByteArray.empty) 1 16 Tryd.underlying62 HI0.out hz0 hz1 hz2 rfl (by decide) u10 T.length (T.map strV) rfl (HS.out.ow.alloc _) (.slice (some ⟨wr.heap.size, 0, none⟩) 1 1) 1 ([d].map strV) rfl (row_one _ ([d].map strV) _ rfl (by decide)) (.inr ⟨_, _, _, _, rfl⟩) (strs_one _) (by unfold maxLen; omega) (by omega) (Nat.le_trans hbs (plus_one1 _ _).size) ?_))
    intro v4 w4 own4 gr4 at4
    have HS4 := Lib.hid (HS.out.grow (T' := T ++ [d]) (u' := v4) gr4 (by rw [List.length_append, List.map_append]; simpa using own4))
    clear own4 gr4 at4 HS k0 hbs HI0 hz0 hz1 hz2
    have q1 : w4.cell? ⟨lb, lo + i * 3 + 1, none⟩ = some (.int .i64 d.ln) := below_cell1 HS4.out.bl HLQ.out (HLC.out i d hd).2
    have HD := Lib.hid hd
    have HRE := Lib.hid hR'
    clear hd hR' hR hee
    have k1 : ∀ t : BW w4, t.at_.cell? ⟨lb, lo + i * 3 + 1, none⟩ = some (.int .i64 d.ln) := fun t => below_cell1 (HS4.out.bl.trans (t.ok.mono HS4.out.bl.size)) HLQ.out (HLC.out i d HD.out).2
    by_cases hh : headAt R' d.ln = true
    · obtain ⟨d2, R2, hr2, hln⟩ := headAt_true hh
      have hd2 : L[e]? = some d2 := by
        have h1 : (L.drop (i + 1))[0]? = some d2 := by rw [← HRE.out, hr2]; rfl
        rw [List.getElem?_drop] at h1
        rw [HE.out]
        exact h1
      have hen : e < nL := by rw [HNL.out]; exact (List.getElem?_eq_some_iff.1 hd2).1
      have hen1 : ¬ (e : Int) = (nL : Int) := by omega
      have hen2 : (e : Int) < (nL : Int) := by omega
      have hez : (0 : Int) ≤ (e : Int) := Int.natCast_nonneg _
      have hen3 : ((e : Int) == (nL : Int)) = false := by rw [beq_eq_false_iff_ne]; omega
      have k2 : ∀ t : BW w4, t.at_.cell? ⟨lb, lo + e * 3 + 1, none⟩ = some (.int .i64 d.ln) := fun t => by rw [← hln]; exact below_cell1 (HS4.out.bl.trans (t.ok.mono HS4.out.bl.size)) HLQ.out (HLC.out e d2 hd2).2
      have HHH := Lib.hid hh
      clear hd2 hr2 hln hh
      go_wp2_with fail
      refine wp_region_quiet_bw (by kernel_rfl) (by kernel_rfl) ?_
      repeat (go_big_quiet_step (fail))
      refine wpQuiet_nil ?_
      intro _ hw'
      obtain ⟨tq, rfl⟩ := hw'
      have HS6 := Lib.hid (HS4.out.below tq.ok)
      obtain ⟨W6, hW6⟩ : ∃ W6, W6 = tq.at_ := ⟨_, rfl⟩
      rw [← hW6] at HS6 ⊢
      clear hW6 HS4 k1 k2 q1
      go_wp2_with fail
      go_roundw
      case rel => exact ⟨e, f, p, _, _, _, T ++ [d], R', rfl, by have := HE.out; omega, HS6.out, by rw [HE.out]; exact HRE.out, by rw [List.append_assoc]; exact HPB.out, HCB.out, by rw [List.append_assoc]; exact HRU.out, by rw [List.append_assoc]; exact hf, (fun x hx => by
        rcases List.mem_append.1 hx with hx | hx
        · have h1 : d.ln = x.ln := of_decide_eq_true (HTT.out x hx)
          rw [← h1]; exact HHH.out
        · rw [List.mem_singleton] at hx
          rw [hx]; exact HHH.out)⟩
      case measure => have := HE.out; simp [intOf] <;> omega
    · have hh' : headAt R' d.ln = false := by simpa using hh
      obtain ⟨f', hf', hrl⟩ := run_line (f := f) (p := p) (T := T) (d := d) (R' := R') (fun x hx => (of_decide_eq_true (HTT.out x hx)).symm) hh' hf
      have HRUN := Lib.hid (HRU.out.trans hrl)
      have HFF := Lib.hid hf'
      have HPB2 := Lib.hid (HPB.out.step (T := T ++ [d]) (R := R') (by simp) (by simp))
      have HCB2 := Lib.hid (HCB.out.step ((T ++ [d]).map Wd.tx))
      have hpd := HPB.out.d
      have hps := HPB.out.s
      have hpk := HPB.out.k
      have HONE := Lib.hid (fun (u : World) (hu : Below w4.heap.size w4 u) => rline_calls (B := w.heap.size) (w := u) (W := (T ++ [d]).map Wd.tx) (n := (T ++ [d]).length) (HS4.out.below hu).pw (Nat.le_trans (Nat.le_trans HB2.out.size HS4.out.bl.size) hu.size) (by rw [← map_strV]; exact Reads.of_owns (HS4.out.below hu).ow) (by simp) (fun x hx => by
        obtain ⟨y, hy, rfl⟩ := List.mem_map.1 hx
        refine Nat.le_trans (HPB.out.t y ?_) (by decide)
        rcases List.mem_append.1 hy with hy | hy
        · exact List.mem_append.2 (.inl hy)
        · exact List.mem_append.2 (.inr (by rw [List.mem_singleton] at hy; rw [hy]; exact List.mem_cons_self))) (by omega) (by omega) (by omega))
      obtain ⟨⟨er, p2⟩, hq⟩ : ∃ q, lineM p ((T ++ [d]).map Wd.tx) = q := ⟨_, rfl⟩
      rw [hq] at HRUN HONE HPB2 HCB2
      simp only at HRUN HONE HPB2 HCB2
      clear hq hf' hrl hpd hps hpk hf HRU HTT
      have hR2 := headAt_false hh'
      clear hh hh'
      rcases hR2 with hr0 | ⟨d2, R2, hr2, hln⟩
      · have hen : e = nL := by
          have h1 := congrArg List.length HRE.out
          rw [hr0, List.length_drop, List.length_nil] at h1
          have := HNL.out
          have := HE.out
          omega
        subst hen
        clear hr0
        go_wp2_with fail
        refine wp_region_quiet_bw (by kernel_rfl) (by kernel_rfl) ?_
        repeat (go_big_quiet_step (fail))
        refine wpQuiet_nil ?_
        intro _ hw'
        obtain ⟨tq, rfl⟩ := hw'
        have HB6 := Lib.hid tq.ok
        obtain ⟨W6, hW6⟩ : ∃ W6, W6 = tq.at_ := ⟨_, rfl⟩
        rw [← hW6] at HB6 ⊢
        have HX6 := Lib.hid (HS4.out.x.below HB6.out)
        have HBQ6 := Lib.hid (HS4.out.bl.trans (HB6.out.mono HS4.out.bl.size))
        clear hW6 k1 q1
        have g0 : W6.cell? ⟨pb, 0, none⟩ = some (.slice ad p.D.length cd) := blk_cell HX6.out 0
        have g1 : W6.cell? ⟨pb, 1, none⟩ = some (.slice as' p.S.length cs) := blk_cell HX6.out 1
        have g2 : W6.cell? ⟨pb, 2, none⟩ = some (.slice al p.K.length cl) := blk_cell HX6.out 2
        go_wp2_with fail
        refine (HONE.out _ HB6.out).mono ?_
        rintro _ w6 ⟨vd6, vs6, vl6, rfl, hpw6, hb6⟩
        obtain ⟨ad6, cd6, rfl, _, _, _⟩ := owns_shape hpw6.d
        obtain ⟨as6, cs6, rfl, _, _, _⟩ := owns_shape hpw6.s
        obtain ⟨al6, cl6, rfl, _, _, _⟩ := owns_shape hpw6.k
        have HX7 := Lib.hid (HX6.out.below hb6)
        have HBQ7 := Lib.hid (HBQ6.out.trans (hb6.mono HBQ6.out.size))
        have HPW7 := Lib.hid hpw6
        clear g0 g1 g2 hb6 hpw6 HX6 HBQ6 HONE HB6
        have m0 : w6.cell? ⟨pb, 0, none⟩ = some (.slice ad p.D.length cd) := blk_cell HX7.out 0
        have m1 : w6.cell? ⟨pb, 1, none⟩ = some (.slice as' p.S.length cs) := blk_cell HX7.out 1
        have m2 : w6.cell? ⟨pb, 2, none⟩ = some (.slice al p.K.length cl) := blk_cell HX7.out 2
        have z0 : w6.frozen? ⟨pb, 0, none⟩ = false := blk_free HX7.out 0
        have z1 : w6.frozen? ⟨pb, 1, none⟩ = false := blk_free HX7.out 1
        have z2 : w6.frozen? ⟨pb, 2, none⟩ = false := blk_free HX7.out 2
        go_upto_region 12 with (fail)
        have HX8 := Lib.hid (HX7.out.put (.slice ad6 p2.D.length cd6) (.slice as6 p2.S.length cs6) (.slice al6 p2.K.length cl6))
        have HPW8 := Lib.hid (HPW7.out.put HX7.out (.slice ad6 p2.D.length cd6) (.slice as6 p2.S.length cs6) (.slice al6 p2.K.length cl6))
        have HBQ8 := Lib.hid (below_put HBQ7.out HPQ.out (.slice ad6 p2.D.length cd6) (.slice as6 p2.S.length cs6) (.slice al6 p2.K.length cl6))
        clear m0 m1 m2 z0 z1 z2 HX7 HPW7 HBQ7
        generalize ((w6.setCell ⟨pb, 0, none⟩ (.slice ad6 p2.D.length cd6)).setCell ⟨pb, 1, none⟩ (.slice as6 p2.S.length cs6)).setCell ⟨pb, 2, none⟩ (.slice al6 p2.K.length cl6) = wl at HX8 HPW8 HBQ8 ⊢
        by_cases hz : er = 0
        · have HR3 := Lib.hid (show parseRun L.length noP L = parseRun f' p2 R' by rw [HRUN.out, if_pos hz])
          subst hz
          clear HRUN
          go_wp2_with fail
          go_roundw
          case rel => exact ⟨e, f', p2, _, _, _, [], R', rfl, by first | exact Nat.le_refl _ | (have := HE.out; omega), ⟨HBQ8.out.trans ((plus_one1 wl _).mono HBQ8.out.size), HX8.out.below (plus_one1 wl _), HPW8.out.below (plus_one1 wl _), owns_emptyK wl HBQ8.out.size⟩, by rw [HE.out]; exact HRE.out, HPB2.out, HCB2.out, HR3.out, HFF.out, (fun x hx => by cases hx)⟩
          case measure => have := HE.out; simp [intOf] <;> omega
        · have hz2 : (er == 0) = false := by simpa using hz
          have HV := Lib.hid (show PM = (noP, d.ln, er) by rw [HM2.out, HRUN.out, if_neg hz]; unfold endM; rw [if_neg hz])
          have HYL := Lib.hid (HY2.out.below HBQ8.out)
          have HBL := Lib.hid (HB2.out.trans (HBQ8.out.mono HB2.out.size))
          have q1 : wl.cell? ⟨lb, lo + i * 3 + 1, none⟩ = some (.int .i64 d.ln) := below_cell1 HBQ8.out HLQ.out (HLC.out i d HD.out).2
          clear HM2 HRUN
          go_wp2_with fail
          refine wp_region_W 10 9 (fun w' : World => ∀ k, k ≠ rb → w'.heap[k]? = wl.heap[k]?) (by kernel_rfl) (by kernel_rfl) (fun _ _ => rfl) (fun hT => ?_)
          refine wpAnyW_take (i := 0) (some 68) rfl rfl (by kernel_rfl) (by kernel_rfl) (by kernel_rfl) (by kernel_rfl) (fun _ _ _ h => h) (v := ?_) (.inl ⟨by rfl, ?_⟩) (.inr hT) ?_
          rotate_left
          · (intro wT _; go_simp <;> with_reducible rfl)
          simp only [Act.put, List.setIfInBounds_toArray, List.set_cons_zero, List.set_cons_succ]
          refine wpAnyW_take (i := 1) (some 69) rfl rfl (by kernel_rfl) (by kernel_rfl) (by kernel_rfl) (by kernel_rfl) (fun _ _ _ h => h) (v := ?_) (.inl ⟨by rfl, ?_⟩) (.inr hT) ?_
          rotate_left
          · (intro wT _; go_simp <;> with_reducible rfl)
          simp only [Act.put, List.setIfInBounds_toArray, List.set_cons_zero, List.set_cons_succ]
          refine wpAnyW_take (i := 2) (some 70) rfl rfl (by kernel_rfl) (by kernel_rfl) (by kernel_rfl) (by kernel_rfl) (fun _ _ _ h => h) (v := ?_) (.inl ⟨by rfl, ?_⟩) (.inr hT) ?_
          rotate_left
          · (intro wT _; go_simp <;> with_reducible rfl)
          simp only [Act.put, List.setIfInBounds_toArray, List.set_cons_zero, List.set_cons_succ]
          refine wpAnyW_take (i := 3) (some 71) rfl rfl (by kernel_rfl) (by kernel_rfl) (by kernel_rfl) (by kernel_rfl) (fun _ _ _ h => h) (v := ?_) (.inl ⟨by rfl, ?_⟩) (.inr hT) ?_
          rotate_left
          · (intro wT _; go_simp <;> with_reducible rfl)
          simp only [Act.put, List.setIfInBounds_toArray, List.set_cons_zero, List.set_cons_succ]
          refine wpAnyW_take (i := 4) (some 72) rfl rfl (by kernel_rfl) (by kernel_rfl) (by kernel_rfl) (by kernel_rfl) (fun _ _ _ h => h) (v := ?_) (.inl ⟨by rfl, ?_⟩) (.inr hT) ?_
          rotate_left
          · (intro wT _; go_simp <;> with_reducible rfl)
          simp only [Act.put, List.setIfInBounds_toArray, List.set_cons_zero, List.set_cons_succ]
          refine wpAnyW_load (i := 5) (some 73) rfl rfl (by kernel_rfl) (by kernel_rfl) (by kernel_rfl) (by kernel_rfl) (by kernel_rfl) (fun _ _ _ h => h) (v := ?_) (.inl ⟨by rfl, ?_⟩) hT ?_
          rotate_left
          · (intro wT hT; try dsimp only at hT); (have t0 : wT.cell? ⟨lb, lo + i * 3 + 1, none⟩ = some (.int .i64 d.ln) := (World.cell?_of_block (hT lb HLB.out)).trans q1); clear hT; (go_simp <;> with_reducible rfl)
          simp only [Act.put, List.setIfInBounds_toArray, List.set_cons_zero, List.set_cons_succ]
          refine wpAnyW_take (i := 6) (some 74) rfl rfl (by kernel_rfl) (by kernel_rfl) (by kernel_rfl) (by kernel_rfl) (fun _ _ _ h => h) (v := ?_) (.inl ⟨by rfl, ?_⟩) (.inr hT) ?_
          rotate_left
          · (intro wT _; go_simp <;> with_reducible rfl)
          simp only [Act.put, List.setIfInBounds_toArray, List.set_cons_zero, List.set_cons_succ]
          refine wpAnyW_one (i := 7) (by kernel_rfl) rfl (fun K hK => ?_)
          have z0 : wl.frozen? ⟨rb, 0, none⟩ = false := blk_free HYL.out 0
          have z1 : wl.frozen? ⟨rb, 1, none⟩ = false := blk_free HYL.out 1
          have z2 : wl.frozen? ⟨rb, 2, none⟩ = false := blk_free HYL.out 2
          have y0 : wl.cell? ⟨rb, 0, none⟩ = some (.slice none 0 0) := blk_cell HYL.out 0
          have y1 : wl.cell? ⟨rb, 1, none⟩ = some (.slice none 0 0) := blk_cell HYL.out 1
          have y2 : wl.cell? ⟨rb, 2, none⟩ = some (.slice none 0 0) := blk_cell HYL.out 2
          go_simp
          refine step_owe hK ?_ (fun hT => ?_)
          · exact fun k hk => (heap_setCell_other _ _ _ _ hk).trans ((heap_setCell_other _ _ _ _ hk).trans ((heap_setCell_other _ _ _ _ hk).trans (hT k hk)))
          clear hK K
          refine wpAnyW_take (i := 8) (some 3) rfl rfl (by kernel_rfl) (by kernel_rfl) (by kernel_rfl) (by kernel_rfl) (fun _ _ _ h => h) (v := ?_) (.inl ⟨by rfl, ?_⟩) (.inr hT) ?_
          rotate_left
          · (intro wT _; go_simp <;> with_reducible rfl)
          simp only [Act.put, List.setIfInBounds_toArray, List.set_cons_zero, List.set_cons_succ]
          refine wpAnyW_one (i := 9) (by kernel_rfl) rfl (fun K hK => ?_)
          go_simp
          refine step_paid hK (by kernel_rfl) ?_
          clear hK K
          refine wpAnyW_done (by kernel_rfl) ?_
          go_wp2_with fail
          refine bodyPost_ret (pol_ret rfl _ _ rb _ _ _ rfl (BoxP.put HYL.out _ _ _)) rfl ?_
          rw [HV.out]
          exact ⟨_, _, _, rfl, PR.empty _, (below_put HBL.out HRB.out _ _ _).drew⟩
      · have hd2 : L[e]? = some d2 := by
          have h1 : (L.drop (i + 1))[0]? = some d2 := by rw [← HRE.out, hr2]; rfl
          rw [List.getElem?_drop] at h1
          rw [HE.out]
          exact h1
        have hen : e < nL := by rw [HNL.out]; exact (List.getElem?_eq_some_iff.1 hd2).1
        have hen1 : ¬ (e : Int) = (nL : Int) := by omega
        have hen2 : (e : Int) < (nL : Int) := by omega
        have hez : (0 : Int) ≤ (e : Int) := Int.natCast_nonneg _
        have hen3 : ((e : Int) == (nL : Int)) = false := by rw [beq_eq_false_iff_ne]; omega
        obtain ⟨l2, hl2⟩ : ∃ l2, l2 = d2.ln := ⟨_, rfl⟩
        have k2 : ∀ t : BW w4, t.at_.cell? ⟨lb, lo + e * 3 + 1, none⟩ = some (.int .i64 l2) := fun t => by rw [hl2]; exact below_cell1 (HS4.out.bl.trans (t.ok.mono HS4.out.bl.size)) HLQ.out (HLC.out e d2 hd2).2
        have hl3 : (l2 == d.ln) = false := by rw [hl2]; simpa using hln
        clear hd2 hr2 hln hl2
        go_wp2_with fail
        refine wp_region_quiet_bw (by kernel_rfl) (by kernel_rfl) ?_
        repeat (go_big_quiet_step (fail))
        refine wpQuiet_nil ?_
        intro _ hw'
        obtain ⟨tq, rfl⟩ := hw'
        have HB6 := Lib.hid tq.ok
        obtain ⟨W6, hW6⟩ : ∃ W6, W6 = tq.at_ := ⟨_, rfl⟩
        rw [← hW6] at HB6 ⊢
        have HX6 := Lib.hid (HS4.out.x.below HB6.out)
        have HBQ6 := Lib.hid (HS4.out.bl.trans (HB6.out.mono HS4.out.bl.size))
        clear hW6 k1 q1
        have g0 : W6.cell? ⟨pb, 0, none⟩ = some (.slice ad p.D.length cd) := blk_cell HX6.out 0
        have g1 : W6.cell? ⟨pb, 1, none⟩ = some (.slice as' p.S.length cs) := blk_cell HX6.out 1
        have g2 : W6.cell? ⟨pb, 2, none⟩ = some (.slice al p.K.length cl) := blk_cell HX6.out 2
        go_wp2_with fail
        refine (HONE.out _ HB6.out).mono ?_
        rintro _ w6 ⟨vd6, vs6, vl6, rfl, hpw6, hb6⟩
        obtain ⟨ad6, cd6, rfl, _, _, _⟩ := owns_shape hpw6.d
        obtain ⟨as6, cs6, rfl, _, _, _⟩ := owns_shape hpw6.s
        obtain ⟨al6, cl6, rfl, _, _, _⟩ := owns_shape hpw6.k
        have HX7 := Lib.hid (HX6.out.below hb6)
        have HBQ7 := Lib.hid (HBQ6.out.trans (hb6.mono HBQ6.out.size))
        have HPW7 := Lib.hid hpw6
        clear g0 g1 g2 hb6 hpw6 HX6 HBQ6 HONE HB6
        have m0 : w6.cell? ⟨pb, 0, none⟩ = some (.slice ad p.D.length cd) := blk_cell HX7.out 0
        have m1 : w6.cell? ⟨pb, 1, none⟩ = some (.slice as' p.S.length cs) := blk_cell HX7.out 1
        have m2 : w6.cell? ⟨pb, 2, none⟩ = some (.slice al p.K.length cl) := blk_cell HX7.out 2
        have z0 : w6.frozen? ⟨pb, 0, none⟩ = false := blk_free HX7.out 0
        have z1 : w6.frozen? ⟨pb, 1, none⟩ = false := blk_free HX7.out 1
        have z2 : w6.frozen? ⟨pb, 2, none⟩ = false := blk_free HX7.out 2
        go_upto_region 12 with (fail)
        have HX8 := Lib.hid (HX7.out.put (.slice ad6 p2.D.length cd6) (.slice as6 p2.S.length cs6) (.slice al6 p2.K.length cl6))
        have HPW8 := Lib.hid (HPW7.out.put HX7.out (.slice ad6 p2.D.length cd6) (.slice as6 p2.S.length cs6) (.slice al6 p2.K.length cl6))
        have HBQ8 := Lib.hid (below_put HBQ7.out HPQ.out (.slice ad6 p2.D.length cd6) (.slice as6 p2.S.length cs6) (.slice al6 p2.K.length cl6))
        clear m0 m1 m2 z0 z1 z2 HX7 HPW7 HBQ7
        generalize ((w6.setCell ⟨pb, 0, none⟩ (.slice ad6 p2.D.length cd6)).setCell ⟨pb, 1, none⟩ (.slice as6 p2.S.length cs6)).setCell ⟨pb, 2, none⟩ (.slice al6 p2.K.length cl6) = wl at HX8 HPW8 HBQ8 ⊢
        by_cases hz : er = 0
        · have HR3 := Lib.hid (show parseRun L.length noP L = parseRun f' p2 R' by rw [HRUN.out, if_pos hz])
          subst hz
          clear HRUN
          go_wp2_with fail
          go_roundw
          case rel => exact ⟨e, f', p2, _, _, _, [], R', rfl, by first | exact Nat.le_refl _ | (have := HE.out; omega), ⟨HBQ8.out.trans ((plus_one1 wl _).mono HBQ8.out.size), HX8.out.below (plus_one1 wl _), HPW8.out.below (plus_one1 wl _), owns_emptyK wl HBQ8.out.size⟩, by rw [HE.out]; exact HRE.out, HPB2.out, HCB2.out, HR3.out, HFF.out, (fun x hx => by cases hx)⟩
          case measure => have := HE.out; simp [intOf] <;> omega
        · have hz2 : (er == 0) = false := by simpa using hz
          have HV := Lib.hid (show PM = (noP, d.ln, er) by rw [HM2.out, HRUN.out, if_neg hz]; unfold endM; rw [if_neg hz])
          have HYL := Lib.hid (HY2.out.below HBQ8.out)
          have HBL := Lib.hid (HB2.out.trans (HBQ8.out.mono HB2.out.size))
          have q1 : wl.cell? ⟨lb, lo + i * 3 + 1, none⟩ = some (.int .i64 d.ln) := below_cell1 HBQ8.out HLQ.out (HLC.out i d HD.out).2
          clear HM2 HRUN
          go_wp2_with fail
          refine wp_region_W 10 9 (fun w' : World => ∀ k, k ≠ rb → w'.heap[k]? = wl.heap[k]?) (by kernel_rfl) (by kernel_rfl) (fun _ _ => rfl) (fun hT => ?_)
          refine wpAnyW_take (i := 0) (some 68) rfl rfl (by kernel_rfl) (by kernel_rfl) (by kernel_rfl) (by kernel_rfl) (fun _ _ _ h => h) (v := ?_) (.inl ⟨by rfl, ?_⟩) (.inr hT) ?_
          rotate_left
          · (intro wT _; go_simp <;> with_reducible rfl)
          simp only [Act.put, List.setIfInBounds_toArray, List.set_cons_zero, List.set_cons_succ]
          refine wpAnyW_take (i := 1) (some 69) rfl rfl (by kernel_rfl) (by kernel_rfl) (by kernel_rfl) (by kernel_rfl) (fun _ _ _ h => h) (v := ?_) (.inl ⟨by rfl, ?_⟩) (.inr hT) ?_
          rotate_left
          · (intro wT _; go_simp <;> with_reducible rfl)
          simp only [Act.put, List.setIfInBounds_toArray, List.set_cons_zero, List.set_cons_succ]
          refine wpAnyW_take (i := 2) (some 70) rfl rfl (by kernel_rfl) (by kernel_rfl) (by kernel_rfl) (by kernel_rfl) (fun _ _ _ h => h) (v := ?_) (.inl ⟨by rfl, ?_⟩) (.inr hT) ?_
          rotate_left
          · (intro wT _; go_simp <;> with_reducible rfl)
          simp only [Act.put, List.setIfInBounds_toArray, List.set_cons_zero, List.set_cons_succ]
          refine wpAnyW_take (i := 3) (some 71) rfl rfl (by kernel_rfl) (by kernel_rfl) (by kernel_rfl) (by kernel_rfl) (fun _ _ _ h => h) (v := ?_) (.inl ⟨by rfl, ?_⟩) (.inr hT) ?_
          rotate_left
          · (intro wT _; go_simp <;> with_reducible rfl)
          simp only [Act.put, List.setIfInBounds_toArray, List.set_cons_zero, List.set_cons_succ]
          refine wpAnyW_take (i := 4) (some 72) rfl rfl (by kernel_rfl) (by kernel_rfl) (by kernel_rfl) (by kernel_rfl) (fun _ _ _ h => h) (v := ?_) (.inl ⟨by rfl, ?_⟩) (.inr hT) ?_
          rotate_left
          · (intro wT _; go_simp <;> with_reducible rfl)
          simp only [Act.put, List.setIfInBounds_toArray, List.set_cons_zero, List.set_cons_succ]
          refine wpAnyW_load (i := 5) (some 73) rfl rfl (by kernel_rfl) (by kernel_rfl) (by kernel_rfl) (by kernel_rfl) (by kernel_rfl) (fun _ _ _ h => h) (v := ?_) (.inl ⟨by rfl, ?_⟩) hT ?_
          rotate_left
          · (intro wT hT; try dsimp only at hT); (have t0 : wT.cell? ⟨lb, lo + i * 3 + 1, none⟩ = some (.int .i64 d.ln) := (World.cell?_of_block (hT lb HLB.out)).trans q1); clear hT; (go_simp <;> with_reducible rfl)
          simp only [Act.put, List.setIfInBounds_toArray, List.set_cons_zero, List.set_cons_succ]
          refine wpAnyW_take (i := 6) (some 74) rfl rfl (by kernel_rfl) (by kernel_rfl) (by kernel_rfl) (by kernel_rfl) (fun _ _ _ h => h) (v := ?_) (.inl ⟨by rfl, ?_⟩) (.inr hT) ?_
          rotate_left
          · (intro wT _; go_simp <;> with_reducible rfl)
          simp only [Act.put, List.setIfInBounds_toArray, List.set_cons_zero, List.set_cons_succ]
          refine wpAnyW_one (i := 7) (by kernel_rfl) rfl (fun K hK => ?_)
          have z0 : wl.frozen? ⟨rb, 0, none⟩ = false := blk_free HYL.out 0
          have z1 : wl.frozen? ⟨rb, 1, none⟩ = false := blk_free HYL.out 1
          have z2 : wl.frozen? ⟨rb, 2, none⟩ = false := blk_free HYL.out 2
          have y0 : wl.cell? ⟨rb, 0, none⟩ = some (.slice none 0 0) := blk_cell HYL.out 0
          have y1 : wl.cell? ⟨rb, 1, none⟩ = some (.slice none 0 0) := blk_cell HYL.out 1
          have y2 : wl.cell? ⟨rb, 2, none⟩ = some (.slice none 0 0) := blk_cell HYL.out 2
          go_simp
          refine step_owe hK ?_ (fun hT => ?_)
          · exact fun k hk => (heap_setCell_other _ _ _ _ hk).trans ((heap_setCell_other _ _ _ _ hk).trans ((heap_setCell_other _ _ _ _ hk).trans (hT k hk)))
          clear hK K
          refine wpAnyW_take (i := 8) (some 3) rfl rfl (by kernel_rfl) (by kernel_rfl) (by kernel_rfl) (by kernel_rfl) (fun _ _ _ h => h) (v := ?_) (.inl ⟨by rfl, ?_⟩) (.inr hT) ?_
          rotate_left
          · (intro wT _; go_simp <;> with_reducible rfl)
          simp only [Act.put, List.setIfInBounds_toArray, List.set_cons_zero, List.set_cons_succ]
          refine wpAnyW_one (i := 9) (by kernel_rfl) rfl (fun K hK => ?_)
          go_simp
          refine step_paid hK (by kernel_rfl) ?_
          clear hK K
          refine wpAnyW_done (by kernel_rfl) ?_
          go_wp2_with fail
          refine bodyPost_ret (pol_ret rfl _ _ rb _ _ _ rfl (BoxP.put HYL.out _ _ _)) rfl ?_
          rw [HV.out]
          exact ⟨_, _, _, rfl, PR.empty _, (below_put HBL.out HRB.out _ _ _).drew⟩
end Go.Proofs.YtkjhgfjlknbdkaaDoor
