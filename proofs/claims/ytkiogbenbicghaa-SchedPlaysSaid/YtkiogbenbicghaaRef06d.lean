/- What the document's arena does on Free. Condition: it lies in memory (IsRf). -/
import Derived.Test.YtkiogbenbicghaaRef06c
import Derived.Laws.AppendOwnNone
namespace Go.Proofs.Ytkiogbenbicghaa
open Go.RowKit

theorem findFrom_range (l : List Int) (h : Int) : -1 ≤ findFrom l h 0 ∧ (0 ≤ findFrom l h 0 → findFrom l h 0 < l.length ∧ l[(findFrom l h 0).toNat]? = some h ∧ 0 < h) := by
  unfold findFrom
  by_cases h0 : 0 < h
  · rw [if_pos h0, List.drop_zero]
    cases hf : l.findIdx? (fun x => x == h) with
    | none => simp
    | some j =>
      obtain ⟨hj, hp, _⟩ := List.findIdx?_eq_some_iff_getElem.1 hf
      simp only [Nat.zero_add, Int.toNat_natCast]
      refine ⟨by omega, fun _ => ⟨by omega, ?_, h0⟩⟩
      rw [List.getElem?_eq_getElem hj]
      simp at hp
      rw [hp]
  · rw [if_neg h0]; omega

set_option maxHeartbeats 8000000 in
set_option maxRecDepth 100000 in
theorem rfree_calls {w : World} {g : Nat} {R : Rf} {vs : List Value} (hR : IsRf w g R vs) (h : Int) (hg : ∀ (x : Nat) (y : Int), 0 < h → R.now[x]? = some h → R.gens[x]? = some y → y ≤ 255) (hbk : 0 ≤ findFrom R.now h 0 → R.back.length < 16) :
    Calls Try.prog 62 #[.pointer (some ⟨g, 0, none⟩), .int .i64 h] w fun e w' => e = .returned (.bool (R.free h).1) ∧ After w g R vs w' (R.free h).2 := by
  have hR0 := hR
  have hrng := findFrom_range R.now h
  have hc := rplace_calls hR h
  obtain ⟨r, hr⟩ : ∃ r, r = findFrom R.now h 0 := ⟨_, rfl⟩
  rw [← hr] at hc hrng
  by_cases hneg : r < 0
  · have HT := Lib.hid (show R.free h = (false, R) by simp only [Rf.free, ← hr]; rw [if_pos hneg])
    have HC := Lib.hid hc
    clear hc hrng hr
    go_enter Try.func62, Try.ntmps62
    go_wp2_with fail
    refine HC.out.mono ?_
    rintro e w' ⟨rfl, rfl⟩
    go_wp2
    go_ret
    rw [HT.out]
    exact ⟨rfl, _, hR0, fun k hk => .inl hk, Ext.refl _ _⟩
  obtain ⟨x, rfl⟩ := Int.eq_ofNat_of_zero_le (a := r) (by omega)
  obtain ⟨a0, q0, a1, q1, a2, q2, rfl, p0, p1, p2, p3⟩ := hR.open
  obtain ⟨ok, ho⟩ := hR
  have hxl2 : x < R.now.length := by have := (hrng.2 (by omega)).1; omega
  have hxl : x < R.gens.length := by rw [← ok.same]; exact hxl2
  have hr0 := ho.row 0 _ rfl rfl
  have hr1 := ho.row 1 _ rfl rfl
  have hr2 := ho.row 2 _ rfl rfl
  obtain ⟨b0, rfl⟩ : ∃ b, a0 = some ⟨b, 0, none⟩ := by
    obtain ⟨a1, c1, he, _, _, h3⟩ := owns_shape hr0
    injection he with he _ _
    rw [he]
    exact h3 (by omega)
  obtain ⟨b1, rfl⟩ : ∃ b, a1 = some ⟨b, 0, none⟩ := by
    obtain ⟨a1, c1, he, _, _, h3⟩ := owns_shape hr1
    injection he with he _ _
    rw [he]
    exact h3 (by omega)
  obtain ⟨gx, hgx⟩ : ∃ y, R.gens[x]? = some y := ⟨_, List.getElem?_eq_getElem hxl⟩
  have g0 := ok.gen0 gx (List.mem_of_getElem? hgx)
  have hnx : R.now[x]? = some h := by have := (hrng.2 (by omega)).2.1; simpa using this
  have g1 := hg x gx (hrng.2 (by omega)).2.2 hnx hgx
  have hbk := hbk (by omega)
  have hx16 : x < 16 := by have := ok.size; omega
  have ho1 := ho.setElem 1 x (.int .i64 0) rfl rfl
  have ho2 := ho1.setElem 0 x (.int .i64 (gx + 1)) rfl rfl
  have hgd : R.gens.getD x 0 = gx := by rw [List.getD_eq_getElem?_getD, hgx]; rfl
  have HT := Lib.hid (show R.free h = (true, { R with now := R.now.set x 0, gens := R.gens.set x (gx + 1), back := if gx + 1 ≤ 255 then R.back ++ [(x : Int)] else R.back }) by
    simp only [Rf.free, ← hr]; rw [if_neg hneg]; simp only [Int.toNat_natCast, hgd])
  have hb01 : b0 ≠ b1 := fun e => ho.apart 0 1 _ _ _ _ _ _ _ _ _ _ b0 (by decide) rfl rfl rfl rfl rfl (by rw [e]; rfl)
  have hbg0 : b0 ≠ g := ho.ne 0 b0 rfl rfl
  have hbg1 : b1 ≠ g := ho.ne 1 b1 rfl rfl
  have d0 := ho.cell 0 _ rfl
  have d1 := ho.cell 1 _ rfl
  have d2 := ho.cell 2 _ rfl
  have c0 := owns_int hr0 hgx
  have c1 := owns_int hr1 hnx
  have z0 := hr0.frozenAt x
  have z1 := hr1.frozenAt x
  have z2 := ho.free 2
  have HC := Lib.hid hc
  have HO := Lib.hid ho
  have HO2 := Lib.hid ho2
  have HOK := Lib.hid ok
  have hfoot0 : foot g (rfFields R) [.slice (some ⟨b0, 0, none⟩) R.gens.length q0, .slice (some ⟨b1, 0, none⟩) R.now.length q1, .slice a2 R.back.length q2, .int .i64 R.fresh] b0 := .inr ⟨0, _, _, _, _, _, rfl, rfl, rfl⟩
  have hfoot1 : foot g (rfFields R) [.slice (some ⟨b0, 0, none⟩) R.gens.length q0, .slice (some ⟨b1, 0, none⟩) R.now.length q1, .slice a2 R.back.length q2, .int .i64 R.fresh] b1 := .inr ⟨1, _, _, _, _, _, rfl, rfl, rfl⟩
  have HX := Lib.hid (show Ext w ((w.setCell ⟨b1, x, none⟩ (.int .i64 0)).setCell ⟨b0, x, none⟩ (.int .i64 (gx + 1))) (foot g (rfFields R) [.slice (some ⟨b0, 0, none⟩) R.gens.length q0, .slice (some ⟨b1, 0, none⟩) R.now.length q1, .slice a2 R.back.length q2, .int .i64 R.fresh]) from
    ((Ext.refl w _).setCell (fun _ => hfoot1) _).setCell (fun _ => hfoot0) _)
  have hF2 : ∀ k, foot g ((((rfFields R).set 1 (.row 3 1 R.now.length ((ints R.now).set x (.int .i64 0)))).set 0 (.row 3 1 R.gens.length ((ints R.gens).set x (.int .i64 (gx + 1)))))) [.slice (some ⟨b0, 0, none⟩) R.gens.length q0, .slice (some ⟨b1, 0, none⟩) R.now.length q1, .slice a2 R.back.length q2, .int .i64 R.fresh] k ↔ foot g (rfFields R) [.slice (some ⟨b0, 0, none⟩) R.gens.length q0, .slice (some ⟨b1, 0, none⟩) R.now.length q1, .slice a2 R.back.length q2, .int .i64 R.fresh] k := fun k =>
    (foot_setElem rfl k).trans (foot_setElem rfl k)
  have HF2 := Lib.hid hF2
  obtain ⟨n1, hn1⟩ : ∃ n, n = R.gens.length := ⟨_, rfl⟩
  obtain ⟨n2, hn2⟩ : ∃ n, n = R.now.length := ⟨_, rfl⟩
  obtain ⟨nb, hnb⟩ : ∃ n, n = R.back.length := ⟨_, rfl⟩
  rw [← hn1] at d0 hxl
  rw [← hn2] at d1 hxl2
  rw [← hnb] at d2 hbk
  have HN1 := Lib.hid hn1
  have HN2 := Lib.hid hn2
  have HNB := Lib.hid hnb
  have HR2 := Lib.hid hr2
  have i0' : (0 : Int) ≤ (x : Int) := Int.natCast_nonneg _
  have i1 : (x : Int) < (n1 : Int) := by omega
  have i2 : (x : Int) < (n2 : Int) := by omega
  have hrr := Lib.hid hr
  clear hc hrng hr hgx hnx hr0 hr1 hr2 ok ho ho1 ho2 hn1 hn2 hnb p0 p1 p2 p3 hgd hfoot0 hfoot1 hF2 hR0 hg hneg
  by_cases h255 : gx + 1 ≤ 255
  · have hr2' := HO2.out.row 2 _ rfl rfl
    rw [← HNB.out] at hr2'
    have HR2' := Lib.hid hr2'
    obtain ⟨i0, hi, hz0, hz1, hz2⟩ := info_parts Try.info_int
    have HI := Lib.hid hi
    have hgl := lt_of_block HO2.out.blk
    have hgl' : g < w.heap.size := lt_of_block HO.out.blk
    clear hr2' hi
    have hfin : ∀ (W w2 : World) (v' : Value) (g9 c9 : Nat), Below ((w.setCell ⟨b1, x, none⟩ (.int .i64 0)).setCell ⟨b0, x, none⟩ (.int .i64 (gx + 1))).heap.size ((w.setCell ⟨b1, x, none⟩ (.int .i64 0)).setCell ⟨b0, x, none⟩ (.int .i64 (gx + 1))) W →
        (∀ k, v'.ownBlock = some k → w.heap.size ≤ k) → W.grownBy w2 v'.ownBlock → (v'.ownBlock = some g9 ∨ g9 = W.heap.size) →
        w2.ownsRow 0 3 1 (.slice (some ⟨g9, 0, none⟩) (nb + 1) c9) (nb + 1) (ints R.back ++ [.int .i64 (x : Int)]) →
        After w g R [.slice (some ⟨b0, 0, none⟩) R.gens.length q0, .slice (some ⟨b1, 0, none⟩) R.now.length q1, .slice a2 R.back.length q2, .int .i64 R.fresh] (w2.setCell ⟨g, 2, none⟩ (.slice (some ⟨g9, 0, none⟩) (nb + 1) c9)) (R.free h).2 := by
      intro W w2 v' g9 c9 hW hv hg9 hl own
      have hsz : ((w.setCell ⟨b1, x, none⟩ (.int .i64 0)).setCell ⟨b0, x, none⟩ (.int .i64 (gx + 1))).heap.size = w.heap.size := by simp [World.setCell]
      obtain ⟨x1, l1⟩ := grow_step hW hg9 hl
      rw [hsz] at l1
      rw [HT.out, if_pos h255]
      have hf : (((rfFields R).set 1 (.row 3 1 R.now.length ((ints R.now).set x (.int .i64 0)))).set 0 (.row 3 1 R.gens.length ((ints R.gens).set x (.int .i64 (gx + 1))))).set 2 (.row 3 1 (nb + 1) (ints R.back ++ [.int .i64 (x : Int)])) = rfFields { R with now := R.now.set x 0, gens := R.gens.set x (gx + 1), back := R.back ++ [(x : Int)] } := by
        rw [HNB.out, ← ints_snoc]; simp [rfFields, ints_set]
      have hn : ∀ k, (Value.slice (some ⟨g9, 0, none⟩) (nb + 1) c9).ownBlock = some k → (Value.slice a2 R.back.length q2).ownBlock = some k ∨ ((w.setCell ⟨b1, x, none⟩ (.int .i64 0)).setCell ⟨b0, x, none⟩ (.int .i64 (gx + 1))).heap.size ≤ k := fun k hk => by
        simp only [Value.ownBlock, Option.some.injEq] at hk
        subst hk
        rw [hsz]
        rcases l1 with h9 | h9
        · exact .inr (hv _ h9)
        · exact .inr h9
      have hX := HO2.out.setRow (w1 := w2) (v1 := .slice (some ⟨g9, 0, none⟩) (nb + 1) c9) 2 rfl rfl (fun k hk _ => x1.block k (HO2.out.lt k hk) (fun e => by have := hv k e; have := HO2.out.lt k hk; omega)) (HO2.out.fld 2 _ _ rfl rfl).2 (fun u k hu => by cases hu) own hn
      have hft := foot_setRow (g := g) (vs := [.slice (some ⟨b0, 0, none⟩) R.gens.length q0, .slice (some ⟨b1, 0, none⟩) R.now.length q1, .slice a2 R.back.length q2, .int .i64 R.fresh]) (i := 2) (fs := ((rfFields R).set 1 (.row 3 1 R.now.length ((ints R.now).set x (.int .i64 0)))).set 0 (.row 3 1 R.gens.length ((ints R.gens).set x (.int .i64 (gx + 1))))) (f := .row 3 1 (nb + 1) (ints R.back ++ [.int .i64 (x : Int)])) rfl rfl hn (fun u k hu => by cases hu)
      rw [hf] at hX hft
      rw [hsz] at hft
      refine ⟨_, ⟨?_, hX⟩, fun k hk => ?_, ?_⟩
      · have hok := HOK.out
        refine ⟨by simpa using hok.size, by simpa using hok.same, fun y hy => ?_, fun y hy => ?_, by have := HNB.out; simp; omega, fun y hy => ?_, fun y hy => ?_, hok.fresh0, by simpa using hok.fresh1⟩
        · rcases List.mem_or_eq_of_mem_set hy with h9 | rfl
          · exact hok.gen0 y h9
          · omega
        · rcases List.mem_or_eq_of_mem_set hy with h9 | rfl
          · exact hok.gen1 y h9
          · omega
        · rcases List.mem_append.1 hy with h9 | h9
          · exact hok.back0 y h9
          · simp at h9; omega
        · rcases List.mem_append.1 hy with h9 | h9
          · have := hok.back1 y h9; simpa using this
          · simp at h9; have := HN1.out; simp; omega
      · rcases hft k hk with h9 | h9
        · exact .inl ((HF2.out k).1 h9)
        · exact .inr h9
      · have h1 : Ext w w2 (foot g (rfFields R) [.slice (some ⟨b0, 0, none⟩) R.gens.length q0, .slice (some ⟨b1, 0, none⟩) R.now.length q1, .slice a2 R.back.length q2, .int .i64 R.fresh]) :=
          HX.out.trans x1 (fun _ _ h => h) (fun k hk e => by have := hv k e; omega)
        exact h1.setCell (fun _ => .inl rfl) _
    have HFIN := Lib.hid hfin
    clear hfin
    have hsz0 : ((w.setCell ⟨b1, x, none⟩ (.int .i64 0)).setCell ⟨b0, x, none⟩ (.int .i64 (gx + 1))).heap.size = w.heap.size := by simp [World.setCell]
    have HS0 := Lib.hid hsz0
    clear hsz0
    rcases HR2'.out.2 with ⟨he, h0⟩ | ⟨b2, cap2, cur, he, _, hcur, hle, hmx, _, _⟩
    · injection he with he1 he2 he3
      subst he1 he3
      have HB0 := Lib.hid (show R.back = [] from List.eq_nil_of_length_eq_zero (by rw [← HNB.out]; exact h0))
      have h0' : nb = 0 := h0
      subst h0'
      clear he2 h0
      go_enter Try.func62, Try.ntmps62
      go_wp2_with fail
      refine HC.out.mono ?_
      rintro e w' ⟨rfl, rfl⟩
      go_wp2_with (first | (at_builtin; refine wpList_append_own_none rfl (.tmp 35) (.tmp 39) 37 rfl 0 3 i0 1 Try.underlying37 HI.out (.slice (some ⟨w.heap.size, 0, none⟩) 0 0) 0 [] rfl (made_empty _ _ (by simp [World.setCell])) rfl ?_) | (at_builtin; refine wpList_append_lies _ rfl (.tmp 40) (.tmp 42) 37 rfl 0 3 i0 (.int .i64 0) 1 8 Try.underlying37 HI.out hz0 hz1 hz2 rfl (by decide) (.slice (some ⟨w.heap.size, 0, none⟩) 0 0) 0 [] rfl ((made_empty _ _ (by simp [World.setCell])).alloc _) _ 1 1 [.int .i64 (x : Int)] rfl rfl ?_ ?_ (by omega) ?_ ?_ (Nat.zero_le _) _ rfl ?_; exact news_at _ _ _ _ (by simp [World.setCell]); exact news_int _; (unfold maxLen; omega); omega))
      intro g9 c9 w2 own2 grow2 lies2 lt2
      have hb2 : w2.heap[g]? = _ := (grow2.block g (by simp [World.setCell]; omega) (by simp [Value.ownBlock]; omega)).trans ((Below.heap_alloc _ _ _ (by simp [World.setCell]; omega)).trans ((Below.heap_alloc _ _ _ (by simp [World.setCell]; omega)).trans HO2.out.blk))
      have y2 := blk_free hb2 2
      have m2 : w2.cell? ⟨g, 2, none⟩ = some (.slice none R.back.length 0) := blk_cell hb2 2
      have hF := HFIN.out _ w2 (.slice (some ⟨w.heap.size, 0, none⟩) 0 0) g9 c9 (plus_two _ _ _) (fun k hk => by simp [Value.ownBlock] at hk; omega) grow2 (lies2.imp_right (fun h9 => by rw [h9]; simp [World.setCell])) (by rw [HB0.out]; exact own2)
      have HF := Lib.hid hF
      clear hF hb2 grow2 own2 lies2
      go_wp2
      go_ret
      exact ⟨by rw [HT.out]; rfl, HF.out⟩
    · injection he with he1 he2 he3
      subst he1
      clear he2 he3 hcur hle hmx
      have hb2l := lt_of_block (HR2'.out.lt b2 rfl |>.2 |> fun h => (Array.getElem?_eq_getElem h))
      have HNEWS := Lib.hid (show ∀ (j : Nat) (u : Value), (ints R.back)[j]? = some u → (((w.setCell ⟨b1, x, none⟩ (.int .i64 0)).setCell ⟨b0, x, none⟩ (.int .i64 (gx + 1))).alloc (.cells #[] 3)).cell? ((⟨b2, 0, none⟩ : Addr).add j) = some u by
        intro j u hj
        rw [add_head, World.cell?_of_block (Below.heap_alloc _ _ _ hb2l)]
        have hj' := hj
        simp only [ints, List.getElem?_map, Option.map_eq_some_iff] at hj'
        obtain ⟨y, hy, rfl⟩ := hj'
        exact owns_int HR2'.out hy)
      have hlb : (ints R.back).length = nb * 1 := by rw [ints_len, ← HNB.out, Nat.mul_one]
      have HLB := Lib.hid hlb
      clear hlb
      go_enter Try.func62, Try.ntmps62
      go_wp2_with fail
      refine HC.out.mono ?_
      rintro e w' ⟨rfl, rfl⟩
      go_wp2_with (first | (at_builtin; refine wpList_append_at rfl (.tmp 35) (.tmp 39) 37 rfl 0 3 i0 (.int .i64 0) 1 8 Try.underlying37 HI.out hz0 hz1 hz2 rfl (by decide) (.slice (some ⟨w.heap.size, 0, none⟩) 0 0) 0 [] rfl (made_empty _ _ (by simp [World.setCell])) ⟨b2, 0, none⟩ nb q2 (ints R.back) rfl HLB.out HNEWS.out (ints_one _) ?_ ?_ (Nat.zero_le _) ?_; (unfold maxLen; omega); omega; intro v1 w1 own1 grow1 at1; simp only [Nat.zero_add, List.nil_append] at own1) | (at_builtin; refine wpList_append_lies _ rfl (.tmp 40) (.tmp 42) 37 rfl 0 3 i0 (.int .i64 0) 1 8 Try.underlying37 HI.out hz0 hz1 hz2 rfl (by decide) v1 nb (ints R.back) rfl (own1.alloc _) _ 1 1 [.int .i64 (x : Int)] rfl rfl ?_ ?_ (by omega) ?_ ?_ (Nat.zero_le _) _ rfl ?_; exact news_at _ _ _ _ (by simp); exact news_int _; (unfold maxLen; omega); omega))
      intro g9 c9 w2 own2 grow2 lies2 lt2
      have hbW1 := (plus_one ((w.setCell ⟨b1, x, none⟩ (.int .i64 0)).setCell ⟨b0, x, none⟩ (.int .i64 (gx + 1))) (.cells #[] 3)).grown grow1 (by simp) (fun k hk => by simp [Value.ownBlock] at hk; rw [HS0.out]; omega)
      have hv1 : ∀ k, v1.ownBlock = some k → w.heap.size ≤ k := fun k hk => by
        rcases at1 with h9 | h9
        · rw [h9] at hk; simp [Value.ownBlock] at hk; omega
        · rw [h9] at hk; simp [World.setCell] at hk; omega
      have hbW2 := hbW1.alloc hbW1.size (.cells #[.int .i64 (x : Int)] 3)
      have hgw : g < w1.heap.size := by have h8 := hbW1.size; rw [HS0.out] at h8; omega
      have hb2 : w2.heap[g]? = _ := (grow2.block g (by simp; omega) (fun e => by have := hv1 g e.symm; omega)).trans ((hbW2.block g (by rw [HS0.out]; omega)).trans HO2.out.blk)
      have y2 := blk_free hb2 2
      have m2 : w2.cell? ⟨g, 2, none⟩ = some (.slice (some ⟨b2, 0, none⟩) R.back.length q2) := blk_cell hb2 2
      have hF := HFIN.out _ w2 v1 g9 c9 hbW2 hv1 grow2 (lies2.imp_right (fun h9 => by rw [h9]; simp)) own2
      have HF := Lib.hid hF
      clear hF hb2 grow2 own2 lies2 hbW1 hbW2 grow1 at1 own1 hv1
      go_wp2
      go_ret
      exact ⟨by rw [HT.out]; rfl, HF.out⟩
  · go_enter Try.func62, Try.ntmps62
    go_wp2_with fail
    refine HC.out.mono ?_
    rintro e w' ⟨rfl, rfl⟩
    go_wp2
    go_ret
    rw [HT.out]
    have hf : ((rfFields R).set 1 (.row 3 1 R.now.length ((ints R.now).set x (.int .i64 0)))).set 0 (.row 3 1 R.gens.length ((ints R.gens).set x (.int .i64 (gx + 1)))) = rfFields { R with now := R.now.set x 0, gens := R.gens.set x (gx + 1), back := if gx + 1 ≤ 255 then R.back ++ [(x : Int)] else R.back } := by
      rw [if_neg (by omega)]; simp [rfFields, ints_set]
    have hX := HO2.out
    have hF := HF2.out
    rw [hf] at hX hF
    refine ⟨rfl, _, ⟨?_, hX⟩, fun k hk => .inl ((hF k).1 hk), HX.out⟩
    rw [if_neg (by omega)]
    have hok := HOK.out
    refine ⟨by simpa using hok.size, by simpa using hok.same, fun y hy => ?_, fun y hy => ?_, hok.backs, hok.back0, by simpa using hok.back1, hok.fresh0, by simpa using hok.fresh1⟩
    · rcases List.mem_or_eq_of_mem_set hy with h9 | rfl
      · exact hok.gen0 y h9
      · omega
    · rcases List.mem_or_eq_of_mem_set hy with h9 | rfl
      · exact hok.gen1 y h9
      · omega
end Go.Proofs.Ytkiogbenbicghaa
