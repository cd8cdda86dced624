/- What the document's timers (parcloseref08) do at Due. Condition: they lie in memory (R8), sixteen or fewer. -/
import Derived.Test.YtajhfjgndkdbnaaRef08b
namespace Go.Proofs.Ytajhfjgndkdbnaa
open Go.RowKit BigFrame
section
variable {w w' : World} {n0 p : Nat} {q : Int} {M : List (Int × Nat)} {v : Value}
theorem due_of {a : Int} {k : Nat} (h1 : ∀ r ∈ M.take k, r.1 ≤ a) (h2 : k = M.length ∨ ∃ r, M[k]? = some r ∧ a < r.1) : dueM M a = (M.map (fun r => r.2)).take k ∧ restM M a = M.drop k := by
  obtain ⟨s1, s2⟩ := split_take a M k h1 h2
  unfold dueM restM
  rw [s1, s2]
  exact ⟨List.map_take, rfl⟩
set_option maxRecDepth 100000 in
set_option maxHeartbeats 32000000 in
theorem r8due_calls (h : R8 w n0 p q M) (hn16 : M.length ≤ 16) (t : Int) (ht : t ≤ 9223372036854775807) :
    Calls Try.prog 17 #[.pointer (some ⟨p, 0, none⟩), .int .i64 t] w fun e w' => ∃ v, e = .returned v ∧ Reads w' 1 v (dueM M (heldT t)).length (ints (asInts (dueM M (heldT t)))) ∧ (∀ k, v.ownBlock = some k → w.heap.size ≤ k) ∧ R8 w' n0 p q (restM M (heldT t)) ∧ Ext w w' (fun k => k = p) := by
  have hld := fun u : World => rheld_calls5 t u ht
  generalize heldT t = a at hld ⊢
  have HLD := Lib.hid hld
  obtain ⟨v, hv⟩ := h
  have hns := hv.nsz
  have hp0 := hv.p0
  have hpw := lt_of_block hv.blk
  obtain ⟨i0, hi, hz0, hz1, hz2⟩ := info_parts Try.info_one8
  obtain ⟨j0, hj, hy0, hy1, hy2⟩ := info_parts Try.info_int
  have HI0 := Lib.hid hi
  have HJ0 := Lib.hid hj
  have H := Lib.hid hv
  obtain ⟨m, hm⟩ : ∃ m, m = M.length := ⟨_, rfl⟩
  rw [← hm] at hn16
  have HM := Lib.hid hm
  clear hld hv hi hj hm
  go_enter Try.func17, Try.ntmps17
  go_upto_block 0 with (fail)
  go_cut [5] (fun u5 wc => ∃ (k : Nat) (v : Value) (a5 : Option Addr) (c5 : Nat), u5 = .slice a5 k c5 ∧ k ≤ m ∧ (∀ r ∈ M.take k, r.1 ≤ a) ∧ (k = M.length ∨ ∃ r, M[k]? = some r ∧ a < r.1) ∧ wc.ownsRow w.heap.size 3 1 (.slice a5 k c5) k (ints (asInts ((M.map (fun r => r.2)).take k))) ∧ R8v wc n0 p q (M.drop k) v ∧ Ext w wc (fun k => k = p))
  case first => as_aux_lemma =>
    go_wp2_with fail
    go_loopw [5] (fun u5 wr => ∃ (k : Nat) (v : Value) (a5 : Option Addr) (c5 : Nat), u5 = .slice a5 k c5 ∧ k ≤ m ∧ (∀ r ∈ M.take k, r.1 ≤ a) ∧ wr.ownsRow w.heap.size 3 1 (.slice a5 k c5) k (ints (asInts ((M.map (fun r => r.2)).take k))) ∧ R8v wr n0 p q (M.drop k) v ∧ (∀ j, v.ownBlock = some j → (Value.slice a5 k c5).ownBlock ≠ some j) ∧ Ext w wr (fun k => k = p) ∧ w.heap.size ≤ wr.heap.size) (fun u _ => m - (match u with | .slice _ n _ => n | _ => 0))
    case atStart =>
      refine ⟨0, v, _, _, rfl, Nat.zero_le _, by simp, ?_, ?_, fun j hj e => ?_, Ext.of_below (plus_one w _), by simp⟩
      · exact owns_empty w _ _ (Nat.le_refl _)
      · exact H.out.below (plus_one w _)
      · simp only [Value.ownBlock, Option.some.injEq] at e
        have := (H.out.own j hj).2.2
        omega
    case round =>
      obtain ⟨k, v, a5, c5, rfl, hk, hle, hown, hv, hap, hb, hsz⟩ := hrel
      obtain ⟨al, cl, rfl, hblk, q1, q2, hcell, hpos⟩ := hv.open
      have hrd := hv.rd
      have hpr := lt_of_block hblk
      have c1 : wr.cell? ⟨p, 1, none⟩ = some (.slice al (M.drop k).length cl) := blk_cell hblk 1
      have hfz : wr.frozen? ⟨p, 1, none⟩ = false := blk_free hblk 1
      obtain ⟨n, hn⟩ : ∃ n, n = (M.drop k).length := ⟨_, rfl⟩
      rw [← hn] at c1 q1 hrd hpos hv hap hblk
      have HN := Lib.hid hn
      have hnm : n = m - k := by rw [hn, List.length_drop, HM.out]
      have hnb : n ≤ 16 := by omega
      obtain ⟨a5', c5', e5, h51, h52, _⟩ := owns_shape hown
      injection e5 with e51 _ e53
      rw [← e53] at h51 h52
      clear e51 e53
      have HOW := Lib.hid hown
      have HV := Lib.hid hv
      have HAP := Lib.hid hap
      have HB := Lib.hid hb
      have HLE := Lib.hid hle
      have HBK := Lib.hid hblk
      have hnz : (0 : Int) ≤ (n : Int) := Int.natCast_nonneg _
      unfold maxLen at q2 h52
      by_cases hkm : k < m
      · have hn0 : 0 < n := by omega
        have hn0' : (0 : Int) < (n : Int) := by omega
        have hd1 : decide ((0 : Int) < (n : Int)) = true := decide_eq_true hn0'
        have hd2 : decide (0 < n) = true := decide_eq_true hn0
        obtain ⟨bl, o, rfl⟩ := hpos hn0
        obtain ⟨r, hr⟩ : ∃ r, M[k]? = some r := ⟨_, List.getElem?_eq_getElem (by rw [← HM.out]; exact hkm)⟩
        obtain ⟨hbl, hbp, hcx⟩ := hcell bl o rfl
        obtain ⟨k0, k1⟩ := hcx 0 r (by rw [List.getElem?_drop]; simpa using hr)
        rw [Nat.zero_mul, Nat.add_zero] at k0 k1
        have HR := Lib.hid hr
        have HRD := Lib.hid hrd
        obtain ⟨r1, r2⟩ := r
        simp only at k0 k1
        clear hcell hpos hcx hr hrd hown hv hap hb hle hn hblk hnm
        by_cases hra : r1 ≤ a
        · have hrd1 : decide (r1 ≤ a) = true := decide_eq_true hra
          have HRA := Lib.hid hra
          go_wp2_with fail
          go_region_held3 (fun w' => w'.cell? ⟨p, 1, none⟩ = some (.slice (some ⟨bl, o, none⟩) n cl) ∧ w'.cell? ⟨bl, o + 1, none⟩ = some (.int .i64 r1)) (first | go_keep | exact ⟨c1, k1⟩)
            ((go_at_call 14; refine (HLD.out _).mono ?_; rintro e w4 ⟨rfl, rfl⟩))
          have OWD : wr.drew.ownsRow w.heap.size 3 1 (.slice a5 k c5) k (ints (asInts ((M.map (fun r => r.2)).take k))) := owns_same HOW.out (fun _ _ => rfl)
          have VD := HV.out.below ((Below.refl wr.heap.size wr).drew)
          have BD := HB.out.drew
          have k0d : wr.drew.cell? ⟨bl, o, none⟩ = some (.int .i64 r2) := k0
          have c1d : wr.drew.cell? ⟨p, 1, none⟩ = some (.slice (some ⟨bl, o, none⟩) n cl) := c1
          have szd : w.heap.size ≤ wr.drew.heap.size := hsz
          have hbld : bl < wr.drew.heap.size := hbl
          have hpd : p < wr.drew.heap.size := hpr
          clear k0 k1 c1 hfz hsz hbl hpr HOW HV HB HBK hrd1 hra
          generalize wr.drew = wd at OWD VD BD k0d c1d szd hbld hpd ⊢
          have HVD := Lib.hid VD
          clear VD
          go_wp2_with (at_builtin; refine wpList_append_own _ rfl _ _ 26 rfl w.heap.size 3 j0 (.int .i64 0) 1 8 Try.underlying26 HJ0.out hy0 hy1 hy2 rfl (by decide) _ _ _ rfl (OWD.alloc _) ⟨wd.heap.size, 0, none⟩ 1 1 [.int .i64 r2] rfl rfl ?c1 ?c2 ?c3 ?c4 ?c5 ?_)
          case c1 => exact news_one wd _ _
          case c2 => exact news_int _
          case c3 => unfold maxLen; omega
          case c4 => omega
          case c5 => first | omega | (simp; omega)
          intro v3 w3 own3 gr3 _
          have hb3 : Ext w w3 (fun k => k = p) := (BD.alloc _).grown gr3 (fun j hj e => by have := (OWD.lt j e).1; omega)
          have V3 := (HVD.out.below (plus_one wd _)).grown gr3 (fun j hj => ⟨by have := (OWD.lt j hj).1; omega, fun e => HAP.out j e hj⟩)
          have c13 : w3.cell? ⟨p, 1, none⟩ = some (.slice (some ⟨bl, o, none⟩) n cl) := blk_cell V3.blk 1
          have z13 : w3.frozen? ⟨p, 1, none⟩ = false := blk_free V3.blk 1
          have rd3 := V3.rd
          rw [← HN.out] at rd3
          have rd3 := reads_drop8 rd3 (k := 1) (by omega)
          rw [List.drop_drop, show 1 * 2 = 2 by rfl] at rd3
          have hbl3 : bl < w3.heap.size := (V3.own bl rfl).2.2
          have hp3 : p < w3.heap.size := lt_of_block V3.blk
          have s3 : w.heap.size ≤ w3.heap.size := by have := gr3.size; simp at this; omega
          have HV3 := Lib.hid V3
          have HB3 := Lib.hid hb3
          have HRD3 := Lib.hid rd3
          have HO3 := Lib.hid own3
          obtain ⟨a3, c3, rfl, l3, m3, _⟩ := owns_shape own3
          unfold maxLen at m3
          clear V3 hb3 rd3 own3 gr3 OWD BD k0d c1d szd hbld hpd HVD
          by_cases hcl : cl = 1
          · have hn1 : n = 1 := by omega
            subst hn1
            subst hcl
            have HNIL := Lib.hid (show M.drop (k + 1) = [] from by
              have := HN.out
              rw [List.length_drop] at this
              exact List.drop_eq_nil_of_le (by omega))
            go_wp2_with (at_builtin; go_loud (refine wpList_append_from (by rfl) (.tmp 36) (.tmp 41) 42 (by rfl) w3.heap.size 46 i0 (.agg #[.int .i64 0, .int .i64 0]) 2 16 Try.underlying42 HI0.out hz0 hz1 hz2 rfl (by omega) (.slice (some ⟨w3.heap.size, 0, none⟩) 0 0) 0 [] (by rfl) (owns_empty8 w3 _ (Nat.le_refl _)) (.slice (some ⟨bl, o, none⟩) 0 0) 0 (ones (M.drop (k + 1))) (by rfl) (by rw [HNIL.out]; exact reads_zero8 _ _) (.inr ⟨_, _, _, _, rfl⟩) (ones_cell _) (by unfold maxLen; omega) (by omega) (by simp) ?_))
            intro v4 w4 own4 gr4 _
            try simp only [Nat.zero_add, List.nil_append] at own4
            have hb4 : Below w3.heap.size w3 w4 := ((Below.refl _ _).alloc (Nat.le_refl _) _).grown gr4 (by simp) (fun j hj => by simp only [Value.ownBlock, Option.some.injEq] at hj; omega)
            obtain ⟨a4, c4, rfl, l4, m4, _⟩ := owns_shape own4
            unfold maxLen at m4
            have z14 : w4.frozen? ⟨p, 1, none⟩ = false := blk_free ((hb4.block p hp3).trans HV3.out.blk) 1
            have c14 : w4.cell? ⟨p, 1, none⟩ = some (.slice (some ⟨bl, o, none⟩) 1 1) := below_cell hb4 hp3 c13
            have hlen1 : (M.drop (k + 1)).length = 0 := by rw [HNIL.out]; rfl
            have HS := Lib.hid (HV3.out.setR (B := w3.heap.size) HV3.out.nsz hp3 hb4.size (hb4.block p hp3) (l := M.drop (k + 1)) (by rw [hlen1]; exact own4))
            have HU := Lib.hid (show (w4.setCell ⟨p, 1, none⟩ (.slice a4 0 c4)).ownsRow w.heap.size 3 1 (.slice a3 (k + 1) c3) (k + 1) (ints (asInts ((M.map (fun r => r.2)).take (k + 1)))) by
              have e : ints (asInts ((M.map (fun r => r.2)).take (k + 1))) = ints (asInts ((M.map (fun r => r.2)).take k)) ++ [.int .i64 (r2 : Int)] := by
                rw [List.take_add_one, List.getElem?_map, HR.out]
                simp [ints, asInts]
              rw [e]
              exact owns_same (owns_same HO3.out (fun j hj => hb4.block j (HO3.out.lt j hj).2)) (fun j hj => heap_setCell_other _ _ _ _ (fun e => by have h8 := (HO3.out.lt j hj).1; have h9 : j = p := e; omega)))
            have HAP2 := Lib.hid (fun (j : Nat) (hj : (Value.slice a4 0 c4).ownBlock = some j) => (show (Value.slice a3 (k + 1) c3).ownBlock ≠ some j from fun e => by
              have h1 := (own4.lt j hj).1
              have h2 := (HO3.out.lt j e).2
              omega))
            have HBS := Lib.hid (Ext.setCell (F := fun k => k = p) (HB3.out.then (Ext.of_below hb4)) (p := ⟨p, 1, none⟩) (fun _ => rfl) (.slice a4 0 c4))
            have HSZ := Lib.hid (show w.heap.size ≤ (w4.setCell ⟨p, 1, none⟩ (.slice a4 0 c4)).heap.size by have := hb4.size; simp [World.setCell]; omega)
            have HLE2 := Lib.hid (show ∀ r ∈ M.take (k + 1), r.1 ≤ a by
              rw [List.take_add_one, HR.out, Option.toList_some]
              intro s hs
              rcases List.mem_append.1 hs with hs | hs
              · exact HLE.out s hs
              · rw [List.mem_singleton] at hs
                rw [hs]
                exact HRA.out)
            clear own4 gr4 hb4 hlen1
            go_wp2_with fail
            go_roundw
            case rel => exact ⟨k + 1, _, _, _, rfl, by omega, HLE2.out, HU.out, HS.out, HAP2.out, HBS.out, HSZ.out⟩
            case measure => simp; omega
          · have hcl2 : ¬ cl - 1 = 0 := by omega
            go_wp2_with (at_builtin; go_loud (refine wpList_append_from (by rfl) (.tmp 36) (.tmp 41) 42 (by rfl) w3.heap.size 46 i0 (.agg #[.int .i64 0, .int .i64 0]) 2 16 Try.underlying42 HI0.out hz0 hz1 hz2 rfl (by omega) (.slice (some ⟨w3.heap.size, 0, none⟩) 0 0) 0 [] (by rfl) (owns_empty8 w3 _ (Nat.le_refl _)) (.slice (some ⟨bl, o + 2, none⟩) (n - 1) (cl - 1)) (n - 1) (ones (M.drop (k + 1))) (by rfl) (HRD3.out.frame (fun j hj => Below.heap_alloc _ _ _ (by simp only [Value.ownBlock, Option.some.injEq] at hj; subst hj; exact hbl3))) (.inr ⟨_, _, _, _, rfl⟩) (ones_cell _) (by unfold maxLen; omega) (by omega) (by simp) ?_))
            intro v4 w4 own4 gr4 _
            try simp only [Nat.zero_add, List.nil_append] at own4
            have hb4 : Below w3.heap.size w3 w4 := ((Below.refl _ _).alloc (Nat.le_refl _) _).grown gr4 (by simp) (fun j hj => by simp only [Value.ownBlock, Option.some.injEq] at hj; omega)
            obtain ⟨a4, c4, rfl, l4, m4, _⟩ := owns_shape own4
            unfold maxLen at m4
            have z14 : w4.frozen? ⟨p, 1, none⟩ = false := blk_free ((hb4.block p hp3).trans HV3.out.blk) 1
            have c14 : w4.cell? ⟨p, 1, none⟩ = some (.slice (some ⟨bl, o, none⟩) n cl) := below_cell hb4 hp3 c13
            have hlen1 : (M.drop (k + 1)).length = n - 1 := by rw [List.length_drop, HN.out, List.length_drop]; omega
            have HS := Lib.hid (HV3.out.setR (B := w3.heap.size) HV3.out.nsz hp3 hb4.size (hb4.block p hp3) (l := M.drop (k + 1)) (by rw [hlen1]; exact own4))
            have HU := Lib.hid (show (w4.setCell ⟨p, 1, none⟩ (.slice a4 (n - 1) c4)).ownsRow w.heap.size 3 1 (.slice a3 (k + 1) c3) (k + 1) (ints (asInts ((M.map (fun r => r.2)).take (k + 1)))) by
              have e : ints (asInts ((M.map (fun r => r.2)).take (k + 1))) = ints (asInts ((M.map (fun r => r.2)).take k)) ++ [.int .i64 (r2 : Int)] := by
                rw [List.take_add_one, List.getElem?_map, HR.out]
                simp [ints, asInts]
              rw [e]
              exact owns_same (owns_same HO3.out (fun j hj => hb4.block j (HO3.out.lt j hj).2)) (fun j hj => heap_setCell_other _ _ _ _ (fun e => by have h8 := (HO3.out.lt j hj).1; have h9 : j = p := e; omega)))
            have HAP2 := Lib.hid (fun (j : Nat) (hj : (Value.slice a4 (n - 1) c4).ownBlock = some j) => (show (Value.slice a3 (k + 1) c3).ownBlock ≠ some j from fun e => by
              have h1 := (own4.lt j hj).1
              have h2 := (HO3.out.lt j e).2
              omega))
            have HBS := Lib.hid (Ext.setCell (F := fun k => k = p) (HB3.out.then (Ext.of_below hb4)) (p := ⟨p, 1, none⟩) (fun _ => rfl) (.slice a4 (n - 1) c4))
            have HSZ := Lib.hid (show w.heap.size ≤ (w4.setCell ⟨p, 1, none⟩ (.slice a4 (n - 1) c4)).heap.size by have := hb4.size; simp [World.setCell]; omega)
            have HLE2 := Lib.hid (show ∀ r ∈ M.take (k + 1), r.1 ≤ a by
              rw [List.take_add_one, HR.out, Option.toList_some]
              intro s hs
              rcases List.mem_append.1 hs with hs | hs
              · exact HLE.out s hs
              · rw [List.mem_singleton] at hs
                rw [hs]
                exact HRA.out)
            clear own4 gr4 hb4 hlen1
            go_wp2_with fail
            go_roundw
            case rel => exact ⟨k + 1, _, _, _, rfl, by omega, HLE2.out, HU.out, HS.out, HAP2.out, HBS.out, HSZ.out⟩
            case measure => simp; omega
        · have hrd1 : decide (r1 ≤ a) = false := decide_eq_false hra
          have HRA := Lib.hid (show a < r1 by omega)
          clear hra
          go_wp2_with fail
          go_region_held3 (fun w' => w'.cell? ⟨p, 1, none⟩ = some (.slice (some ⟨bl, o, none⟩) n cl) ∧ w'.cell? ⟨bl, o + 1, none⟩ = some (.int .i64 r1)) (first | go_keep | exact ⟨c1, k1⟩)
            ((go_at_call 14; refine (HLD.out _).mono ?_; rintro e w4 ⟨rfl, rfl⟩))
          all_goals go_wp2_with fail
          all_goals go_meet
          all_goals exact ⟨k, _, _, _, rfl, hk, HLE.out, .inr ⟨_, HR.out, HRA.out⟩, owns_same HOW.out (fun _ _ => rfl), HV.out.below (below_draws _ _ 1), HB.out.drew⟩
      · have hn0 : n = 0 := by omega
        have HK := Lib.hid (show k = M.length by rw [← HM.out]; omega)
        clear hcell hpos hrd hown hv hap hb hle hn hblk hnm hnz
        subst hn0
        go_wp2_with fail
        go_big_region
        go_wp2_with fail
        go_meet
        exact ⟨k, _, _, _, rfl, hk, HLE.out, .inl HK.out, owns_same HOW.out (fun _ _ => rfl), HV.out.below (below_draws _ _ 1), HB.out.drew⟩
  case rest =>
  obtain ⟨k, v, a5, c5, rfl, hk, hle, hend, hown, hv, hb⟩ := hcut
  obtain ⟨s1, s2⟩ := due_of hle hend
  have HRET := Lib.hid (show Reads wc 1 (.slice a5 k c5) (dueM M a).length (ints (asInts (dueM M a))) by
    rw [s1, show ((M.map (fun r => r.2)).take k).length = k by rw [List.length_take, List.length_map, ← HM.out]; omega]
    exact Reads.of_owns hown)
  have HF := Lib.hid (fun j hj => (hown.lt j hj).1)
  have HVV := Lib.hid (show R8v wc n0 p q (restM M a) v by rw [s2]; exact hv)
  have HB := Lib.hid hb
  clear hle hend hown hv hb s1 s2
  go_wp2_with fail
  go_ret
  exact ⟨_, rfl, HRET.out, HF.out, ⟨_, HVV.out⟩, HB.out⟩
end
end Go.Proofs.Ytajhfjgndkdbnaa
