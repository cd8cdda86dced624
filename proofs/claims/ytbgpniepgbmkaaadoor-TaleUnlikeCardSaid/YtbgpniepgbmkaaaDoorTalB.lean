/- What tale.number, numbers and ops do, slices.Index of strings, and the document's word, Num and number. Condition: the library's table and its two errors are laid (TabT).
   What the document's Num (parcloseref25.Num) and number (parcloseref28.number) do. Condition: the number is an int64, the word at most 2^47 bytes. -/
import Derived.Test.YtbgpniepgbmkaaaDoorTalA
import Derived.Test.YtbgpniepgbmkaaaDoorPrt2
import Derived.Lib.AtoiErrMem
namespace Go.Proofs.YtbgpniepgbmkaaaDoor
open Go.RowKit BigFrame Go.BigFrame

theorem name_wp28 {P : Program} {c : Code} {Q : Exit → Act → World → Prop} {a : Act} {W' : World} (h : ∀ W, W = W' → c.wp P Q a W) : c.wp P Q a W' := h _ rfl
def TabT (w : World) : Prop := Tab w ∧ (∃ tp p, w.var? Tryd.prog "strconv.ErrSyntax" = some #[.iface tp p]) ∧ (∃ tp p, w.var? Tryd.prog "strconv.ErrRange" = some #[.iface tp p])
theorem var_below {w w' : World} {s : String} {cs : Array Value} (h : w.var? Tryd.prog s = some cs) (hb : Below w.heap.size w w') : w'.var? Tryd.prog s = some cs := by
  unfold World.var? at h ⊢
  cases hg : Tryd.prog.globalNamed s with
  | none => rw [hg] at h; cases h
  | some g =>
    rw [hg] at h
    simp only [Option.bind_some] at h ⊢
    have hlt : g < w.heap.size := by
      by_cases h' : g < w.heap.size
      · exact h'
      · rw [Array.getElem?_eq_none (by omega)] at h
        cases h
    rw [hb.block g hlt]
    exact h
theorem TabT.below {w w' : World} (h : TabT w) (hb : Below w.heap.size w w') : TabT w' := by
  obtain ⟨h1, ⟨a, b, h2⟩, ⟨c, d, h3⟩⟩ := h
  exact ⟨h1.below hb, ⟨a, b, var_below h2 hb⟩, ⟨c, d, var_below h3 hb⟩⟩
theorem itoa64_calls (n : Int) (h : i64B n) (w : World) (ht : Tab w) :
    Calls Tryd.prog 15 #[.int .i64 n] w fun e w' => e = .returned (.string ⟨(Lib.itoa n).toArray⟩) ∧ Below w.heap.size w w' :=
  (Tryd.strconv_Itoa n h.1 h.2 w ht).mono fun _ _ ⟨e1, k, os, e2⟩ => ⟨e1, by rw [e2]; exact below_grew w k os⟩
theorem atoi_calls (s : ByteArray) (hs : s.size ≤ 140737488351232) (w : World) (ht : TabT w) :
    Calls Tryd.prog 74 #[.string s] w fun e w' => ∃ z, ((e = .returned (.tuple #[.int .i64 z, .nilIface]) ∧ Lib.atoiAll s.data.toList = .ok z) ∨ (∃ tp p, e = .returned (.tuple #[.int .i64 z, .iface tp p]) ∧ numT s = none)) ∧ Below w.heap.size w w' := by
  obtain ⟨_, ⟨tp, p, hv⟩, ⟨tq, q, hu⟩⟩ := ht
  cases h : Lib.atoiAll s.data.toList
  · next v =>
    refine (Tryd.strconv_Atoi_ok s (by omega) v h w).mono fun e w' ⟨e1, e2⟩ => ⟨v, .inl ⟨e1, rfl⟩, ?_⟩
    rcases e2 with rfl | ⟨t, rfl⟩
    · exact Below.refl _ _
    · exact Lib.bytesWorld_below _ _ _
  · have hc : Calls Tryd.prog 74 #[.string s] w _ := Any.strconv_Atoi_syntax_var Tryd.laysC172 s (by omega) h tp p w hv
    exact hc.mono fun e w' ⟨N, e1, _, _, e2⟩ => ⟨_, .inr ⟨_, _, e1, by unfold numT; rw [h]⟩, e2⟩
  · exact (Tryd.strconv_Atoi_range_var s (by omega) h tq q w hu).mono fun e w' ⟨N, e1, _, _, e2⟩ => ⟨_, .inr ⟨_, _, e1, by unfold numT; rw [h]⟩, e2⟩
set_option maxRecDepth 100000 in
set_option maxHeartbeats 8000000 in
theorem tnumber_calls (s : ByteArray) (hs : s.size ≤ 140737488351232) (w : World) (ht : TabT w) :
    Calls Tryd.prog 63 #[.string s] w fun e w' => ∃ z, e = .returned (.tuple #[.int .i64 z, .bool (numT s).isSome]) ∧ (∀ v, numT s = some v → z = v) ∧ Below w.heap.size w w' := by
  have HT := Lib.hid ht
  have HA := Lib.hid (atoi_calls s hs w ht)
  clear ht
  go_enter Tryd.func63, Tryd.ntmps63
  go_wp2_with fail
  refine HA.out.mono ?_
  rintro e w1 ⟨z, hz, hb⟩
  have HB := Lib.hid hb
  rcases hz with ⟨rfl, hz⟩ | ⟨tp, p, rfl, hz⟩
  · have HM := Lib.hid (show numT s = if Lib.itoa z = s.data.toList then some z else none by unfold numT; rw [hz])
    have HI := Lib.hid (itoa64_calls z (Lib.atoiAll_bounds hz) w1 (HT.out.below hb).1)
    obtain ⟨t, ht⟩ : ∃ t : ByteArray, t = ⟨(Lib.itoa z).toArray⟩ := ⟨_, rfl⟩
    rw [← ht] at HI
    have HTL := Lib.hid (tl_eq t s)
    have HTT := Lib.hid (show t = s ↔ Lib.itoa z = s.data.toList by
      rw [ht]
      constructor
      · intro h; rw [← h]
      · intro h; rw [h])
    clear hz hb ht HA
    cases hts : (t.toList == s.toList) with
    | true =>
      have HV := Lib.hid (show numT s = some z by
        rw [HM.out, if_pos (HTT.out.1 (by have := HTL.out; rw [hts] at this; exact of_decide_eq_true this.symm))])
      go_wp2_with fail
      refine HI.out.mono ?_
      rintro e w5 ⟨rfl, hb5⟩
      have HB5 := Lib.hid (HB.out.trans (hb5.mono HB.out.size))
      clear hb5
      go_wp2_with fail
      go_ret2
      rw [HV.out]
      exact ⟨z, rfl, fun v h => Option.some.inj h, HB5.out⟩
    | false =>
      have HV := Lib.hid (show numT s = none by
        rw [HM.out, if_neg (fun h => by have := HTL.out; rw [hts] at this; exact of_decide_eq_false this.symm (HTT.out.2 h))])
      go_wp2_with fail
      refine HI.out.mono ?_
      rintro e w5 ⟨rfl, hb5⟩
      have HB5 := Lib.hid (HB.out.trans (hb5.mono HB.out.size))
      clear hb5
      go_wp2_with fail
      go_ret2
      rw [HV.out]
      exact ⟨z, rfl, (fun v h => by cases h), HB5.out⟩
  · have HV := Lib.hid hz
    clear hz hb HA
    go_wp2_with fail
    go_ret2
    rw [HV.out]
    exact ⟨z, rfl, (fun v h => by cases h), HB.out⟩
def numAllT (W : List ByteArray) : Bool := W.all (fun x => (numT x).isSome)
set_option maxRecDepth 100000 in
set_option maxHeartbeats 8000000 in
theorem tnumbers_calls {w : World} (ht : TabT w) {vw : Value} {n : Nat} {W : List ByteArray} (hw : Reads w 1 vw n (W.map Value.string)) (hsz : ∀ x ∈ W, x.size ≤ 140737488351232) (hn : n ≤ 100000) :
    Calls Tryd.prog 47 #[vw] w fun e w' => ∃ vo, e = .returned (.tuple #[vo, .bool (numAllT W)]) ∧ Below w.heap.size w w' ∧ (numAllT W = true → Reads w' 1 vo n ((W.filterMap numT).map (Value.int .i64))) := by
  have hlw : W.length = n := by have := hw.1; simpa using this
  have hltw := hw.lt
  obtain ⟨_, aw, cw, rfl, w2, w3, w4⟩ := hw
  unfold maxLen at w3
  have HLW := Lib.hid hlw
  have HW4 := Lib.hid (fun hn : 0 < n => show ∃ bw ow, aw = some ⟨bw, ow, none⟩ ∧ bw < w.heap.size ∧ ∀ (i : Nat) (x : ByteArray), W[i]? = some x → w.cell? ⟨bw, ow + i, none⟩ = some (.string x) from by
    obtain ⟨bw, ow, e, h⟩ := w4 hn
    exact ⟨bw, ow, e, hltw hn (by omega) bw (by rw [e]; rfl), fun i x hx => h i _ (by simp [hx])⟩)
  have HT := Lib.hid ht
  have HSZ := Lib.hid hsz
  obtain ⟨i0, hi0, hz0, hz1, hz2⟩ := info_parts Tryd.info_int
  have HI := Lib.hid hi0
  clear hlw hltw w4 ht hsz hi0
  go_enter Tryd.func47, Tryd.ntmps47
  go_wp2_with fail
  go_loopw [4, 11] (fun o u wr => ∃ j : Nat, u = .int .i64 j ∧ j ≤ n ∧ (∀ x ∈ W.take j, (numT x).isSome = true) ∧ Below w.heap.size w wr ∧ wr.ownsRow w.heap.size 3 1 o j (((W.take j).filterMap numT).map (Value.int .i64))) (fun _ u _ => n - (intOf u).toNat)
  case atStart => exact ⟨0, rfl, Nat.zero_le _, by simp, Below.refl _ _, World.ownsRow_nil _ _ _ _⟩
  case round =>
    obtain ⟨j, rfl, hj, hok, hb, hown⟩ := hrel
    have HOK := Lib.hid hok
    have HB := Lib.hid hb
    have HO := Lib.hid hown
    have hjz : (0 : Int) ≤ (j : Int) := Int.natCast_nonneg _
    clear hok hb hown
    by_cases hjn : j < n
    · have hjn' : (j : Int) < (n : Int) := by omega
      obtain ⟨x, hx⟩ : ∃ x, W[j]? = some x := ⟨_, List.getElem?_eq_getElem (by rw [HLW.out]; exact hjn)⟩
      obtain ⟨bw, ow, rfl, hbw, hcw⟩ := HW4.out (by omega)
      have k0 : wr.cell? ⟨bw, ow + j, none⟩ = some (.string x) := below_cell1 HB.out hbw (hcw j x hx)
      have HNU := Lib.hid (tnumber_calls x (HSZ.out x (List.mem_of_getElem? hx)) wr (HT.out.below HB.out))
      have HXJ := Lib.hid hx
      have HTK := Lib.hid (show W.take (j + 1) = W.take j ++ [x] by rw [List.take_add_one, hx]; rfl)
      clear hcw hx
      cases hnx : numT x with
      | none =>
        have HV := Lib.hid (show numAllT W = false by
          unfold numAllT
          rw [List.all_eq_false]
          exact ⟨x, List.mem_of_getElem? HXJ.out, by rw [hnx]; simp⟩)
        rw [hnx] at HNU
        go_wp2_with fail
        refine HNU.out.mono ?_
        rintro e w5 ⟨z, rfl, _, hb5⟩
        have HB5 := Lib.hid (HB.out.trans (hb5.mono HB.out.size))
        clear hb5
        go_wp2_with fail
        go_ret2
        rw [HV.out]
        exact ⟨_, rfl, HB5.out, (fun h => by cases h)⟩
      | some v =>
        have HVX := Lib.hid hnx
        rw [hnx] at HNU
        clear hnx
        go_wp2_with fail
        refine HNU.out.mono ?_
        rintro e w5 ⟨z, rfl, hzv, hb5⟩
        obtain rfl : z = v := hzv v rfl
        have HB5 := Lib.hid (HB.out.trans (hb5.mono HB.out.size))
        have hown : w5.ownsRow w.heap.size 3 1 _ j (((W.take j).filterMap numT).map (Value.int .i64)) := owns_same HO.out (fun k hk => hb5.block k (HO.out.lt k hk).2)
        clear hb5 hzv k0
        go_wp2_with (at_builtin; refine wpList_append_own _ rfl _ _ 53 rfl w.heap.size 3 i0 (.int .i64 0) 1 8 Tryd.underlying53 HI.out hz0 hz1 hz2 rfl (by decide) _ _ _ rfl (hown.alloc _) ⟨w5.heap.size, 0, none⟩ 1 1 [.int .i64 z] rfl rfl ?c1 ?c2 ?c3 ?c4 ?c5 ?_)
        case c1 => exact news_one w5 _ _
        case c2 => intro u hu; rw [List.mem_singleton] at hu; subst hu; rfl
        case c3 => unfold maxLen; omega
        case c4 => omega
        case c5 => have := HB5.out.size; simp; omega
        intro v' w6 hown' hgr _
        have HB6 := Lib.hid ((HB5.out.alloc (Nat.le_trans HB5.out.size (Nat.le_refl _)) (.cells #[.int .i64 z] 3)).grown hgr (Nat.le_trans HB5.out.size (plus_one1 w5 _).size) (fun k hk => (hown.lt k hk).1))
        have HO6 := Lib.hid (show w6.ownsRow w.heap.size 3 1 v' (j + 1) (((W.take (j + 1)).filterMap numT).map (Value.int .i64)) by
          rw [HTK.out, List.filterMap_append, List.map_append]
          simpa [HVX.out] using hown')
        clear hown hgr hown'
        go_wp2_with fail
        go_roundw
        case rel => exact ⟨j + 1, by go_num, by omega, (by
            rw [HTK.out]
            intro y hy
            rcases List.mem_append.1 hy with hy | hy
            · exact HOK.out y hy
            · rw [List.mem_singleton] at hy
              rw [hy, HVX.out]
              rfl), HB6.out, HO6.out⟩
        case measure => simp [intOf]; omega
    · obtain rfl : j = n := by omega
      have hjn' : ¬ (j : Int) < (j : Int) := by omega
      have htk : W.take j = W := List.take_of_length_le (by rw [HLW.out]; exact Nat.le_refl _)
      have HV := Lib.hid (show numAllT W = true by
        unfold numAllT
        rw [List.all_eq_true]
        have := HOK.out
        rwa [htk] at this)
      have HR := Lib.hid (show Reads wr 1 _ j ((W.filterMap numT).map (Value.int .i64)) by
        have := Reads.of_owns HO.out
        rwa [htk] at this)
      clear htk
      go_wp2_with fail
      go_ret2
      rw [HV.out]
      exact ⟨_, rfl, HB.out, fun _ => HR.out⟩
/-- A fresh block, read. -/
theorem reads_new (w : World) (xs : List Value) (T : TypeId) {n : Nat} (hn : xs.length = n) (hm : n ≤ maxLen) (h0 : 0 < n) : Reads (w.alloc (.cells xs.toArray T)) 1 (.slice (some ⟨w.heap.size, 0, none⟩) n n) n xs := by
  refine ⟨by omega, _, _, rfl, Nat.le_refl _, hm, fun _ => ⟨_, _, rfl, fun j u hj => ?_⟩⟩
  rw [Nat.zero_add, blk_cell (heap_alloc_new w _) j]
  simpa using hj
def opsV : List Value := opsB.map (fun b => Value.string ⟨b.toArray⟩)
set_option maxRecDepth 100000 in
set_option maxHeartbeats 8000000 in
theorem ops_calls (w : World) :
    Calls Tryd.prog 14 #[] w fun e w' => e = .returned (.slice (some ⟨w.heap.size, 0, none⟩) 34 34) ∧ w' = w.alloc (.cells opsV.toArray 9) := by
  go_enter Tryd.func14, Tryd.ntmps14
  go_wp2_with fail
  go_ret
  exact ⟨rfl, rfl⟩
theorem ops_reads (w : World) : Reads (w.alloc (.cells opsV.toArray 9)) 1 (.slice (some ⟨w.heap.size, 0, none⟩) 34 34) 34 ((opsB.map (fun b => (⟨b.toArray⟩ : ByteArray))).map Value.string) :=
  reads_new w _ _ rfl (by unfold maxLen; omega) (by omega)
theorem idx_ops : ∀ (l : List (List UInt8)) (s : ByteArray) (i : Nat), Lib.idxFromS (l.map (fun b => (⟨b.toArray⟩ : ByteArray))) s i = match l.findIdx? (fun x => decide (x = s.data.toList)) with | some k => ((i + k : Nat) : Int) | none => -1
  | [], s, i => rfl
  | x :: l, s, i => by
    rw [List.map_cons, Lib.idxFromS, List.findIdx?_cons]
    by_cases h : x = s.data.toList
    · have h1 : (⟨x.toArray⟩ : ByteArray) = s := by rw [h]
      rw [if_pos (by simpa using h1), decide_eq_true h]
      simp
    · have h1 : ¬ (⟨x.toArray⟩ : ByteArray) = s := fun e => h (by rw [← e])
      rw [if_neg (by simpa using h1), decide_eq_false h, idx_ops l s (i + 1)]
      cases l.findIdx? (fun x => decide (x = s.data.toList)) with
      | none => simp
      | some k =>
        show ((i + 1 + k : Nat) : Int) = ((i + (k + 1) : Nat) : Int)
        omega
theorem idxS_calls {w : World} {v : Value} {n : Nat} {l : List ByteArray} (h : Reads w 1 v n (l.map Value.string)) (hn : 0 < n) (s : ByteArray) :
    Calls Tryd.prog 46 #[v, .string s] w fun e w' => e = .returned (.int .i64 (Lib.idxOfS l s)) ∧ w' = w := by
  obtain ⟨h1, a, c, rfl, h2, h3, h4⟩ := h
  obtain ⟨b, o, rfl, hc⟩ := h4 hn
  have hl : l.length = n := by simpa using h1
  unfold maxLen at h3
  have := Tryd.slices_Index_string b o n c l s w (by omega) (by omega) (fun j hj => by
    refine hc j _ ?_
    rw [List.getElem?_map, List.getD_eq_getElem?_getD, List.getElem?_eq_getElem hj]
    rfl)
  rwa [List.take_of_length_le (by omega)] at this
/-- What word says. -/
def wordT (op : Int) : ByteArray := if 1 ≤ op ∧ op ≤ 34 then ⟨(opsB.getD (op - 1).toNat []).toArray⟩ else ⟨#[]⟩
theorem word_cells {op : Int} (h0 : 1 ≤ op) (h1 : op ≤ 34) : (Value.string ⟨#[]⟩ :: opsV)[op.toNat]? = some (.string (wordT op)) := by
  obtain ⟨k, rfl⟩ : ∃ k : Nat, op = (k : Int) + 1 := ⟨(op - 1).toNat, by omega⟩
  have hk : k < opsB.length := by rw [ops_len]; omega
  rw [show ((k : Int) + 1).toNat = k + 1 by omega, List.getElem?_cons_succ]
  unfold opsV wordT
  rw [if_pos ⟨h0, h1⟩, List.getElem?_map, show ((k : Int) + 1 - 1).toNat = k by omega, List.getD_eq_getElem?_getD, List.getElem?_eq_getElem hk]
  rfl
set_option maxRecDepth 100000 in
set_option maxHeartbeats 8000000 in
theorem word_calls (op : Int) (w : World) :
    Calls Tryd.prog 18 #[.int .i64 op] w fun e w' => e = .returned (.string (wordT op)) ∧ Below w.heap.size w w' := by
  have HB := Lib.hid (plus_one1 w (.cells (Value.string ⟨#[]⟩ :: opsV).toArray 9))
  have HC := Lib.hid (heap_alloc_new w (.cells (Value.string ⟨#[]⟩ :: opsV).toArray 9))
  by_cases h0 : op < 1
  · have HV := Lib.hid (show wordT op = ⟨#[]⟩ by unfold wordT; rw [if_neg (by omega)])
    go_enter Tryd.func18, Tryd.ntmps18
    go_wp2_with fail
    go_ret
    rw [HV.out]
    exact ⟨rfl, HB.out⟩
  · by_cases h1 : 34 < op
    · have HV := Lib.hid (show wordT op = ⟨#[]⟩ by unfold wordT; rw [if_neg (by omega)])
      go_enter Tryd.func18, Tryd.ntmps18
      go_wp2_with fail
      go_ret
      rw [HV.out]
      exact ⟨rfl, HB.out⟩
    · have HW := Lib.hid (word_cells (op := op) (by omega) (by omega))
      obtain ⟨k, rfl⟩ : ∃ k : Nat, op = (k : Int) := ⟨op.toNat, by omega⟩
      rw [Int.toNat_natCast] at HW
      have hk0 : (0 : Int) ≤ (k : Int) := Int.natCast_nonneg _
      have hk1 : (k : Int) < 35 := by omega
      generalize wordT (k : Int) = t at HW
      go_enter Tryd.func18, Tryd.ntmps18
      go_upto_region 2 with (fail)
      obtain ⟨b, hb⟩ : ∃ b, b = w.heap.size := ⟨_, rfl⟩
      obtain ⟨w1, hw1⟩ : ∃ w1, w1 = w.alloc (.cells (Value.string ⟨#[]⟩ :: opsV).toArray 9) := ⟨_, rfl⟩
      rw [← hb, ← hw1] at HC
      rw [← hw1] at HB
      refine name_wp28 (fun W hW => ?_)
      rw [show W = w1 from hW.trans hw1.symm]
      rw [← hb]
      have k0 : w1.cell? ⟨b, k, none⟩ = some (.string t) := by
        rw [blk_cell HC.out k]
        simpa using HW.out
      clear hW
      clear hw1 hb
      go_wp2_with fail
      go_ret
      exact ⟨rfl, HB.out⟩
end Go.Proofs.YtbgpniepgbmkaaaDoor

namespace Go.Proofs.YtbgpniepgbmkaaaDoor
open Go.RowKit BigFrame Go.BigFrame

theorem dec_step (k : Nat) (h : 9 < k) : Lib.decDigits k = Lib.decDigits (k / 10) ++ [UInt8.ofNat (48 + k % 10)] := by rw [Lib.decDigits, dif_neg (by omega)]
theorem wrap_u64 (x : Int) : IntKind.u64.wrap x = x % 18446744073709551616 := by simp [IntKind.wrap, IntKind.bits, IntKind.signed]
theorem dec_len19 {k m : Nat} (hm : m ≤ 9223372036854775808) {t : List UInt8} (h : Lib.decDigits k ++ t = Lib.decDigits m) : t.length ≤ 19 := by
  have h1 := congrArg List.length h
  rw [List.length_append, Lib.decDigits_length, Lib.decDigits_length] at h1
  have := nDig19 (u := m) (by omega)
  omega
set_option maxRecDepth 100000 in
set_option maxHeartbeats 16000000 in
theorem num25_calls (n : Int) (hn : i64B n) (w : World) :
    Calls Tryd.prog 19 #[.int .i64 n] w fun e w' => e = .returned (.string ⟨(Lib.itoa n).toArray⟩) ∧ Below w.heap.size w w' := by
  obtain ⟨n0, n1⟩ := hn
  obtain ⟨m, hm⟩ : ∃ m, m = n.natAbs := ⟨_, rfl⟩
  have hm1 : m ≤ 9223372036854775808 := by omega
  have HM := Lib.hid hm
  have HM1 := Lib.hid hm1
  have HIT := Lib.hid (show Lib.itoa n = if n < 0 then 45 :: Lib.decDigits m else Lib.decDigits m by
    unfold Lib.itoa
    split
    · rw [hm]
    · rw [hm, show n.toNat = n.natAbs by omega])
  have hz : (0 : Int) ≤ (m : Int) := Int.natCast_nonneg _
  clear hm hm1
  go_enter Tryd.func19, Tryd.ntmps19
  go_upto_if 8 with (fail)
  go_cut [3, 4] (fun u v wc => u = .int .u64 (m : Int) ∧ v = .string ByteArray.empty ∧ wc = w)
  case first => as_aux_lemma =>
    by_cases h : n < 0
    · have e1 : IntKind.u64.wrap n = n + 18446744073709551616 := by rw [wrap_u64]; omega
      have e2 : IntKind.u64.wrap (-(n + 18446744073709551616)) = (m : Int) := by rw [wrap_u64]; have := HM.out; omega
      go_wp2_with fail
      go_meet
      exact ⟨rfl, rfl, rfl⟩
    · have e1 : IntKind.u64.wrap n = (m : Int) := by rw [wrap_u64]; have := HM.out; omega
      go_wp2_with fail
      go_meet
      exact ⟨rfl, rfl, rfl⟩
  case rest =>
  obtain ⟨rfl, rfl, rfl⟩ := hcut
  go_wp2_with fail
  go_loopw [3, 4] (fun u v wr => ∃ (k : Nat) (t : ByteArray), u = .int .u64 (k : Int) ∧ v = .string t ∧ k ≤ m ∧ Lib.decDigits k ++ t.data.toList = Lib.decDigits m ∧ Below wc.heap.size wc wr) (fun u _ _ => (intOf u).toNat)
  case atStart => exact ⟨m, _, rfl, rfl, Nat.le_refl _, by simp, Below.refl _ _⟩
  case round =>
    obtain ⟨k, t, rfl, rfl, hk, hdt, hb⟩ := hrel
    have HDT := Lib.hid hdt
    have HB := Lib.hid hb
    have HK := Lib.hid hk
    have hkz : (0 : Int) ≤ (k : Int) := Int.natCast_nonneg _
    have htl := dec_len19 HM1.out hdt
    clear hdt hb hk
    obtain ⟨wo, hwo⟩ : ∃ wo, wo = wr := ⟨_, rfl⟩
    subst hwo
    by_cases h9 : 9 < k
    · have h9' : (9 : Int) < (k : Int) := by omega
      have HST := Lib.hid (dec_step k h9)
      obtain ⟨q, hq⟩ : ∃ q, q = k / 10 := ⟨_, rfl⟩
      obtain ⟨r, hr⟩ : ∃ r, r = k % 10 := ⟨_, rfl⟩
      have HQ := Lib.hid hq
      have hr9 : r < 10 := by omega
      have q1 : Int.tdiv (k : Int) 10 = (q : Int) := by rw [Int.tdiv_eq_ediv_of_nonneg hkz]; omega
      have q2 : IntKind.u64.wrap (q : Int) = (q : Int) := by rw [wrap_u64]; have := HM1.out; have := HK.out; omega
      have r1 : Int.tmod (k : Int) 10 = (r : Int) := by rw [Int.tmod_eq_emod_of_nonneg hkz]; omega
      have q3 : (k : Int) / 10 = (q : Int) := by omega
      have r3 : (k : Int) % 10 = (r : Int) := by omega
      have r2 : IntKind.u64.wrap (r : Int) = (r : Int) := by rw [wrap_u64]; omega
      have r4 : IntKind.u64.wrap (48 + (r : Int)) = 48 + (r : Int) := by rw [wrap_u64]; omega
      have r5 : IntKind.u8.wrap (48 + (r : Int)) = 48 + (r : Int) := by simp [IntKind.wrap, IntKind.bits, IntKind.signed]; omega
      rw [← hq, ← hr] at HST
      obtain ⟨dg, hdg⟩ : ∃ t : ByteArray, t = ⟨#[UInt8.ofNat (48 + r)]⟩ := ⟨_, rfl⟩
      obtain ⟨x, hx, hxl, _⟩ := cat_ex dg t (by rw [hdg]; have : t.size = t.data.toList.length := by simp
                                                rw [this]; show 1 + _ ≤ _; omega)
      have HXL := Lib.hid (show Lib.decDigits q ++ x.data.toList = Lib.decDigits m by
        rw [hxl, hdg, ← HDT.out, HST.out, List.append_assoc])
      have HB1 := Lib.hid (HB.out.trans ((plus_one1 wo (.cells #[.int .u8 (48 + (r : Int))] 5)).mono HB.out.size))
      have HC := Lib.hid ((conv_one (g := wo.heap.size) hr9 (show (wo.alloc (.cells #[.int .u8 (48 + (r : Int))] 5)).cell? ⟨wo.heap.size, 0, none⟩ = some (.int .u8 (48 + (r : Int))) from blk_cell (heap_alloc_new wo _) 0)).trans (show Result.ok (Value.string ⟨#[UInt8.ofNat (48 + r)]⟩) (wo.alloc (.cells #[.int .u8 (48 + (r : Int))] 5)) = .ok (.string dg) _ by rw [hdg]))
      have HQK := Lib.hid (show q < k by omega)
      clear hq hr hdg hxl HST
      go_wp2_with fail
      rw [HC.out]
      simp only [Result.andThen]
      rw [Oper.upon_value]
      go_wp2_with fail
      go_roundw
      case rel => exact ⟨q, x, rfl, rfl, by have := HK.out; have := HQK.out; omega, HXL.out, HB1.out⟩
      case measure => have := HQK.out; simp [intOf]; omega
    · have h9' : ¬ (9 : Int) < (k : Int) := by omega
      have r4 : IntKind.u64.wrap (48 + (k : Int)) = 48 + (k : Int) := by rw [wrap_u64]; omega
      have r5 : IntKind.u8.wrap (48 + (k : Int)) = 48 + (k : Int) := by simp [IntKind.wrap, IntKind.bits, IntKind.signed]; omega
      obtain ⟨dg, hdg⟩ : ∃ t : ByteArray, t = ⟨#[UInt8.ofNat (48 + k)]⟩ := ⟨_, rfl⟩
      obtain ⟨x, hx, hxl, hxs⟩ := cat_ex dg t (by rw [hdg]; have : t.size = t.data.toList.length := by simp
                                                  rw [this]; show 1 + _ ≤ _; omega)
      have hxm : x.data.toList = Lib.decDigits m := by rw [hxl, hdg, ← HDT.out, Lib.decDigits_one (by omega)]
      have HXM := Lib.hid hxm
      obtain ⟨y, hy, hyl, _⟩ := cat_ex ⟨#[45]⟩ x (by
        rw [hxs, hdg]
        have : t.size = t.data.toList.length := by simp
        rw [this]
        show 1 + (1 + _) ≤ _
        omega)
      have HYM := Lib.hid (show y.data.toList = 45 :: Lib.decDigits m by rw [hyl, hxm]; rfl)
      have HB1 := Lib.hid (HB.out.trans ((plus_one1 wo (.cells #[.int .u8 (48 + (k : Int))] 5)).mono HB.out.size))
      have HC := Lib.hid ((conv_one (g := wo.heap.size) (show k < 10 by omega) (show (wo.alloc (.cells #[.int .u8 (48 + (k : Int))] 5)).cell? ⟨wo.heap.size, 0, none⟩ = some (.int .u8 (48 + (k : Int))) from blk_cell (heap_alloc_new wo _) 0)).trans (show Result.ok (Value.string ⟨#[UInt8.ofNat (48 + k)]⟩) (wo.alloc (.cells #[.int .u8 (48 + (k : Int))] 5)) = .ok (.string dg) _ by rw [hdg]))
      clear hdg hxl hxs hyl hxm
      by_cases h : n < 0
      · have HV := Lib.hid (show (⟨(Lib.itoa n).toArray⟩ : ByteArray) = y from ba_ext (by rw [HYM.out, HIT.out, if_pos h]))
        go_wp2_with fail
        rw [HC.out]
        simp only [Result.andThen]
        rw [Oper.upon_value]
        go_wp2_with fail
        go_ret
        rw [HV.out]
        exact ⟨rfl, HB1.out⟩
      · have HV := Lib.hid (show (⟨(Lib.itoa n).toArray⟩ : ByteArray) = x from ba_ext (by rw [HXM.out, HIT.out, if_neg h]))
        go_wp2_with fail
        rw [HC.out]
        simp only [Result.andThen]
        rw [Oper.upon_value]
        go_wp2_with fail
        go_ret
        rw [HV.out]
        exact ⟨rfl, HB1.out⟩
/-- Is there a byte that is no digit? -/
theorem num_no {s : ByteArray} {i : Nat} (hi : i < s.size) (h1 : ¬ (i = 0 ∧ bAt s 0 = 45)) (h2 : bAt s i < 48 ∨ 57 < bAt s i) : numT s = none := by
  cases h : numT s with
  | none => rfl
  | some v =>
    have := (num_word h).2.2.2.1 i hi
    omega
theorem num_short {s : ByteArray} (h1 : s.size < 1 ∨ 20 < s.size) : numT s = none := by
  cases h : numT s with
  | none => rfl
  | some v =>
    obtain ⟨a, b, _⟩ := num_word h
    omega
/-- The number that the document makes of a word's digits. -/
def fromD (s : ByteArray) : Int := if bAt s 0 = 45 then IntKind.i64.wrap (-(IntKind.i64.wrap ((dvTo s s.size % 18446744073709551616 : Nat) : Int))) else IntKind.i64.wrap ((dvTo s s.size % 18446744073709551616 : Nat) : Int)
theorem fromD_eq {s : ByteArray} {v : Int} (h : numT s = some v) : fromD s = v := by
  obtain ⟨hv, _⟩ := numT_some h
  obtain ⟨_, _, h3, _, h5⟩ := num_word h
  unfold i64B at hv
  unfold fromD
  rw [h5]
  by_cases hs : bAt s 0 = 45
  · have := h3.1 hs
    rw [if_pos hs, IntKind.wrap_i64, IntKind.wrap_i64]
    omega
  · have : ¬ v < 0 := fun h => hs (h3.2 h)
    rw [if_neg hs, IntKind.wrap_i64]
    omega
theorem fromD_i64 (s : ByteArray) : i64B (fromD s) := by
  unfold fromD i64B
  split
  · rw [IntKind.wrap_i64]; omega
  · rw [IntKind.wrap_i64]; omega
theorem fromD_is {s : ByteArray} : numT s = if (⟨(Lib.itoa (fromD s)).toArray⟩ : ByteArray) = s then some (fromD s) else none := by
  split
  · next h => exact numT_of (fromD_i64 s) (by have := congrArg (fun t : ByteArray => t.data.toList) h; simpa using this)
  · next h =>
    cases hn : numT s with
    | none => rfl
    | some v =>
      exfalso
      apply h
      rw [fromD_eq hn]
      exact ba_ext (by simpa using (numT_some hn).2)
theorem bAt_ix {s : ByteArray} {i : Nat} (h : i < s.size) : ((s[i]'h).toNat : Int) = (bAt s i : Int) := by
  rw [bAt_get (by simpa using h)]
  rfl
set_option maxRecDepth 100000 in
set_option maxHeartbeats 16000000 in
theorem rnumber_calls (s : ByteArray) (hs : s.size ≤ 140737488351232) (w : World) :
    Calls Tryd.prog 50 #[.string s] w fun e w' => ∃ z, e = .returned (.tuple #[.int .i64 z, .bool (numT s).isSome]) ∧ (∀ v, numT s = some v → z = v) ∧ Below w.heap.size w w' := by
  have hsz : (0 : Int) ≤ (s.size : Int) := Int.natCast_nonneg _
  by_cases hl0 : s.size < 1
  · have HV := Lib.hid (num_short (s := s) (.inl hl0))
    have h1 : (s.size : Int) < 1 := by omega
    go_enter Tryd.func50, Tryd.ntmps50
    go_wp2_with fail
    go_ret2
    rw [HV.out]
    exact ⟨0, rfl, (fun v h => by cases h), Below.refl _ _⟩
  by_cases hl1 : 20 < s.size
  · have HV := Lib.hid (num_short (s := s) (.inr hl1))
    have h1 : ¬ (s.size : Int) < 1 := by omega
    have h2 : (20 : Int) < (s.size : Int) := by omega
    go_enter Tryd.func50, Tryd.ntmps50
    go_wp2_with fail
    go_ret2
    rw [HV.out]
    exact ⟨0, rfl, (fun v h => by cases h), Below.refl _ _⟩
  have h1 : ¬ (s.size : Int) < 1 := by omega
  have h2 : ¬ (20 : Int) < (s.size : Int) := by omega
  have HF := Lib.hid (fromD_is (s := s))
  have HFI := Lib.hid (fromD_i64 s)
  have HFD := Lib.hid (show fromD s = if bAt s 0 = 45 then IntKind.i64.wrap (-(IntKind.i64.wrap ((dvTo s s.size % 18446744073709551616 : Nat) : Int))) else IntKind.i64.wrap ((dvTo s s.size % 18446744073709551616 : Nat) : Int) from rfl)
  have HN := Lib.hid (fun (n : Int) (hn : i64B n) => num25_calls n hn w)
  generalize fromD s = z at HF HFI HFD
  have HNZ := Lib.hid (HN.out z HFI.out)
  have HTL := Lib.hid (tl_eq (⟨(Lib.itoa z).toArray⟩ : ByteArray) s)
  generalize (⟨(Lib.itoa z).toArray⟩ : ByteArray) = tz at HF HNZ HTL
  have HS := Lib.hid (show 0 < s.size by omega)
  clear hl0 hl1 HN
  go_enter Tryd.func50, Tryd.ntmps50
  go_wp2_with fail
  go_loop [4, 5] (fun u v => ∃ i : Nat, v = .int .i64 (i : Int) ∧ u = .int .u64 ((dvTo s i % 18446744073709551616 : Nat) : Int) ∧ i ≤ s.size) (fun _ v => s.size - (intOf v).toNat)
  case atStart => exact ⟨0, rfl, rfl, Nat.zero_le _⟩
  case round =>
    obtain ⟨i, rfl, rfl, hi⟩ := hrel
    have hiz : (0 : Int) ≤ (i : Int) := Int.natCast_nonneg _
    by_cases his : i < s.size
    · have his' : (i : Int) < (s.size : Int) := by omega
      obtain ⟨c, hc⟩ : ∃ c : Int, c = (bAt s i : Int) := ⟨_, rfl⟩
      have hb0 : ((s[i]'his).toNat : Int) = c := by rw [bAt_ix his, hc]
      have HC := Lib.hid hc
      have HD := Lib.hid (show dvTo s (i + 1) = if i = 0 ∧ bAt s 0 = 45 then 0 else dvTo s i * 10 + (bAt s i - 48) from rfl)
      have HNO := Lib.hid (fun (h1 : ¬ (i = 0 ∧ bAt s 0 = 45)) (h2 : bAt s i < 48 ∨ 57 < bAt s i) => num_no (s := s) his h1 h2)
      obtain ⟨d, hd⟩ : ∃ d : Nat, d = dvTo s i % 18446744073709551616 := ⟨_, rfl⟩
      rw [← hd]
      have hdz : (0 : Int) ≤ (d : Int) := Int.natCast_nonneg _
      have HDD := Lib.hid hd
      clear hc hd
      by_cases hm : i = 0 ∧ c = 45
      · obtain ⟨rfl, rfl⟩ := hm
        have HD1 := Lib.hid (show d = dvTo s (0 + 1) % 18446744073709551616 by
          rw [HD.out, if_pos ⟨rfl, by have := HC.out; omega⟩, HDD.out]
          rfl)
        go_wp2_with fail
        go_round
        case rel => exact ⟨1, rfl, by rw [← HD1.out], by omega⟩
        case measure => simp [intOf]; omega
      · have HMM := Lib.hid (show ¬ (i = 0 ∧ bAt s 0 = 45) by
          intro ⟨e, h⟩
          exact hm ⟨e, by rw [HC.out, e, h]; rfl⟩)
        by_cases hlo : c < 48
        · have HV := Lib.hid (HNO.out HMM.out (.inl (by have := HC.out; omega)))
          by_cases hi0 : i = 0
          · subst hi0
            have hc45 : (c == 45) = false := by simpa using fun e => hm ⟨rfl, e⟩
            go_wp2_with fail
            go_ret2
            rw [HV.out]
            exact ⟨0, rfl, (fun v h => by cases h), Below.refl _ _⟩
          · have hi1 : ((i : Int) == 0) = false := by simpa using hi0
            go_wp2_with fail
            go_ret2
            rw [HV.out]
            exact ⟨0, rfl, (fun v h => by cases h), Below.refl _ _⟩
        · by_cases hhi : 57 < c
          · have HV := Lib.hid (HNO.out HMM.out (.inr (by have := HC.out; omega)))
            by_cases hi0 : i = 0
            · subst hi0
              have hc45 : (c == 45) = false := by simpa using fun e => hm ⟨rfl, e⟩
              go_wp2_with fail
              go_ret2
              rw [HV.out]
              exact ⟨0, rfl, (fun v h => by cases h), Below.refl _ _⟩
            · have hi1 : ((i : Int) == 0) = false := by simpa using hi0
              go_wp2_with fail
              go_ret2
              rw [HV.out]
              exact ⟨0, rfl, (fun v h => by cases h), Below.refl _ _⟩
          · obtain ⟨e, he⟩ : ∃ e : Nat, c = 48 + (e : Int) := ⟨(c - 48).toNat, by omega⟩
            have HE := Lib.hid he
            have c1 : IntKind.u8.wrap (c - 48) = (e : Int) := by simp [IntKind.wrap, IntKind.bits, IntKind.signed]; omega
            have c2 : IntKind.u64.wrap (e : Int) = (e : Int) := by rw [wrap_u64]; omega
            have HD2 := Lib.hid (show IntKind.u64.wrap (IntKind.u64.wrap ((d : Int) * 10) + (e : Int)) = ((dvTo s (i + 1) % 18446744073709551616 : Nat) : Int) by
              rw [HD.out, if_neg HMM.out, wrap_u64, wrap_u64, HDD.out]
              have h1 : bAt s i - 48 = e := by have := HC.out; have := HE.out; omega
              rw [h1]
              omega)
            obtain ⟨d2, hd2⟩ : ∃ d2, d2 = dvTo s (i + 1) % 18446744073709551616 := ⟨_, rfl⟩
            have HD3 := HD2.out
            rw [← hd2] at HD3
            have HD4 := Lib.hid hd2
            clear HD2 hd2 HD HNO
            by_cases hi0 : i = 0
            · subst hi0
              have hc45 : (c == 45) = false := by simpa using fun e => hm ⟨rfl, e⟩
              subst he
              go_wp2_with fail
              go_round
              case rel => exact ⟨0 + 1, rfl, by rw [← HD4.out], by omega⟩
              case measure => simp [intOf]; omega
            · have hi1 : ((i : Int) == 0) = false := by simpa using hi0
              clear hi0
              subst he
              go_wp2_with fail
              go_round
              case rel => exact ⟨i + 1, by go_num, by rw [← HD4.out], by omega⟩
              case measure => simp [intOf]; omega
    · have hie : i = s.size := by omega
      subst hie
      have his' : ¬ (s.size : Int) < (s.size : Int) := by omega
      obtain ⟨y, hy⟩ : ∃ y, IntKind.i64.wrap ((dvTo s s.size % 18446744073709551616 : Nat) : Int) = y := ⟨_, rfl⟩
      rw [hy] at HFD
      have h01 : (0 : Int) < (s.size : Int) := by have := HS.out; omega
      obtain ⟨c, hc⟩ : ∃ c : Int, c = (bAt s 0 : Int) := ⟨_, rfl⟩
      have hb0 : ((s[0]'HS.out).toNat : Int) = c := by rw [bAt_ix HS.out, hc]
      have HC := Lib.hid hc
      generalize dvTo s s.size % 18446744073709551616 = dd at hy ⊢
      clear hc his hi
      by_cases hc45 : c = 45
      · have hz : IntKind.i64.wrap (-y) = z := by rw [HFD.out, if_pos (by have := HC.out; omega)]
        subst hc45
        cases hts : (tz.toList == s.toList) with
        | true =>
          have HV := Lib.hid (show numT s = some z by
            rw [HF.out, if_pos (by have := HTL.out; rw [hts] at this; exact of_decide_eq_true this.symm)])
          clear HF HFD
          go_wp2_with fail
          refine HNZ.out.mono ?_
          rintro e w5 ⟨rfl, hb5⟩
          have HB5 := Lib.hid hb5
          clear hb5
          go_wp2_with fail
          go_ret2
          rw [HV.out]
          exact ⟨z, rfl, fun v h => Option.some.inj h, HB5.out⟩
        | false =>
          have HV := Lib.hid (show numT s = none by
            rw [HF.out, if_neg (by have := HTL.out; rw [hts] at this; exact of_decide_eq_false this.symm)])
          clear HF HFD
          go_wp2_with fail
          refine HNZ.out.mono ?_
          rintro e w5 ⟨rfl, hb5⟩
          have HB5 := Lib.hid hb5
          clear hb5
          go_wp2_with fail
          go_ret2
          rw [HV.out]
          exact ⟨z, rfl, (fun v h => by cases h), HB5.out⟩
      · have hz : y = z := by rw [HFD.out, if_neg (by have := HC.out; omega)]
        subst hz
        have hc45' : (c == 45) = false := by simpa using hc45
        clear hc45
        cases hts : (tz.toList == s.toList) with
        | true =>
          have HV := Lib.hid (show numT s = some y by
            rw [HF.out, if_pos (by have := HTL.out; rw [hts] at this; exact of_decide_eq_true this.symm)])
          clear HF HFD
          go_wp2_with fail
          refine HNZ.out.mono ?_
          rintro e w5 ⟨rfl, hb5⟩
          have HB5 := Lib.hid hb5
          clear hb5
          go_wp2_with fail
          go_ret2
          rw [HV.out]
          exact ⟨y, rfl, fun v h => Option.some.inj h, HB5.out⟩
        | false =>
          have HV := Lib.hid (show numT s = none by
            rw [HF.out, if_neg (by have := HTL.out; rw [hts] at this; exact of_decide_eq_false this.symm)])
          clear HF HFD
          go_wp2_with fail
          refine HNZ.out.mono ?_
          rintro e w5 ⟨rfl, hb5⟩
          have HB5 := Lib.hid hb5
          clear hb5
          go_wp2_with fail
          go_ret2
          rw [HV.out]
          exact ⟨y, rfl, (fun v h => by cases h), HB5.out⟩
end Go.Proofs.YtbgpniepgbmkaaaDoor
