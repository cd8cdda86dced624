/- What policy.numbers does: words' numbers, put at places of one block. Conditions: the rows can be read, the block is the call's own. -/
import Derived.Test.YtkjhgfjlknbdkaaDoorNum1
namespace Go.Proofs.YtkjhgfjlknbdkaaDoor
open Go.RowKit BigFrame

/-- The first j numbers, each at its place. -/
def putN (cs : Array Value) : List Nat → List Int → Nat → Array Value
  | _, _, 0 => cs
  | offs, vals, j + 1 => (putN cs offs vals j).setIfInBounds (offs.getD j 0) (.int .i64 (vals.getD j 0))
theorem putN_size (cs : Array Value) (offs : List Nat) (vals : List Int) (j : Nat) : (putN cs offs vals j).size = cs.size := by
  induction j with
  | zero => rfl
  | succ j ih => rw [putN, Array.size_setIfInBounds, ih]
theorem ext_below3 {w w1 w2 : World} {F : Nat → Prop} (hb : Below w.heap.size w w1) (hx : Ext w1 w2 F) (hF : ∀ k, F k → w.heap.size ≤ k) : Below w.heap.size w w2 :=
  ⟨hx.os.trans hb.os, hx.tape.trans hb.tape, hx.output.trans hb.output, Nat.le_trans hb.size hx.size, fun k hk => (hx.block k (Nat.lt_of_lt_of_le hk hb.size) (fun h => by have := hF k h; omega)).trans (hb.block k hk)⟩
def numAll (W : List ByteArray) : Bool := W.all (fun x => (numM x).2)
theorem numAll_bad {W : List ByteArray} {i : Nat} {x : ByteArray} (h : W[i]? = some x) (hx : (numM x).2 = false) : numAll W = false := by
  unfold numAll
  rw [List.all_eq_false]
  exact ⟨x, List.mem_of_getElem? h, by rw [hx]; simp⟩
theorem numAll_good {W : List ByteArray} (h : ∀ x ∈ W, (numM x).2 = true) : numAll W = true := by
  unfold numAll
  rw [List.all_eq_true]
  exact h
set_option maxRecDepth 100000 in
set_option maxHeartbeats 16000000 in
theorem numbers_calls {w0 w : World} (hT : Tab w0) (hb : Below w0.heap.size w0 w) {tb : Nat} (htb : w0.heap.size ≤ tb) {W : List ByteArray} {offs : List Nat} {cs : Array Value} {T : TypeId} {vw vt : Value} {n m : Nat}
    (hw : Reads w 1 vw n (W.map Value.string)) (hvw : ∀ k, vw.ownBlock = some k → k ≠ tb) (ht : Reads w 1 vt m (offs.map (fun o => Value.pointer (some ⟨tb, o, none⟩)))) (hvt : ∀ k, vt.ownBlock = some k → k ≠ tb) (hnm : n ≤ m)
    (hc : w.heap[tb]? = some (.cells cs T (0, 0))) (hcs : ∀ o ∈ offs, o < cs.size) (hsz : ∀ x ∈ W, x.size ≤ 140737488351232) :
    Calls Tryd.prog 69 #[vw, vt] w fun e w' => e = .returned (.bool (numAll W)) ∧ Ext w w' (fun k => k = tb) ∧ ∃ cs', cs'.size = cs.size ∧ w'.heap[tb]? = some (.cells cs' T (0, 0)) ∧ (numAll W = true → cs' = putN cs offs (W.map (fun x => (numM x).1)) n) := by
  have hlw : W.length = n := by have := hw.1; simpa using this
  have hlo : offs.length = m := by have := ht.1; simpa using this
  have hltw := hw.lt
  have hltt := ht.lt
  obtain ⟨_, aw, cw, rfl, w2, w3, w4⟩ := hw
  obtain ⟨_, at_, ct, rfl, t2, t3, t4⟩ := ht
  unfold maxLen at w3 t3
  have HLW := Lib.hid hlw
  have HLO := Lib.hid hlo
  have HW4 := Lib.hid (fun hn : 0 < n => show ∃ bw ow, aw = some ⟨bw, ow, none⟩ ∧ bw < w.heap.size ∧ bw ≠ tb ∧ ∀ (i : Nat) (x : ByteArray), W[i]? = some x → w.cell? ⟨bw, ow + i, none⟩ = some (.string x) from by
    obtain ⟨bw, ow, e, h⟩ := w4 hn
    exact ⟨bw, ow, e, hltw hn (by omega) bw (by rw [e]; rfl), hvw bw (by rw [e]; rfl), fun i x hx => h i _ (by simp [hx])⟩)
  have HT4 := Lib.hid (fun hn : 0 < m => show ∃ bt ot, at_ = some ⟨bt, ot, none⟩ ∧ bt < w.heap.size ∧ bt ≠ tb ∧ ∀ (i : Nat) (o : Nat), offs[i]? = some o → w.cell? ⟨bt, ot + i, none⟩ = some (.pointer (some ⟨tb, o, none⟩)) from by
    obtain ⟨bt, ot, e, h⟩ := t4 hn
    exact ⟨bt, ot, e, hltt hn (by omega) bt (by rw [e]; rfl), hvt bt (by rw [e]; rfl), fun i x hx => h i _ (by simp [hx])⟩)
  have HTab := Lib.hid hT
  have HB := Lib.hid hb
  have HC := Lib.hid hc
  have HCS := Lib.hid hcs
  have HSZ := Lib.hid hsz
  clear hlw hlo hltw hltt w4 t4 hT hb hc hcs hsz hvw hvt
  go_enter Tryd.func69, Tryd.ntmps69
  go_wp2_with fail
  go_loopw [11] (fun u wr => ∃ j : Nat, u = .int .i64 j ∧ j ≤ n ∧ (∀ x ∈ W.take j, (numM x).2 = true) ∧ Ext w wr (fun k => k = tb) ∧ wr.heap[tb]? = some (.cells (putN cs offs (W.map (fun x => (numM x).1)) j) T (0, 0))) (fun u _ => n - (intOf u).toNat)
  case atStart => exact ⟨0, rfl, Nat.zero_le _, by simp, Ext.refl _ _, HC.out⟩
  case round =>
    obtain ⟨j, rfl, hj, hok, hx, hcj⟩ := hrel
    have HOK := Lib.hid hok
    have HX := Lib.hid hx
    have HCJ := Lib.hid hcj
    have hjz : (0 : Int) ≤ (j : Int) := Int.natCast_nonneg _
    clear hok hx hcj
    by_cases hjn : j < n
    · have hjn' : (j : Int) < (n : Int) := by omega
      have hjm' : (j : Int) < (m : Int) := by omega
      obtain ⟨x, hx⟩ : ∃ x, W[j]? = some x := ⟨_, List.getElem?_eq_getElem (by rw [HLW.out]; exact hjn)⟩
      obtain ⟨o, ho⟩ : ∃ o, offs[j]? = some o := ⟨_, List.getElem?_eq_getElem (by rw [HLO.out]; omega)⟩
      obtain ⟨bw, ow, rfl, hbw, hbwt, hcw⟩ := HW4.out (by omega)
      obtain ⟨bt, ot, rfl, hbt, hbtt, hct⟩ := HT4.out (by omega)
      have k0 : wr.cell? ⟨bw, ow + j, none⟩ = some (.string x) := (World.cell?_of_block (HX.out.block bw hbw hbwt)).trans (hcw j x hx)
      have hbel : Below w0.heap.size w0 wr := ext_below3 HB.out HX.out (fun k hk => by rw [hk]; exact htb)
      have HNU := Lib.hid (number_calls x (HSZ.out x (List.mem_of_getElem? hx)) wr (HTab.out.below hbel))
      have HXJ := Lib.hid hx
      have HOJ := Lib.hid ho
      have HP1 := Lib.hid (show wr.cell? ⟨bt, ot + j, none⟩ = some (.pointer (some ⟨tb, o, none⟩)) from (World.cell?_of_block (HX.out.block bt hbt hbtt)).trans (hct j o ho))
      have HBT := Lib.hid (show bt < wr.heap.size from Nat.lt_of_lt_of_le hbt HX.out.size)
      have HNB := Lib.hid (fun h : (numM x).2 = false => numAll_bad hx h)
      have HN1 := Lib.hid (show (W.map (fun x => (numM x).1)).getD j 0 = (numM x).1 by simp [List.getD_eq_getElem?_getD, hx])
      have HO1 := Lib.hid (show offs.getD j 0 = o by simp [List.getD_eq_getElem?_getD, ho])
      have HTK := Lib.hid (fun h : (numM x).2 = true => show ∀ y ∈ W.take (j + 1), (numM y).2 = true by
        rw [List.take_add_one, HXJ.out, Option.toList_some]
        intro y hy
        rcases List.mem_append.1 hy with hy | hy
        · exact HOK.out y hy
        · rw [List.mem_singleton] at hy
          rw [hy]
          exact h)
      generalize (numM x).1 = v at HNU HN1
      generalize (numM x).2 = ok at HNU HNB HTK
      clear hcw hct hx ho hbel
      cases ok with
      | false =>
        have HV := Lib.hid (HNB.out rfl)
        go_wp2_with fail
        refine HNU.out.mono ?_
        rintro e w5 ⟨rfl, hb5⟩
        have HX5 := Lib.hid (HX.out.then (Ext.of_below hb5))
        have HC5 := Lib.hid ((hb5.block tb (lt_of_block HCJ.out)).trans HCJ.out)
        clear hb5
        go_wp2_with fail
        go_ret
        rw [HV.out]
        exact ⟨rfl, HX5.out, _, putN_size _ _ _ _, HC5.out, fun h => by cases h⟩
      | true =>
        have HTK2 := Lib.hid (HTK.out rfl)
        go_wp2_with fail
        refine HNU.out.mono ?_
        rintro e w5 ⟨rfl, hb5⟩
        have HX5 := Lib.hid (HX.out.then (Ext.of_below hb5))
        have hc5 := (hb5.block tb (lt_of_block HCJ.out)).trans HCJ.out
        have p1 := below_cell1 hb5 HBT.out HP1.out
        have z1 : w5.frozen? ⟨tb, o, none⟩ = false := blk_free hc5 o
        have ho2 : o < (putN cs offs (W.map (fun x => (numM x).1)) j).size := by rw [putN_size]; exact HCS.out o (List.mem_of_getElem? HOJ.out)
        have p2 : w5.cell? ⟨tb, o, none⟩ = some ((putN cs offs (W.map (fun x => (numM x).1)) j)[o]) := by rw [blk_cell hc5 o]; exact Array.getElem?_eq_getElem ho2
        have hc6 := blk_set hc5 o (.int .i64 v)
        have HC6 := Lib.hid (show (w5.setCell ⟨tb, o, none⟩ (.int .i64 v)).heap[tb]? = some (.cells (putN cs offs (W.map (fun x => (numM x).1)) (j + 1)) T (0, 0)) by rw [putN, HN1.out, HO1.out]; simpa using hc6)
        have HX6 := Lib.hid (Ext.setCell (F := fun k => k = tb) HX5.out (p := ⟨tb, o, none⟩) (fun _ => rfl) (.int .i64 v))
        generalize (putN cs offs (W.map (fun x => (numM x).1)) j)[o] = old at p2
        clear hb5 hc5 hc6 ho2
        go_wp2_with fail
        go_roundw
        case rel => exact ⟨j + 1, by go_num, by omega, HTK2.out, HX6.out, HC6.out⟩
        case measure => simp [intOf]; omega
    · obtain rfl : j = n := by omega
      have hjn' : ¬ (j : Int) < (j : Int) := by omega
      have HV := Lib.hid (numAll_good (W := W) (by
        have := HOK.out
        rwa [List.take_of_length_le (by rw [HLW.out]; exact Nat.le_refl _)] at this))
      go_wp2_with fail
      go_ret
      rw [HV.out]
      exact ⟨rfl, HX.out, _, putN_size _ _ _ _, HCJ.out, fun _ => rfl⟩
end Go.Proofs.YtkjhgfjlknbdkaaDoor
