/- The words of a line (parcloseref03.one). Conditions: the line is at most 4096 bytes; no sign of it may not be. -/
import Derived.Test.YtbgpniepgbmkaaaDoorR3
import Derived.Test.YtbgpniepgbmkaaaDoorPrt1
import Derived.Test.YtbgpniepgbmkaaaDoorFrom
namespace Go.Proofs.YtbgpniepgbmkaaaDoor
open Go.RowKit BigFrame

theorem wordR_cells (w : World) (d : Wd) : ∀ (j : Nat) (u : Value), (wdCells d)[j]? = some u → (w.alloc (.cells #[.string d.tx, .int .i64 d.ln, .int .i64 d.co] 63)).cell? ((⟨w.heap.size, 0, none⟩ : Addr).add j) = some u := by
  have h := heap_alloc_new w (.cells #[.string d.tx, .int .i64 d.ln, .int .i64 d.co] 63)
  intro j u hj
  have hlt : j < 3 := (List.getElem?_eq_some_iff.1 hj).1
  match j, hlt, hj with
  | 0, _, hj => injection hj with hj; subst hj; exact blk_cell h 0
  | 1, _, hj => injection hj with hj; subst hj; exact blk_cell h 1
  | 2, _, hj => injection hj with hj; subst hj; exact blk_cell h 2
/-- The text of the word that is under way. -/
def txt (u : ByteArray) (fr : Int) (pos : Nat) : ByteArray := if fr < 0 then ⟨#[]⟩ else u.extract fr.toNat pos
theorem txt_next {u : ByteArray} {fr : Int} {pos k : Nat} (h0 : ¬ fr < 0) (h1 : fr ≤ pos) (h2 : pos + k ≤ u.size) : (txt u fr pos).data.toList ++ (u.extract pos (pos + k)).data.toList = (txt u fr (pos + k)).data.toList := by
  unfold txt
  rw [if_neg h0, if_neg h0]
  simp only [ByteArray.data_extract, Array.toList_extract, List.extract_eq_take_drop]
  obtain ⟨q, rfl⟩ : ∃ q : Nat, fr = q := ⟨fr.toNat, by omega⟩
  rw [Int.toNat_natCast, show pos + k - q = (pos - q) + (pos + k - pos) by omega, List.take_add, List.drop_drop]
  congr 3
  omega
theorem txt_some {u : ByteArray} {fr : Int} {pos : Nat} (h0 : ¬ fr < 0) (h1 : fr < pos) (h2 : pos ≤ u.size) : ¬ (txt u fr pos).toList = [] := by
  intro h
  unfold txt at h
  rw [if_neg h0, ByteArray.toList_eq] at h
  have h3 := congrArg List.length h
  rw [Array.length_toList] at h3
  have h4 : (u.extract fr.toNat pos).size = 0 := h3
  rw [ByteArray.size_extract] at h4
  omega
set_option maxRecDepth 100000 in
set_option maxHeartbeats 16000000 in
theorem rone_calls (t : ByteArray) (ln : Int) (ht : t.size ≤ 4096) (hg : goodRun (t.extract 0 (hashAt t)) (hashAt t) 0) (w : World) :
    Calls Tryd.prog 49 #[.string t, .int .i64 ln] w fun e w' => ∃ v, e = .returned v ∧ w'.ownsRow w.heap.size 63 3 v (oneM t ln).length ((oneM t ln).flatMap wdCells) ∧ Below w.heap.size w w' := by
  obtain ⟨i0, hi, hz0, hz1, hz2⟩ := info_parts Tryd.info_word
  have HI0 := Lib.hid hi
  have HG := Lib.hid hg
  have tz : (0 : Int) ≤ (t.size : Int) := Int.natCast_nonneg _
  have t9 : (t.size : Int) ≤ 4096 := by omega
  have hown0 : (w.alloc (.cells #[] 63)).ownsRow w.heap.size 63 3 (.slice (some ⟨w.heap.size, 0, none⟩) 0 0) 0 [] := World.ownsRow_made w #[] 0 (Nat.le_refl _) (by unfold maxLen; omega) (by simp)
  have HO0 := Lib.hid hown0
  have HB0 := Lib.hid (plus_one1 w (.cells #[] 63))
  clear hi hg hown0
  go_enter Tryd.func49, Tryd.ntmps49
  go_upto_block 0 with (fail)
  obtain ⟨w1, hw1⟩ : ∃ w1, w1 = w.alloc (.cells #[] 63) := ⟨_, rfl⟩
  obtain ⟨v0, hv0⟩ : ∃ v0, v0 = Value.slice (some ⟨w.heap.size, 0, none⟩) 0 0 := ⟨_, rfl⟩
  rw [← hw1, ← hv0] at HO0
  rw [← hw1] at HB0
  rw [← hw1, ← hv0]
  clear hw1 hv0
  obtain ⟨ut, hut⟩ : ∃ ut, ut = t.extract 0 (hashAt t) := ⟨_, rfl⟩
  have HUT := Lib.hid hut
  clear hut
  go_cut [0] (fun u wx => u = .string ut ∧ wx = w1)
  case first => as_aux_lemma =>
    go_upto_region 3 with (fail)
    go_loop [0, 6] (fun u0 u6 => ∃ i : Nat, u6 = .int .i64 i ∧ ((u0 = .string t ∧ i ≤ hashAt t) ∨ (u0 = .string ut ∧ hashAt t < t.size ∧ i = hashAt t + 1))) (fun _ u => t.size + 1 - (intOf u).toNat)
    case atStart => exact ⟨0, rfl, .inl ⟨rfl, Nat.zero_le _⟩⟩
    case round =>
      obtain ⟨i, rfl, hst⟩ := hrel
      have hiz : (0 : Int) ≤ (i : Int) := Int.natCast_nonneg _
      have hh := hash_le t
      rcases hst with ⟨rfl, hi2⟩ | ⟨rfl, hlt, hi2⟩
      · by_cases hc : i < t.size
        · have hc' : (i : Int) < (t.size : Int) := by omega
          obtain ⟨c, hcx⟩ : ∃ c : Int, c = (bAt t i : Int) := ⟨_, rfl⟩
          have hb0 : ((t[i]'hc).toNat : Int) = c := by rw [hcx, bAt_eq t i hc]
          have HC := Lib.hid hcx
          clear hcx
          by_cases t35 : c = 35
          · have HE := Lib.hid (show i = hashAt t from by
              have := HC.out
              rcases Nat.lt_or_ge i (hashAt t) with h | h
              · have := hash_before h; omega
              · omega)
            have hcl : (i : Int) ≤ (t.size : Int) := by omega
            subst t35
            clear HC hi2 hh
            go_wp2_with fail
            go_round
            case rel => exact ⟨i + 1, by go_num, .inr ⟨by rw [HUT.out, ← HE.out], by rw [← HE.out]; exact hc, by rw [← HE.out]⟩⟩
            case measure => simp [intOf]; omega
          · have t35a : (c == 35) = false := by simpa using t35
            have HE := Lib.hid (show i + 1 ≤ hashAt t from by
              have := HC.out
              rcases Nat.lt_or_ge i (hashAt t) with h | h
              · omega
              · have he : i = hashAt t := by omega
                have := hash_there (t := t) (by omega)
                rw [← he] at this
                omega)
            clear HC hi2 hh t35
            go_wp2_with fail
            go_round
            case rel => exact ⟨i + 1, by go_num, .inl ⟨rfl, HE.out⟩⟩
            case measure => simp [intOf]; omega
        · have hc' : ¬ (i : Int) < (t.size : Int) := by omega
          have HE := Lib.hid (show ut = t by
            have : hashAt t = t.size := by omega
            rw [HUT.out, this]
            exact ByteArray.extract_zero_size)
          clear hc hi2 hh
          go_wp2_with fail
          go_meet
          exact ⟨by rw [HE.out], rfl⟩
      · have hsz : ut.size = hashAt t := by rw [HUT.out, ByteArray.size_extract]; omega
        have hc' : ¬ (i : Int) < (ut.size : Int) := by rw [hsz]; omega
        clear hsz hh hi2 hlt
        go_wp2_with fail
        go_meet
        exact ⟨rfl, rfl⟩
  case rest =>
  obtain ⟨rfl, rfl⟩ := hcut
  have HR := Lib.hid (show oneM t ln = oneRun (t.extract 0 (hashAt t)) (hashAt t) 0 ⟨[], ln, 0, -1, 0, false⟩ from rfl)
  obtain ⟨u, hu0⟩ : ∃ u, u = ut := ⟨_, rfl⟩
  rw [← hu0] at HUT ⊢
  have hu := HUT.out
  clear hu0 HUT
  have hh := hash_le t
  have husz : u.size = hashAt t := by rw [hu, ByteArray.size_extract]; omega
  rw [← hu] at HG HR
  rw [← husz] at HG HR
  obtain ⟨R, hR⟩ : ∃ R, R = oneM t ln := ⟨_, rfl⟩
  rw [← hR] at HR
  have HRO := Lib.hid hR
  have u9 : (u.size : Int) ≤ 4096 := by omega
  have uz : (0 : Int) ≤ (u.size : Int) := Int.natCast_nonneg _
  clear hu hh husz hR tz t9 ht
  go_wp2_with fail
  go_loopw [5, 7, 8, 9, 10] (fun u5 u7 u8 u9 u10 wr => ∃ (f pos : Nat) (L : List Wd) (co fr ca : Int) (v : Value), u5 = v ∧ u7 = .int .i64 co ∧ u8 = .string (txt u fr pos) ∧ u9 = .int .i64 ca ∧ u10 = .int .i64 pos ∧ pos ≤ u.size ∧ u.size - pos ≤ f ∧ oneRun u f pos ⟨L, ln, co, fr, ca, false⟩ = R ∧ goodRun u f pos ∧ -1 ≤ fr ∧ fr < pos ∧ L.length ≤ pos ∧ 0 ≤ co ∧ co ≤ pos ∧ wr.ownsRow w.heap.size 63 3 v L.length (L.flatMap wdCells) ∧ Below w.heap.size w wr) (fun _ _ _ _ x _ => u.size - (intOf x).toNat)
  case atStart => exact ⟨u.size, 0, [], 0, -1, 0, _, rfl, rfl, rfl, rfl, rfl, Nat.zero_le _, by omega, HR.out.symm, HG.out, by omega, by omega, Nat.zero_le _, by omega, by omega, HO0.out, HB0.out⟩
  case round =>
    clear HG HR HO0 HB0
    obtain ⟨f, pos, L, co, fr, ca, v, rfl, rfl, rfl, rfl, rfl, hp, hf, hrun, hgood, f1, f2, hL, k1, k2, hown, hbel⟩ := hrel
    have HRU := Lib.hid hrun
    have HGO := Lib.hid hgood
    have HO := Lib.hid hown
    have HB := Lib.hid hbel
    have hbs := hbel.size
    have hpz : (0 : Int) ≤ (pos : Int) := Int.natCast_nonneg _
    clear hrun hgood hbel
    by_cases hc : pos < u.size
    · have hc' : (pos : Int) < (u.size : Int) := by omega
      have hcl : (pos : Int) ≤ (u.size : Int) := by omega
      obtain ⟨f, rfl⟩ : ∃ f', f = f' + 1 := ⟨f - 1, by omega⟩
      obtain ⟨hbad, hg2⟩ := HGO.out hc
      have HG2 := Lib.hid hg2
      have HW := Lib.hid (fun x : World => rwide_calls (u.extract pos u.size) (by have := extract_size u pos u.size; omega) x)
      rw [wide_from] at HW
      have hw1 := wide_pos hbad
      have hwl := wide_le hc
      obtain ⟨c, hcx⟩ : ∃ c : Int, c = (bAt u pos : Int) := ⟨_, rfl⟩
      have hb0 : ((u[pos]'hc).toNat : Int) = c := by rw [hcx, bAt_eq u pos hc]
      have HC := Lib.hid hcx
      have HR2 := Lib.hid (show (if bAt u pos = 32 then oneRun u f (pos + wideM u pos) ⟨endL L u ln fr ca pos, ln, co + 1, -1, ca, false⟩ else oneRun u f (pos + wideM u pos) ⟨L, ln, co + 1, if fr < 0 then (pos : Int) else fr, if fr < 0 then co + 1 else ca, false⟩) = R by have := HRU.out; rw [oneRun, if_pos hc] at this; exact this)
      obtain ⟨k, hk⟩ : ∃ k, k = wideM u pos := ⟨_, rfl⟩
      rw [← hk] at HW HR2 HG2 hw1 hwl
      clear hcx HRU HGO hk hbad hg2
      have hk0 : (0 : Int) ≤ (k : Int) := Int.natCast_nonneg _
      have hk9 : (k : Int) ≤ 4096 := by omega
      obtain ⟨e, he⟩ : ∃ e : Nat, e = pos + k := ⟨_, rfl⟩
      have he1 : (pos : Int) + (k : Int) = (e : Int) := by omega
      have he2 : (e : Int) ≤ (u.size : Int) := by omega
      have he3 : (pos : Int) ≤ (e : Int) := by omega
      have he4 : pos < e := by omega
      have he5 : e ≤ u.size := by omega
      have hez : (0 : Int) ≤ (e : Int) := Int.natCast_nonneg _
      rw [← he] at HR2 HG2
      have HE := Lib.hid he
      clear he hwl hw1
      by_cases t32 : c = 32
      · have HR3 := Lib.hid (show oneRun u f e ⟨endL L u ln fr ca pos, ln, co + 1, -1, ca, false⟩ = R by have := HR2.out; rw [if_pos (by have := HC.out; omega)] at this; exact this)
        have HT0 := Lib.hid (show txt u (-1) e = ⟨#[]⟩ from rfl)
        subst t32
        clear HR2 HC
        by_cases hfr : fr < 0
        · have htx : txt u fr pos = ⟨#[]⟩ := by unfold txt; rw [if_pos hfr]
          have HR4 := Lib.hid (show oneRun u f e ⟨L, ln, co + 1, -1, ca, false⟩ = R by have := HR3.out; rw [show endL L u ln fr ca pos = L by unfold endL; rw [if_neg (by omega)]] at this; exact this)
          rw [htx]
          clear HR3 htx hown
          go_wp2_with fail
          refine (HW.out _).mono ?_
          rintro _ wr ⟨rfl, rfl⟩
          go_wp2_with fail
          go_roundw
          case rel => exact ⟨f, e, L, co + 1, -1, ca, _, rfl, by go_num, by rw [HT0.out], rfl, by go_num, by omega, by omega, HR4.out, HG2.out, by omega, by omega, by omega, by omega, by omega, HO.out, HB.out⟩
          case measure => simp [intOf]; omega
        · have HR4 := Lib.hid (show oneRun u f e ⟨L ++ [⟨txt u fr pos, ln, ca⟩], ln, co + 1, -1, ca, false⟩ = R by have := HR3.out; rw [show endL L u ln fr ca pos = L ++ [⟨txt u fr pos, ln, ca⟩] by unfold endL txt; rw [if_pos (by omega), if_neg hfr]] at this; exact this)
          have hne := txt_some hfr f2 hp
          obtain ⟨tx, htx⟩ : ∃ tx, tx = txt u fr pos := ⟨_, rfl⟩
          rw [← htx] at HR4 hne ⊢
          have hne2 : (tx.toList == []) = false := by simpa using hne
          clear HR3 htx
          go_wp2_with fail
          refine (HW.out _).mono ?_
          rintro _ wr ⟨rfl, rfl⟩
          go_wp2_with (at_builtin; go_loud (refine wpList_append_at rfl (.tmp 42) (.tmp 47) 58 rfl w.heap.size 63 i0 (.agg #[.string ByteArray.empty, .int .i64 0, .int .i64 0]) 3 32 Tryd.underlying58 HI0.out hz0 hz1 hz2 rfl (by decide) u5 _ _ rfl (hown.alloc _) ⟨wr.heap.size, 0, none⟩ 1 1 (wdCells ⟨tx, ln, ca⟩) rfl rfl ?c1 ?c2 ?c3 ?c4 ?c5 ?_))
          case c1 => first | exact wordR_cells wr _ | exact fun j u h => h
          case c2 => exact wdCells_one _
          case c3 => unfold maxLen; omega
          case c4 => omega
          case c5 => first | omega | (simp; omega)
          intro v4 w4 own4 gr4 at4
          have HO4 := Lib.hid (show w4.ownsRow w.heap.size 63 3 v4 ((L ++ [(⟨tx, ln, ca⟩ : Wd)]).length) ((L ++ [(⟨tx, ln, ca⟩ : Wd)]).flatMap wdCells) by rw [List.length_append, List.flatMap_append]; simpa using own4)
          have HB4 := Lib.hid (show Below w.heap.size w w4 from (HB.out.alloc HB.out.size _).grown gr4 (by have := HB.out.size; simp; omega) (fun k hk => (hown.lt k hk).1))
          clear own4 gr4 at4
          go_wp2_with fail
          go_roundw
          case rel => exact ⟨f, e, L ++ [⟨tx, ln, ca⟩], co + 1, -1, ca, _, rfl, by go_num, by rw [HT0.out], rfl, by go_num, by omega, by omega, HR4.out, HG2.out, by omega, by omega, by rw [List.length_append]; simp; omega, by omega, by omega, HO4.out, HB4.out⟩
          case measure => simp [intOf]; omega
      · have t32a : (c == 32) = false := by simpa using t32
        have HR3 := Lib.hid (show oneRun u f e ⟨L, ln, co + 1, if fr < 0 then (pos : Int) else fr, if fr < 0 then co + 1 else ca, false⟩ = R by have := HR2.out; rw [if_neg (by have := HC.out; omega)] at this; exact this)
        clear HR2 HC t32
        by_cases hfr : fr < 0
        · have htx : txt u fr pos = ⟨#[]⟩ := by unfold txt; rw [if_pos hfr]
          have HR4 := Lib.hid (show oneRun u f e ⟨L, ln, co + 1, (pos : Int), co + 1, false⟩ = R by have := HR3.out; rw [if_pos hfr, if_pos hfr] at this; exact this)
          have HT1 := Lib.hid (show txt u (pos : Int) e = u.extract pos e by unfold txt; rw [if_neg (by omega), Int.toNat_natCast])
          have hcat : ∀ x : World, (Op.stringOp .add ⟨#[]⟩ (u.extract pos e)).run Tryd.prog x = .ok (.string (u.extract pos e)) x := fun x => by
            rw [run_string_add_sum x _ _ (by have := extract_size u pos e; rw [show (⟨#[]⟩ : ByteArray).size = 0 from rfl]; omega)]
            rw [show (⟨#[]⟩ : ByteArray) ++ u.extract pos e = u.extract pos e from ba_ext (by simp [ByteArray.data_append])]
          rw [htx]
          clear HR3 htx hown
          go_wp2_with fail
          refine (HW.out _).mono ?_
          rintro _ wr ⟨rfl, rfl⟩
          go_wp2_with fail
          go_roundw
          case rel => exact ⟨f, e, L, co + 1, (pos : Int), co + 1, _, rfl, by go_num, by rw [HT1.out], by go_num, by go_num, by omega, by omega, HR4.out, HG2.out, by omega, by omega, by omega, by omega, by omega, HO.out, HB.out⟩
          case measure => simp [intOf]; omega
        · have HR4 := Lib.hid (show oneRun u f e ⟨L, ln, co + 1, fr, ca, false⟩ = R by have := HR3.out; rw [if_neg hfr, if_neg hfr] at this; exact this)
          have hne := txt_some hfr f2 hp
          have hnx := txt_next (u := u) (pos := pos) (k := k) hfr (by omega) (by have := HE.out; omega)
          rw [← HE.out] at hnx
          have hxs : (txt u fr pos).size ≤ u.size := by unfold txt; rw [if_neg hfr]; exact extract_size _ _ _
          obtain ⟨tx, htx⟩ : ∃ tx, tx = txt u fr pos := ⟨_, rfl⟩
          rw [← htx] at hne hnx hxs ⊢
          obtain ⟨y, hy, hyl, _⟩ := cat_ex tx (u.extract pos e) (by have := extract_size u pos e; omega)
          have HT2 := Lib.hid (show txt u fr e = y from ba_ext (by rw [hyl, hnx]))
          have hne2 : (tx.toList == []) = false := by simpa using hne
          clear HR3 htx hnx hxs hyl hown
          go_wp2_with fail
          refine (HW.out _).mono ?_
          rintro _ wr ⟨rfl, rfl⟩
          go_wp2_with fail
          go_roundw
          case rel => exact ⟨f, e, L, co + 1, fr, ca, _, rfl, by go_num, by rw [HT2.out], rfl, by go_num, by omega, by omega, HR4.out, HG2.out, by omega, by omega, by omega, by omega, by omega, HO.out, HB.out⟩
          case measure => simp [intOf]; omega
    have hpe : pos = u.size := by omega
    have HRE := Lib.hid (show endL L u ln fr ca u.size = R by have := HRU.out; rw [oneRun_end hc] at this; exact this)
    have hc' : ¬ (pos : Int) < (u.size : Int) := by omega
    rw [← hpe] at HRE
    by_cases hfr : fr < 0
    · have htx : txt u fr pos = ⟨#[]⟩ := by unfold txt; rw [if_pos hfr]
      have HR4 := Lib.hid (show L = R by have := HRE.out; rw [show endL L u ln fr ca pos = L by unfold endL; rw [if_neg (by omega)]] at this; exact this)
      rw [htx]
      clear HRE HRU htx hown hc hpe
      go_wp2_with fail
      go_ret
      exact ⟨_, rfl, by rw [← HRO.out, ← HR4.out]; exact HO.out, HB.out⟩
    · have HR4 := Lib.hid (show L ++ [⟨txt u fr pos, ln, ca⟩] = R by have := HRE.out; rw [show endL L u ln fr ca pos = L ++ [⟨txt u fr pos, ln, ca⟩] by unfold endL txt; rw [if_pos (by omega), if_neg hfr]] at this; exact this)
      have hne := txt_some hfr f2 hp
      obtain ⟨tx, htx⟩ : ∃ tx, tx = txt u fr pos := ⟨_, rfl⟩
      rw [← htx] at HR4 hne ⊢
      have hne2 : (tx.toList == []) = false := by simpa using hne
      clear HRE HRU htx hc hpe
      go_wp2_with (at_builtin; go_loud (refine wpList_append_at rfl (.tmp 65) (.tmp 70) 58 rfl w.heap.size 63 i0 (.agg #[.string ByteArray.empty, .int .i64 0, .int .i64 0]) 3 32 Tryd.underlying58 HI0.out hz0 hz1 hz2 rfl (by decide) u5 _ _ rfl (hown.alloc _) ⟨wr.heap.size, 0, none⟩ 1 1 (wdCells ⟨tx, ln, ca⟩) rfl rfl ?c1 ?c2 ?c3 ?c4 ?c5 ?_))
      case c1 => first | exact wordR_cells wr _ | exact fun j u h => h
      case c2 => exact wdCells_one _
      case c3 => unfold maxLen; omega
      case c4 => omega
      case c5 => first | omega | (simp; omega)
      intro v4 w4 own4 gr4 at4
      have HO4 := Lib.hid (show w4.ownsRow w.heap.size 63 3 v4 ((L ++ [(⟨tx, ln, ca⟩ : Wd)]).length) ((L ++ [(⟨tx, ln, ca⟩ : Wd)]).flatMap wdCells) by rw [List.length_append, List.flatMap_append]; simpa using own4)
      have HB4 := Lib.hid (show Below w.heap.size w w4 from (HB.out.alloc HB.out.size _).grown gr4 (by have := HB.out.size; simp; omega) (fun k hk => (hown.lt k hk).1))
      clear own4 gr4 at4
      go_wp2_with fail
      go_ret
      exact ⟨_, rfl, by rw [← HRO.out, ← HR4.out]; exact HO4.out, HB4.out⟩
end Go.Proofs.YtbgpniepgbmkaaaDoor
