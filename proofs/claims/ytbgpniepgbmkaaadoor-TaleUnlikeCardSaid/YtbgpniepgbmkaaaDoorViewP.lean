/- An argument that is a policy, opened: its lists of domains, slots and links, and where they lie. No condition. -/
import Derived.Test.YtbgpniepgbmkaaaDoorPar
import Derived.Test.YtbgpniepgbmkaaaDoorView
import Derived.Lib.LaidTab
import Derived.LaidMore
import Derived.MakeChecks
import Derived.Stop.LaidErr
namespace Go.Proofs.YtbgpniepgbmkaaaDoor
open Go.ChangeShapes Go.WideShapes Go.Deep Go.RowKit Go
section
variable {H : Type} {enc : TypeId × Value → H} {P : Program} {w : World} {base : Nat} {spare : Nat → Bool} {held : Bool}
theorem choose_list {α : Type} {p : Nat → α → Prop} : ∀ n : Nat, (∀ i, i < n → ∃ r, p i r) → ∃ xs : List α, xs.length = n ∧ ∀ i r, xs[i]? = some r → p i r
  | 0, _ => ⟨[], rfl, fun i r h => by simp at h⟩
  | n + 1, h => by
    obtain ⟨xs, hl, hx⟩ := choose_list n (fun i hi => h i (by omega))
    obtain ⟨r, hr⟩ := h n (by omega)
    refine ⟨xs ++ [r], by simp [hl], fun i s hs => ?_⟩
    by_cases hi : i < n
    · rw [List.getElem?_append_left (by omega)] at hs
      exact hx i s hs
    · obtain ⟨hi2, _⟩ := List.getElem?_eq_some_iff.1 hs
      obtain rfl : i = n := by simp at hi2; omega
      rw [List.getElem?_append_right (by omega)] at hs
      simp [hl] at hs
      subst hs
      exact hr
theorem view_slice {α : Type} {f : α → List Value} {Q : α → DataW H → Prop} {t e : TypeId} {k fuel : Nat} {cs : List Value} {x : DataW H × List MemPlace} (ht : P.underlying t = some (.slice e)) (hC : P.cellsOf e = k) (hk : 0 < k) (hf : ∀ x, (f x).length = k)
    (hel : ∀ (n : Nat) (cs' : List Value) (y : DataW H × List MemPlace), DataW.trod enc P w base spare held n e cs' = some y → ∃ x : α, cs' = f x ∧ Q x y.1) (h : DataW.trod enc P w base spare held fuel t cs = some x) :
    ∃ (v : Value) (n : Nat) (xs : List α), cs = [v] ∧ xs.length = n ∧ Reads w k v n (xs.flatMap f) ∧ (xs = [] ∨ ∃ elems sp : List (DataW H), x.1 = .slice elems sp ∧ elems.length = n ∧ ∀ (i : Nat) (y : α), xs[i]? = some y → ∃ d, elems[i]? = some d ∧ Q y d) := by
  rcases open_slice ht h with ⟨hcs, hx⟩ | ⟨a, len, cap, m, n', D, Pl, hcs, hb, hl, hm, hmm, hx, hi⟩
  · exact ⟨_, 0, [], hcs, rfl, by simpa using Reads.nil w k, .inl rfl⟩
  · rw [hC] at hi
    have hlm : len ≤ m := by rw [hmm]; split <;> omega
    obtain ⟨xs, hxl, hxs⟩ := choose_list (α := α) (p := fun i y => Q y (D i) ∧ w.cells? base (a.add (i * k)) k = some (f y)) len (fun i hil => by
      obtain ⟨cs', h1, h2⟩ := hi i (by omega)
      obtain ⟨y, hy, hq⟩ := hel _ _ _ h2
      exact ⟨y, hq, by rw [← hy]; exact h1⟩)
    have hfl : (xs.flatMap f).length = len * k := by
      rw [← hxl]
      clear hxs hxl
      induction xs with
      | nil => simp
      | cons y r ih => rw [List.flatMap_cons, List.length_append, hf, ih, List.length_cons, Nat.add_mul]; omega
    refine ⟨_, len, xs, hcs, hxl, ⟨hfl, some a, cap, rfl, hl, hm, fun hn => ?_⟩, .inr ⟨_, _, by rw [hx], by simp, fun i y hy => ⟨D i, ?_, (hxs i y hy).1⟩⟩⟩
    · have hcell : ∀ (i : Nat) (y : α) (j : Nat) (u : Value), xs[i]? = some y → (f y)[j]? = some u → w.cell? (a.add (i * k + j)) = some u := by
        intro i y j u hy hu
        have hjk : j < k := by rw [← hf y]; exact (List.getElem?_eq_some_iff.1 hu).1
        obtain ⟨_, _, hat⟩ := World.cells?_some (hxs i y hy).2
        have := hat j hjk
        rw [Go.Deep.add_add, hu] at this
        exact this
      obtain ⟨y0, hy0⟩ : ∃ y, xs[0]? = some y := ⟨_, List.getElem?_eq_getElem (by omega)⟩
      obtain ⟨u0, hu0⟩ : ∃ u, (f y0)[0]? = some u := ⟨_, List.getElem?_eq_getElem (by rw [hf]; exact hk)⟩
      have h0 := hcell 0 y0 0 u0 hy0 hu0
      obtain ⟨ab, ao, asp⟩ := a
      have hsp : asp = none := by simpa [Addr.add] using World.cell?_spot h0
      subst hsp
      refine ⟨ab, ao, rfl, fun j u hj => ?_⟩
      have hj' : j = (j / k) * k + j % k := (Nat.div_add_mod' j k).symm
      rw [hj', flat_get_mem f k xs (j / k) (j % k) (fun x _ => hf x) (Nat.mod_lt _ hk)] at hj
      obtain ⟨y, hy, hu⟩ := Option.bind_eq_some_iff.1 hj
      have h1 := hcell (j / k) y (j % k) u hy hu
      rw [← hj'] at h1
      have e : ((⟨ab, ao, none⟩ : Addr).add j) = ⟨ab, ao + j, none⟩ := by
        unfold Addr.add
        split
        · rename_i h; rw [h]; rfl
        · rfl
      rw [e] at h1
      exact h1
    · have : i < len := by rw [← hxl]; exact (List.getElem?_eq_some_iff.1 hy).1
      rw [List.getElem?_map, List.getElem?_range this]
      rfl
end
section
variable {H : Type} {enc : TypeId × Value → H} {w : World} {base : Nat} {spare : Nat → Bool} {held : Bool}
theorem i64_wf {x : Int} (h : (Lit.int .i64 x).wf = true) : i64B x := bounds_i64 h
theorem one_of {cs : List Value} {n : Nat} (h : n < cs.length) : (cs.drop n).take 1 = [cs[n]] := by
  rw [List.drop_eq_getElem_cons h]
  rfl
/-- An int64 within a list of cells. -/
theorem int_at {n : Nat} {cs : List Value} {o : Nat} {y : Option (DataW H × List MemPlace)} (ho : o < cs.length) (h : DataW.trod enc Tryd.prog w base spare held n 3 ((cs.drop o).take 1) = y) (hy : y.isSome = true) : ∃ x : Int, cs[o]? = some (.int .i64 x) ∧ i64B x ∧ y.map (·.1) = some (.lit (.int .i64 x)) := by
  obtain ⟨z, rfl⟩ := Option.isSome_iff_exists.1 hy
  obtain ⟨x, h1, h2, h3⟩ := DataW.trod_int Tryd.underlying3 h
  rw [one_of ho] at h1
  simp only [List.cons.injEq, and_true] at h1
  exact ⟨x, by rw [List.getElem?_eq_getElem ho, h1], i64_wf h3, by rw [h2]; rfl⟩
def slOk (s : Int × Int) : Prop := i64B s.1 ∧ i64B s.2
def lkOk (l : Lk) : Prop := i64B l.kd ∧ i64B l.fr ∧ i64B l.tt ∧ i64B l.sz
def dmOk (d : Dm) : Prop := i64B d.lv ∧ i64B d.ct ∧ i64B d.ta ∧ i64B d.ob ∧ i64B d.ri
theorem some_at {α : Type} {l : List α} {n i : Nat} (h : l.length = n) (hi : i < n) : l[i]?.isSome = true := by
  rw [List.getElem?_eq_getElem (by omega)]
  rfl
theorem cells_int : Tryd.prog.cellsOf 3 = 1 := by kernel_rfl
theorem cells_str : Tryd.prog.cellsOf 9 = 1 := by kernel_rfl
theorem cells_lab : Tryd.prog.cellsOf 49 = 2 := by kernel_rfl
theorem cells_dm : Tryd.prog.cellsOf 51 = 6 := by kernel_rfl
theorem cells_sl : Tryd.prog.cellsOf 57 = 2 := by kernel_rfl
theorem cells_lk : Tryd.prog.cellsOf 89 = 4 := by kernel_rfl
theorem cells_pol : Tryd.prog.cellsOf 26 = 3 := by kernel_rfl
theorem cells_dms : Tryd.prog.cellsOf 22 = 1 := by kernel_rfl
theorem cells_sls : Tryd.prog.cellsOf 23 = 1 := by kernel_rfl
theorem cells_lks : Tryd.prog.cellsOf 24 = 1 := by kernel_rfl
set_option maxRecDepth 100000 in
theorem view_sl {n : Nat} {cs : List Value} {y : DataW H × List MemPlace} (h : DataW.trod enc Tryd.prog w base spare held n 57 cs = some y) : ∃ s : Int × Int, cs = slCells s ∧ slOk s := by
  obtain ⟨xs, m, _, rfl, hl, hlen, hf⟩ := DataW.trod_struct Tryd.underlying57 h
  rw [cells_sl] at hl
  have hx : xs.length = 2 := hlen
  have f0 : DataW.trod enc Tryd.prog w base spare held m 3 ((cs.drop 0).take (Tryd.prog.cellsOf 3)) = xs[0]? := hf 0 _ rfl
  have f1 : DataW.trod enc Tryd.prog w base spare held m 3 ((cs.drop 1).take (Tryd.prog.cellsOf 3)) = xs[1]? := hf 1 _ rfl
  rw [cells_int] at f0 f1
  obtain ⟨a, ha, wa, _⟩ := int_at (by omega) f0 (some_at hx (by omega))
  obtain ⟨b, hb, wb, _⟩ := int_at (by omega) f1 (some_at hx (by omega))
  refine ⟨(a, b), ?_, wa, wb⟩
  match cs, hl with
  | [u, v], _ =>
    simp at ha hb
    rw [ha, hb]
    rfl
set_option maxRecDepth 100000 in
theorem view_lk {n : Nat} {cs : List Value} {y : DataW H × List MemPlace} (h : DataW.trod enc Tryd.prog w base spare held n 89 cs = some y) : ∃ l : Lk, cs = lkCells l ∧ lkOk l := by
  obtain ⟨xs, m, _, rfl, hl, hlen, hf⟩ := DataW.trod_struct Tryd.underlying89 h
  rw [cells_lk] at hl
  have hx : xs.length = 4 := hlen
  have f0 : DataW.trod enc Tryd.prog w base spare held m 3 ((cs.drop 0).take (Tryd.prog.cellsOf 3)) = xs[0]? := hf 0 _ rfl
  have f1 : DataW.trod enc Tryd.prog w base spare held m 3 ((cs.drop 1).take (Tryd.prog.cellsOf 3)) = xs[1]? := hf 1 _ rfl
  have f2 : DataW.trod enc Tryd.prog w base spare held m 3 ((cs.drop 2).take (Tryd.prog.cellsOf 3)) = xs[2]? := hf 2 _ rfl
  have f3 : DataW.trod enc Tryd.prog w base spare held m 3 ((cs.drop 3).take (Tryd.prog.cellsOf 3)) = xs[3]? := hf 3 _ rfl
  rw [cells_int] at f0 f1 f2 f3
  obtain ⟨a, ha, wa, _⟩ := int_at (by omega) f0 (some_at hx (by omega))
  obtain ⟨b, hb, wb, _⟩ := int_at (by omega) f1 (some_at hx (by omega))
  obtain ⟨c, hc, wc, _⟩ := int_at (by omega) f2 (some_at hx (by omega))
  obtain ⟨d, hd, wd, _⟩ := int_at (by omega) f3 (some_at hx (by omega))
  refine ⟨⟨a, b, c, d⟩, ?_, wa, wb, wc, wd⟩
  match cs, hl with
  | [u, v, x, y], _ =>
    simp at ha hb hc hd
    rw [ha, hb, hc, hd]
    rfl
set_option maxRecDepth 100000 in
theorem view_dm {n : Nat} {cs : List Value} {y : DataW H × List MemPlace} (h : DataW.trod enc Tryd.prog w base spare held n 51 cs = some y) : ∃ d : Dm, cs = d.cells ∧ (dmOk d ∧ ∃ parts : List (DataW H), y.1 = .agg parts ∧ parts[0]? = some (.lit (.string d.nm.data.toList))) := by
  obtain ⟨xs, m, _, rfl, hl, hlen, hf⟩ := DataW.trod_struct Tryd.underlying51 h
  rw [cells_dm] at hl
  have hx : xs.length = 5 := hlen
  have f0 : DataW.trod enc Tryd.prog w base spare held m 9 ((cs.drop 0).take (Tryd.prog.cellsOf 9)) = xs[0]? := hf 0 _ rfl
  have f1 : DataW.trod enc Tryd.prog w base spare held m 49 ((cs.drop 1).take (Tryd.prog.cellsOf 49)) = xs[1]? := hf 1 _ rfl
  have f2 : DataW.trod enc Tryd.prog w base spare held m 3 ((cs.drop 3).take (Tryd.prog.cellsOf 3)) = xs[2]? := hf 2 _ rfl
  have f3 : DataW.trod enc Tryd.prog w base spare held m 3 ((cs.drop 4).take (Tryd.prog.cellsOf 3)) = xs[3]? := hf 3 _ rfl
  have f4 : DataW.trod enc Tryd.prog w base spare held m 3 ((cs.drop 5).take (Tryd.prog.cellsOf 3)) = xs[4]? := hf 4 _ rfl
  rw [cells_int] at f2 f3 f4
  rw [cells_str, one_of (by omega)] at f0
  rw [cells_lab] at f1
  obtain ⟨y0, hy0⟩ := Option.isSome_iff_exists.1 (some_at hx (show 0 < 5 by omega))
  rw [hy0] at f0
  obtain ⟨s, hs, hs2, _⟩ := DataW.trod_string Tryd.underlying9 f0
  simp only [List.cons.injEq, and_true] at hs
  obtain ⟨y1, hy1⟩ := Option.isSome_iff_exists.1 (some_at hx (show 1 < 5 by omega))
  rw [hy1] at f1
  obtain ⟨zs, m', _, _, hl', hlen', hf'⟩ := DataW.trod_struct Tryd.underlying49 f1
  rw [cells_lab] at hl'
  have hz : zs.length = 2 := hlen'
  have g0 : DataW.trod enc Tryd.prog w base spare held m' 3 ((((cs.drop 1).take 2).drop 0).take (Tryd.prog.cellsOf 3)) = zs[0]? := hf' 0 _ rfl
  have g1 : DataW.trod enc Tryd.prog w base spare held m' 3 ((((cs.drop 1).take 2).drop 1).take (Tryd.prog.cellsOf 3)) = zs[1]? := hf' 1 _ rfl
  rw [cells_int] at g0 g1
  obtain ⟨lv, hlv, wlv, _⟩ := int_at (by omega) g0 (some_at hz (by omega))
  obtain ⟨ct, hct, wct, _⟩ := int_at (by omega) g1 (some_at hz (by omega))
  obtain ⟨ta, hta, wta, _⟩ := int_at (by omega) f2 (some_at hx (by omega))
  obtain ⟨ob, hob, wob, _⟩ := int_at (by omega) f3 (some_at hx (by omega))
  obtain ⟨ri, hri, wri, _⟩ := int_at (by omega) f4 (some_at hx (by omega))
  refine ⟨⟨s, lv, ct, ta, ob, ri⟩, ?_, ⟨wlv, wct, wta, wob, wri⟩, xs.map (·.1), rfl, by rw [List.getElem?_map, hy0, hs2]; rfl⟩
  match cs, hl with
  | [u0, u1, u2, u3, u4, u5], _ =>
    simp at hs hlv hct hta hob hri
    rw [hs, hlv, hct, hta, hob, hri]
    rfl
theorem weights_agg {P : Program} {t : TypeId} {fs : Array Field} {parts : List (DataW H)} (ht : P.underlying t = some (.struct fs)) : (DataW.agg parts).weights P t = DataW.weightsEach P (fs.toList.map (·.type)) parts := by
  simp only [DataW.weights, ht]
theorem mem_weightsAll {P : Program} {e : TypeId} {d : DataW H} {n : Nat} (hn : n ∈ d.weights P e) : ∀ {l : List (DataW H)}, d ∈ l → n ∈ DataW.weightsAll P e l
  | [], h => by cases h
  | x :: r, h => by
    simp only [DataW.weightsAll, List.mem_append]
    rcases List.mem_cons.1 h with rfl | h
    · exact .inl hn
    · exact .inr (mem_weightsAll hn h)
theorem mem_weights_slice {P : Program} {t e : TypeId} {elems sp : List (DataW H)} {d : DataW H} {n : Nat} (ht : P.underlying t = some (.slice e)) (hd : d ∈ elems) (hn : n ∈ d.weights P e) : n ∈ (DataW.slice elems sp).weights P t := by
  simp only [DataW.weights, ht, List.mem_cons, List.mem_append]
  exact .inr (.inl (mem_weightsAll hn hd))
set_option maxRecDepth 100000 in
/-- A POLICY THAT CAME IN. -/
theorem view_pol {r : Reach} {b0 : Nat} {v : Value} {d : DataW H} {p : List MemPlace} (hv : Value.okWide Tryd.prog w r b0 26 v) (h : DataW.Trod enc Tryd.prog w base spare held 26 v d p) :
    ∃ (vd vs vl : Value) (x : P3), v = .agg #[vd, vs, vl] ∧ PR w vd vs vl x ∧ (∀ d ∈ x.D, dmOk d) ∧ (∀ s ∈ x.S, slOk s) ∧ (∀ l ∈ x.K, lkOk l) ∧
      ((∀ n ∈ d.weights Tryd.prog 26, n ≤ reachBytes) → ∀ d ∈ x.D, d.nm.size ≤ 140737488351232) := by
  obtain ⟨cs, rfl, hs⟩ := okWide_struct Tryd.underlying26 hv
  obtain ⟨fuel, h⟩ := h
  obtain ⟨xs, m, _, hx, hl, hlen, hf⟩ := DataW.trod_struct Tryd.underlying26 h
  rw [cells_pol] at hs hl
  have hxl : xs.length = 3 := hlen
  obtain ⟨l⟩ := cs
  match l, hs, hl, hf with
  | [c0, c1, c2], _, _, hf =>
  have f0 : DataW.trod enc Tryd.prog w base spare held m 22 (([c0, c1, c2].drop 0).take (Tryd.prog.cellsOf 22)) = xs[0]? := hf 0 _ rfl
  have f1 : DataW.trod enc Tryd.prog w base spare held m 23 (([c0, c1, c2].drop 1).take (Tryd.prog.cellsOf 23)) = xs[1]? := hf 1 _ rfl
  have f2 : DataW.trod enc Tryd.prog w base spare held m 24 (([c0, c1, c2].drop 2).take (Tryd.prog.cellsOf 24)) = xs[2]? := hf 2 _ rfl
  rw [cells_dms] at f0
  rw [cells_sls] at f1
  rw [cells_lks] at f2
  obtain ⟨y0, hy0⟩ := Option.isSome_iff_exists.1 (some_at hxl (show 0 < 3 by omega))
  obtain ⟨y1, hy1⟩ := Option.isSome_iff_exists.1 (some_at hxl (show 1 < 3 by omega))
  obtain ⟨y2, hy2⟩ := Option.isSome_iff_exists.1 (some_at hxl (show 2 < 3 by omega))
  rw [hy0] at f0
  rw [hy1] at f1
  rw [hy2] at f2
  obtain ⟨v0, n0, D, e0, hD, rD, wD⟩ := view_slice (α := Dm) (f := Dm.cells) (Q := fun d y => dmOk d ∧ ∃ parts : List (DataW H), y = .agg parts ∧ parts[0]? = some (.lit (.string d.nm.data.toList))) Tryd.underlying22 cells_dm (by omega) dm_len (fun n cs y h => view_dm h) f0
  obtain ⟨v1, n1, S, e1, hS, rS, wS⟩ := view_slice (α := Int × Int) (f := slCells) (Q := fun s _ => slOk s) Tryd.underlying23 cells_sl (by omega) (fun _ => rfl) (fun n cs y h => view_sl h) f1
  obtain ⟨v2, n2, K, e2, hK, rK, wK⟩ := view_slice (α := Lk) (f := lkCells) (Q := fun s _ => lkOk s) Tryd.underlying24 cells_lk (by omega) (fun _ => rfl) (fun n cs y h => view_lk h) f2
  simp only [List.drop_zero, List.take_succ_cons, List.take_zero, List.cons.injEq, and_true, List.drop_succ_cons] at e0 e1 e2
  subst e0 e1 e2 hD hS hK
  refine ⟨_, _, _, ⟨D, S, K⟩, rfl, ⟨rD, rS, rK⟩, fun d hd => ?_, fun s hs => ?_, fun l hl => ?_, fun hw d' hd => ?_⟩
  · rcases wD with h0 | ⟨elems, sp, _, _, hq⟩
    · rw [h0] at hd; cases hd
    · obtain ⟨i, hi, rfl⟩ := List.mem_iff_getElem.1 hd
      obtain ⟨_, _, hq, _⟩ := hq i _ (List.getElem?_eq_getElem hi)
      exact hq
  · rcases wS with h0 | ⟨elems, sp, _, _, hq⟩
    · rw [h0] at hs; cases hs
    · obtain ⟨i, hi, rfl⟩ := List.mem_iff_getElem.1 hs
      obtain ⟨_, _, hq⟩ := hq i _ (List.getElem?_eq_getElem hi)
      exact hq
  · rcases wK with h0 | ⟨elems, sp, _, _, hq⟩
    · rw [h0] at hl; cases hl
    · obtain ⟨i, hi, rfl⟩ := List.mem_iff_getElem.1 hl
      obtain ⟨_, _, hq⟩ := hq i _ (List.getElem?_eq_getElem hi)
      exact hq
  · rcases wD with h0 | ⟨elems, sp, hy, _, hq⟩
    · rw [h0] at hd; cases hd
    · obtain ⟨i, hi, rfl⟩ := List.mem_iff_getElem.1 hd
      obtain ⟨e, he, _, parts, rfl, hpt⟩ := hq i _ (List.getElem?_eq_getElem hi)
      have hd0 : d = .agg (xs.map (·.1)) := by simpa using congrArg Prod.fst hx
      have h1 : D[i].nm.data.toList.length ∈ (DataW.agg parts).weights Tryd.prog 51 := by
        rw [weights_agg Tryd.underlying51]
        exact DataW.weights_mem_each (j := 0) (t := 9) rfl hpt _ (by simp [DataW.weights])
      have h2 : D[i].nm.data.toList.length ∈ d.weights Tryd.prog 26 := by
        rw [hd0, weights_agg Tryd.underlying26]
        refine DataW.weights_mem_each (j := 0) (t := 22) rfl (by rw [List.getElem?_map, hy0]; rfl) _ ?_
        show _ ∈ DataW.weights Tryd.prog 22 y0.1
        rw [hy]
        exact mem_weights_slice Tryd.underlying22 (List.mem_of_getElem? he) h1
      have h3 := hw _ h2
      have h4 : ∀ b : ByteArray, b.data.toList.length = b.size := fun b => Array.length_toList
      rw [h4] at h3
      exact h3
end
end Go.Proofs.YtbgpniepgbmkaaaDoor
