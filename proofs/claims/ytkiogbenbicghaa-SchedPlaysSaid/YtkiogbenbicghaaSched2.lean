/- What sched's Spawn, Run, Pick do. Condition of each: it lies in memory (IsS); for Spawn: what is taken has a place. -/
import Derived.Test.YtkiogbenbicghaaSched
namespace Go.Proofs.Ytkiogbenbicghaa
open Go.RowKit BigFrame

def runS (l : List Nat) (who : List Int) : List Int := l.map (fun p => who.getD p 0)
def pickS (r : List Int) (n : Int) : Int × Bool := if 0 ≤ n ∧ n < r.length then (r.getD n.toNat 0, true) else (0, false)
section
variable {w : World} {b : SB} {A : Ar} {l : List Nat} {who : List Int}
theorem take_size (A : Ar) : A.take.2.2.list.length = A.list.length := by
  unfold Ar.take
  split <;> simp
set_option maxRecDepth 100000 in
set_option maxHeartbeats 8000000 in
theorem sspawn_calls (h : IsS w b A l who) {t : Int} {A' : Ar} {p : Nat} (hk : A.take = (t, true, A')) (hp : A'.place t = p) (ht : t ≤ 9223372036854775807) :
    Calls Try.prog 28 #[.pointer (some ⟨b.s, 0, none⟩)] w fun e w' => e = .returned (.tuple #[.int .i64 t, .bool true]) ∧ IsS w' b A' (rdyS A' l t).2 (who.set p t) ∧ Ext w w' b.ft := by
  have c0 := h.c0
  have htk := take_calls h.ar
  have hsz := take_size A
  rw [hk] at htk hsz
  have H := Lib.hid h
  have HTK := Lib.hid htk
  have HSZ := Lib.hid hsz
  have hrg := A'.place_range t
  rw [hp] at hrg
  simp only at hsz
  have hpl : p < who.length := by rw [h.size]; omega
  have HP := Lib.hid hp
  clear h htk hsz hk hp hrg
  go_enter Try.func28, Try.ntmps28
  go_wp2_with fail
  refine HTK.out.mono ?_
  rintro e w1 ⟨rfl, ha1, hx1⟩
  have hS1 := H.out.actA ha1 hx1 HSZ.out
  have HS1 := Lib.hid hS1
  have hpc := splace_calls hS1.1.drew t ht
  rw [HP.out] at hpc
  have HPC := Lib.hid hpc
  have c2 := hS1.1.c2
  obtain ⟨x0, hx0⟩ : ∃ x, who[p]? = some x := ⟨_, List.getElem?_eq_getElem hpl⟩
  have d0 : w1.cell? ⟨b.bw, p, none⟩ = some (.int .i64 x0) := owns_int hS1.1.wh hx0
  have z0 : w1.frozen? ⟨b.bw, p, none⟩ = false := hS1.1.wh.frozenAt p
  have HSW := Lib.hid (And.intro (hS1.1.setWho p t).1.drew (hS1.1.setWho p t).2.drew)
  have HKC := Lib.hid (show (w1.setCell ⟨b.bw, p, none⟩ (.int .i64 t)).drew.cell? ⟨b.s, 2, none⟩ = some (.slice (some ⟨b.bw, 0, none⟩) who.length who.length) by
    have h := (hS1.1.setWho p t).1.drew.c2
    rwa [List.length_set] at h)
  have HX0 := Lib.hid hx0
  obtain ⟨n, hn⟩ : ∃ n, n = who.length := ⟨_, rfl⟩
  rw [← hn] at c2 hpl HKC
  have pz : (0 : Int) ≤ (p : Int) := Int.natCast_nonneg _
  have pl : (p : Int) < (n : Int) := by omega
  clear ha1 hx1 hS1 hpc hx0 hn
  go_wp2_with fail
  have hkc2 := HKC.out
  clear HKC
  go_region_held3 (fun w' => w'.cell? ⟨b.s, 2, none⟩ = some (.slice (some ⟨b.bw, 0, none⟩) n n)) (first | exact hkc2 | go_keep) (first | (go_at_call 36; refine HPC.out.mono ?_; rintro e w2 ⟨rfl, rfl⟩))
  all_goals
    have hr := sready_calls HSW.out.1 t ht
    have HR := Lib.hid hr
    clear hr
    go_wp2_with fail
    refine HR.out.mono ?_
    rintro e w3 ⟨rfl, hs3, hx3⟩
    have HS3 := Lib.hid (And.intro hs3 (HS1.out.2.then (HSW.out.2.then hx3)))
    clear hs3 hx3
    go_wp2_with fail
    go_ret2
    exact ⟨rfl, HS3.out⟩
set_option maxRecDepth 100000 in
set_option maxHeartbeats 8000000 in
theorem srun_calls (h : IsS w b A l who) :
    Calls Try.prog 29 #[.pointer (some ⟨b.s, 0, none⟩)] w fun e w' => ∃ v, e = .returned v ∧ Reads w' 1 v (runS l who).length (ints (runS l who)) ∧ (∀ k, v.ownBlock = some k → w.heap.size ≤ k) ∧ Below w.heap.size w w' := by
  have c1 := h.c1
  have hall := all_calls h.fi 0
  rw [show allL [l] 0 = l by simp [allL]] at hall
  have H := Lib.hid h
  have HALL := Lib.hid hall
  have HLT := Lib.hid (fun x (hx : x ∈ l) => (isF_where h.fi (i := 0) (x := x) (l := l) rfl hx).2)
  have hl32 : l.length ≤ 32 := Nat.le_trans (isF_len h.fi (i := 0) rfl) (by have := h.small; omega)
  obtain ⟨i0, hi, hz0, hz1, hz2⟩ := info_parts Try.info_int
  have HI := Lib.hid hi
  clear h hall hi
  go_enter Try.func29, Try.ntmps29
  go_wp2_with fail
  refine HALL.out.mono ?_
  rintro e w1 ⟨vv, rfl, hrd, hvb, hb1⟩
  obtain ⟨_, a9, c9, rfl, q1, q2, q3⟩ := reads_int hrd
  unfold maxLen at q2
  have HRD := Lib.hid hrd
  have HB1 := Lib.hid hb1
  have HQ3 := Lib.hid q3
  have H1 := Lib.hid (H.out.below hb1)
  obtain ⟨n, hn⟩ : ∃ n, n = l.length := ⟨_, rfl⟩
  rw [← hn] at q1 HQ3 HRD hl32 ⊢
  have HN := Lib.hid hn
  clear hrd hvb hb1 q3 hn
  go_wp2_with fail
  go_loopw [3, 14] (fun v u wr => ∃ i : Nat, u = .int .i64 i ∧ i ≤ n ∧ wr.ownsRow w1.heap.size 3 1 v i (ints (runS (l.take i) who)) ∧ Below w1.heap.size w1 wr) (fun _ u _ => n - (intOf u).toNat)
  case atStart => exact ⟨0, rfl, Nat.zero_le _, World.ownsRow_nil _ _ _ _, Below.refl _ _⟩
  case round =>
    obtain ⟨i, rfl, hin, hown, hb⟩ := hrel
    have iz : (0 : Int) ≤ (i : Int) := Int.natCast_nonneg _
    have HO := Lib.hid hown
    have HB := Lib.hid hb
    by_cases hc : i < n
    · have hc' : (i : Int) < (n : Int) := by omega
      obtain ⟨bl, o, rfl, hcell⟩ := HQ3.out (by omega)
      obtain ⟨x, hx⟩ : ∃ x, l[i]? = some x := ⟨_, List.getElem?_eq_getElem (by rw [← HN.out]; exact hc)⟩
      have hxm := HLT.out x (List.mem_of_getElem? hx)
      have e0 : wr.cell? ⟨bl, o + i, none⟩ = some (.int .i64 x) := (hb.cell (p := ⟨bl, o + i, none⟩) (HRD.out.lt (by omega) (by omega) bl rfl)).trans (hcell i x (by simp [asInts, hx]))
      have hW := H1.out.below hb
      have e1 := hW.c2
      obtain ⟨y, hy⟩ : ∃ y, who[x]? = some y := ⟨_, List.getElem?_eq_getElem hxm⟩
      have e2 : wr.cell? ⟨b.bw, x, none⟩ = some (.int .i64 y) := owns_int hW.wh hy
      obtain ⟨m, hm⟩ : ∃ m, m = who.length := ⟨_, rfl⟩
      rw [← hm] at e1 hxm
      have xz : (0 : Int) ≤ (x : Int) := Int.natCast_nonneg _
      have xm : (x : Int) < (m : Int) := by omega
      have hstep : runS (l.take (i + 1)) who = runS (l.take i) who ++ [y] := by
        rw [List.take_add_one, hx]
        simp [runS, List.getD_eq_getElem?_getD, hy]
      have HS := Lib.hid hstep
      have HOA := Lib.hid (HO.out.alloc (.cells #[.int .i64 y] 3))
      have hbs := HB.out.size
      clear hcell hx hW hy hm hstep hown hb
      go_wp2_with (at_builtin; refine wpList_append_own _ rfl _ _ 37 rfl w1.heap.size 3 i0 (.int .i64 0) 1 8 Try.underlying37 HI.out hz0 hz1 hz2 rfl (by decide) _ _ _ rfl HOA.out ⟨wr.heap.size, 0, none⟩ 1 1 [.int .i64 y] rfl rfl ?c1 ?c2 ?c3 ?c4 ?c5 ?_)
      case c1 => exact news_one wr _ _
      case c2 => exact news_int _
      case c3 => unfold maxLen; omega
      case c4 => omega
      case c5 => simp; omega
      intro v' w4 hown' hgr _
      have HO4 := Lib.hid hown'
      have HB4 := Lib.hid ((HB.out.alloc HB.out.size (.cells #[.int .i64 y] 3)).grown hgr (by simp; omega) (fun k hk => (HO.out.lt k hk).1))
      clear hown' hgr
      go_wp2_with fail
      go_roundw
      case rel =>
        refine ⟨i + 1, by go_num, by omega, ?_, HB4.out⟩
        rw [HS.out, ints_snoc]
        exact HO4.out
      case measure => simp [intOf]; omega
    · obtain rfl : i = n := by omega
      have hc' : ¬ (i : Int) < (i : Int) := by omega
      have hfull : l.take i = l := List.take_of_length_le (by rw [← HN.out]; exact Nat.le_refl _)
      rw [hfull] at HO
      obtain ⟨a5, c5, rfl, p1, p2, p3⟩ := owns_shape HO.out
      have hcl := clip_ints (w := wr) (a := a5) p1 p2
      have HCL := Lib.hid hcl
      have HP3 := Lib.hid p3
      clear hown hb hfull hcl p3
      go_wp2_with fail
      refine HCL.out.mono ?_
      rintro e w5 ⟨rfl, rfl⟩
      go_wp2_with fail
      go_ret
      have hlen : (runS l who).length = i := by simp [runS, HN.out]
      have hob : (Value.slice a5 i c5).ownBlock = (Value.slice a5 i i).ownBlock := by cases a5 <;> rfl
      refine ⟨_, rfl, ?_, fun k hk => Nat.le_trans HB1.out.size (HO.out.lt k (hob.trans (show (Value.slice a5 i i).ownBlock = some k from hk))).1, HB1.out.trans (HB.out.mono HB1.out.size)⟩
      rw [hlen]
      have hr := Reads.of_owns HO.out
      obtain ⟨r1, ar, cr, re, r2, r3, r4⟩ := hr
      injection re with e1 e2 e3
      subst e1 e3
      exact ⟨r1, _, _, rfl, Nat.le_refl _, by omega, r4⟩
set_option maxHeartbeats 4000000 in
theorem spick_calls (h : IsS w b A l who) (n : Int) :
    Calls Try.prog 30 #[.pointer (some ⟨b.s, 0, none⟩), .int .i64 n] w fun e w' => e = .returned (.tuple #[.int .i64 (pickS (runS l who) n).1, .bool (pickS (runS l who) n).2]) ∧ Below w.heap.size w w' := by
  have HR := Lib.hid (srun_calls h)
  generalize runS l who = r at HR ⊢
  clear h
  go_enter Try.func30, Try.ntmps30
  go_wp2_with fail
  refine HR.out.mono ?_
  rintro e w1 ⟨v, rfl, hrd, hvb, hb1⟩
  obtain ⟨_, a, c, rfl, q1, q2, q3⟩ := reads_int hrd
  unfold maxLen at q2
  have HB1 := Lib.hid hb1
  have HQ3 := Lib.hid q3
  obtain ⟨m, hm⟩ : ∃ m, m = r.length := ⟨_, rfl⟩
  rw [← hm] at q1 HQ3 ⊢
  have HM := Lib.hid hm
  clear hrd hvb hb1 q3 hm
  by_cases h0 : n < 0
  · have hv : pickS r n = (0, false) := by unfold pickS; rw [if_neg (by omega)]
    have HV := Lib.hid hv
    clear hv
    go_wp2_with fail
    go_ret2
    rw [HV.out]
    exact ⟨rfl, HB1.out⟩
  · obtain ⟨i, rfl⟩ : ∃ i : Nat, n = i := ⟨n.toNat, by omega⟩
    have iz : (0 : Int) ≤ (i : Int) := Int.natCast_nonneg _
    by_cases h1 : i < m
    · have h1' : (i : Int) < (m : Int) := by omega
      have h1'' : ¬ (m : Int) ≤ (i : Int) := by omega
      obtain ⟨x, hx⟩ : ∃ x, r[i]? = some x := ⟨_, List.getElem?_eq_getElem (by rw [← HM.out]; exact h1)⟩
      have hv : pickS r i = (x, true) := by
        unfold pickS
        rw [if_pos ⟨by omega, by rw [← HM.out]; omega⟩]
        simp [List.getD_eq_getElem?_getD, hx]
      have HV := Lib.hid hv
      obtain ⟨bl, o, rfl, hcell⟩ := HQ3.out (by omega)
      have e0 := hcell i x hx
      clear hv hx hcell
      go_wp2_with fail
      go_ret2
      rw [HV.out]
      exact ⟨rfl, HB1.out⟩
    · have h1' : (m : Int) ≤ (i : Int) := by omega
      have hv : pickS r i = (0, false) := by unfold pickS; rw [if_neg (by rw [← HM.out]; omega)]
      have HV := Lib.hid hv
      clear hv
      go_wp2_with fail
      go_ret2
      rw [HV.out]
      exact ⟨rfl, HB1.out⟩
end
end Go.Proofs.Ytkiogbenbicghaa
