/- What the iterator over a queue's items gives, and what fifo's All hands back. Condition: the queues lie in memory (IsFq). -/
import Derived.RangeFuncNested
import Derived.RangeFuncBound
import Derived.RangeFuncCalls
import Derived.RangeFuncLeaves
import Derived.RangeFuncFrom
import Derived.Maps.AppendAt
import Derived.Shelf.Abstract
import Derived.Shelf.RegionOpen
import Derived.WalkKit
import Derived.OwnWalkIn
import Derived.TacticsInMore
import Derived.LoopNIn
import Derived.BigRegionIn
import Derived.LoopIn
import Derived.Test.YtajhfjgndkdbnaaFifo6
namespace Go.Proofs.Ytajhfjgndkdbnaa
open Go.RowKit Go.Shelf

attribute [local go_sem] Oper.semAt_some

def asInts (l : List Nat) : List Int := l.map (fun n : Nat => (n : Int))
def leftI (xs : List Nat) (v : Value) : Nat := xs.length - (asInts xs).idxOf (intOf v)
theorem leftI_at {pre rest : List Nat} (h : (pre ++ rest).Nodup) : leftI (pre ++ rest) (.int .i64 (headD rest (-1))) = rest.length := by
  unfold leftI intOf
  have hidx : (asInts (pre ++ rest)).idxOf (headD rest (-1)) = pre.length := by
    unfold asInts
    rw [List.map_append, List.idxOf_append]
    cases rest with
    | nil =>
      have hn : headD [] (-1) ∉ pre.map (fun n : Nat => (n : Int)) := by
        intro hm
        replace hm : (-1 : Int) ∈ pre.map (fun n : Nat => (n : Int)) := hm
        obtain ⟨a, _, ha⟩ := List.mem_map.1 hm
        omega
      rw [if_neg hn]
      simp
    | cons x r =>
      have hn : headD (x :: r) (-1) ∉ pre.map (fun n : Nat => (n : Int)) := by
        intro hm
        replace hm : (x : Int) ∈ pre.map (fun n : Nat => (n : Int)) := hm
        obtain ⟨a, ha, hax⟩ := List.mem_map.1 hm
        have : a = x := by omega
        subst this
        rw [List.nodup_append] at h
        exact h.2.2 a ha a (by simp) rfl
      rw [if_neg hn]
      simp [headD]
  rw [hidx]
  simp
theorem IsFq.below {w w' : World} {g bq bn n₀ : Nat} {qs ns : List T3} (h : IsFq w g bq bn qs ns) (hg : g < n₀) (hq : bq < n₀) (hn : bn < n₀) (hb : Below n₀ w w') : IsFq w' g bq bn qs ns :=
  h.frame (fun k hk => hb.block k (by rcases hk with rfl | rfl | rfl <;> assumption))

set_option maxRecDepth 100000 in
set_option maxHeartbeats 4000000 in
theorem fwalk1_in (F : Fence) (n : Nat) (hF : F.fn 44) (hro : F.round = none) (hn : 1 ≤ n) (l B1 B2 n₀ g bq bn i : Nat) (qs ns : List T3) (xs : List Nat) (la s : Int) (J Jx : List Int → World → Prop)
    (hY : ∀ pre x W, J pre W → pre.length < xs.length → YieldAt F (n - 1) Try.prog l #[.int .i64 x] W fun e W' =>
      (e = .returned (.bool true) ∧ J (pre ++ [x]) W' ∧ Below n₀ W W') ∨ (e = .returned (.bool false) ∧ Jx (pre ++ [x]) W'))
    (W : World) (h1 : W.cell? ⟨B1, 0, none⟩ = some (.pointer (some ⟨g, 0, none⟩))) (h2 : W.cell? ⟨B2, 0, none⟩ = some (.int .i64 i)) (hf : IsFq W g bq bn qs ns)
    (lg : g < n₀) (lq : bq < n₀) (ln : bn < n₀) (l1 : B1 < n₀) (_l2 : B2 < n₀) (hqi : qs[i]? = some (headD xs (-1), la, s)) (hch : Chain ns i (-1) xs (-1)) (h0 : J [] W) (hnd : xs.Nodup) (hJd : ∀ a W, J a W → J a W.drew) :
    CallsIn F n Try.prog 44 #[.func (.yield l) #[] #[], .pointer (some ⟨B1, 0, none⟩), .pointer (some ⟨B2, 0, none⟩)] W fun e W' => (∃ v, e = .returned v) ∧
      ((∃ ys, ys = asInts xs ∧ J ys W') ∨ (∃ pre, pre <+: asInts xs ∧ Jx pre W')) := by
  have c0 := hf.g0
  have d0 := hf.q0 hqi
  simp only at d0
  have hil : i < qs.length := (List.getElem?_eq_some_iff.1 hqi).1
  obtain ⟨fst, hfst⟩ : ∃ f, f = headD xs (-1) := ⟨_, rfl⟩
  rw [← hfst] at d0
  have HFST := Lib.hid hfst
  clear hfst hqi
  have hql := hf.ql
  have i0 : (0 : Int) ≤ (i : Int) := Int.natCast_nonneg _
  have i1 : (i : Int) < (qs.length : Int) := by omega
  refine callsIn_of_wp Try.func44 rfl hF ?_ hro
  simp only [Try.ntmps44, List.size_toArray, List.length_cons, List.length_nil, Nat.reduceAdd, Nat.reduceSub, Array.replicate_succ, Array.replicate_zero, List.push_toArray, List.append_toArray, List.nil_append, List.cons_append]
  gi_wp2
  gi_region
  all_goals
    gi_wp2
    gi_loopw [4] (fun v wr => ∃ pre rest : List Nat, v = .int .i64 (headD rest (-1)) ∧ xs = pre ++ rest ∧ Chain ns i (lastD pre (-1)) rest (-1) ∧ IsFq wr g bq bn qs ns ∧ wr.cell? ⟨B1, 0, none⟩ = some (.pointer (some ⟨g, 0, none⟩)) ∧ J (asInts pre) wr) (fun v _ => leftI xs v)
    case atStart => exact ⟨[], xs, by rw [HFST.out], rfl, hch, hf.drew, h1, hJd _ _ h0⟩
    case round =>
      obtain ⟨pre, rest, rfl, hx, hc, hfr, h1r, hJ⟩ := hrel
      cases rest with
      | nil =>
        gi_wp2
        refine ⟨fun _ h => (by cases h), ?_⟩
        gi_wp2
        go_end0
        exact ⟨⟨_, rfl⟩, .inl ⟨asInts pre, by rw [hx, List.append_nil], hJ⟩⟩
      | cons x rest =>
        have hxn := hc.1
        have hxl : x < ns.length := (List.getElem?_eq_some_iff.1 hxn).1
        obtain ⟨fn, tmps, assign, body, hy, hR⟩ := hY (asInts pre) x wr hJ (by rw [hx]; simp [asInts])
        have hne : ((x : Int) != -1) = true := by simp
        have x0 : (0 : Int) ≤ (x : Int) := Int.natCast_nonneg _
        have x1 : (x : Int) < (ns.length : Int) := by omega
        have hnl := hf.nl
        have hnd2 : ((pre ++ [x]) ++ rest).Nodup := by rw [hx] at hnd; simpa using hnd
        have hnd3 : (pre ++ (x :: rest)).Nodup := by rw [hx] at hnd; exact hnd
        have HX := Lib.hid hx
        have HC := Lib.hid hc
        have HXN := Lib.hid hxn
        have HFR := Lib.hid hfr
        clear hx hc hxn hfr
        simp only [headD]
        gi_wp2
        refine hR.mono ?_
        rintro e W3 (⟨rfl, hJ3, hk3⟩ | ⟨rfl, hJx3⟩)
        · have hf3 := HFR.out.below lg lq ln hk3
          have h13 := (hk3.cell (p := ⟨B1, 0, none⟩) l1).trans h1r
          have e1 := hf3.g1
          have e2 := hf3.n2 HXN.out
          simp only at e2
          have HF3 := Lib.hid hf3
          clear hf3
          gi_wp2
          go_roundw
          case rel => exact ⟨pre ++ [x], rest, rfl, by rw [HX.out]; simp, by rw [lastD_app]; exact HC.out.2, HF3.out, h13, by simpa [asInts] using hJ3⟩
          case measure =>
            have m1 := leftI_at hnd2
            have m2 := leftI_at hnd3
            have e : pre ++ [x] ++ rest = pre ++ (x :: rest) := by simp
            rw [e] at m1
            rw [← HX.out] at m1 m2
            simp only [headD] at m2
            rw [m1, m2]
            simp
        · gi_wp2
          go_end0
          exact ⟨⟨_, rfl⟩, .inr ⟨asInts pre ++ [(x : Int)], ⟨asInts rest, by rw [HX.out]; simp [asInts]⟩, hJx3⟩⟩
end Go.Proofs.Ytajhfjgndkdbnaa
