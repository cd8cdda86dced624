/- The fixed facts that each statement on policies ends with (parcloselaw04.awake). Condition: the library's table is laid (Tab). -/
import Derived.Test.YtkjhgfjlknbdkaaDoorParse
namespace Go.Proofs.YtkjhgfjlknbdkaaDoor
open Go.RowKit BigFrame Go.BigFrame

def aw41 : ByteArray := ⟨([100, 111, 109, 97, 105, 110, 32, 97, 32, 48, 123, 125, 32, 49, 32, 48, 32, 49, 10, 100, 111, 109, 97, 105, 110, 32, 98, 32, 49, 123, 125, 32, 50].append [32, 51, 32, 52, 10, 115, 108, 111, 116, 32, 98, 32, 50, 10, 115, 108, 111, 116, 32, 97, 32, 49, 10, 112, 117, 109, 112, 32, 97, 32, 98, 32, 51]).toArray⟩
def aw42 : ByteArray := ⟨([100, 111, 109, 97, 105, 110, 32, 97, 32, 48, 123, 125, 32, 49, 32, 48, 32, 49, 10, 100, 111, 109, 97, 105, 110, 32, 98, 32, 49, 123, 125, 32, 50].append [32, 51, 32, 52, 10, 115, 108, 111, 116, 32, 98, 32, 50, 10, 115, 108, 111, 116, 32, 97, 32, 49, 10, 112, 117, 109, 112, 32, 98, 32, 97, 32, 51]).toArray⟩
def aw43 : ByteArray := ⟨#[115, 108, 111, 116, 32, 99, 32, 49]⟩
def aw4P : P3 := ⟨[⟨⟨#[97]⟩, 0, 0, 1, 0, 1⟩, ⟨⟨#[98]⟩, 1, 0, 2, 3, 4⟩], [(1, 2), (0, 1)], [⟨2, 0, 1, 3⟩]⟩
theorem aw41_p : parseM aw41 = (aw4P, 0, 0) := by kernel_rfl
theorem aw42_p : parseM aw42 = (noP, 0, 10) := by kernel_rfl
theorem aw43_p : parseM aw43 = (noP, 1, 4) := by kernel_rfl
theorem aw4_check : checkM aw4P.D aw4P.S aw4P.K = 0 := by kernel_rfl
theorem no_check : checkM [] [] [] = 1 := by kernel_rfl
theorem PR.below {w w' : World} {vd vs vl : Value} {p : P3} (h : PR w vd vs vl p) (hb : Below w.heap.size w w') : PR w' vd vs vl p := ⟨h.d.below (by omega) hb, h.s.below (by omega) hb, h.k.below (by omega) hb⟩
theorem reads_shape {w : World} {k n m : Nat} {v : Value} {xs : List Value} (h : Reads w k v n xs) (hn : n = m) : ∃ a c, v = .slice a m c ∧ m ≤ c ∧ c ≤ 9223372036854775807 := by
  subst hn
  obtain ⟨_, a, c, h, h1, h2, _⟩ := h
  exact ⟨a, c, h, h1, h2⟩
theorem cells_at {w : World} {k n : Nat} {a : Option Addr} {c : Nat} {xs : List Value} (h : Reads w k (.slice a n c) n xs) (hn : 0 < n) : ∃ b o, a = some ⟨b, o, none⟩ ∧ ∀ j u, xs[j]? = some u → w.cell? ⟨b, o + j, none⟩ = some u := by
  obtain ⟨_, a', c', e, _, _, h4⟩ := h
  injection e with e1 _ e3
  subst e1 e3
  exact h4 hn
set_option maxRecDepth 100000 in
set_option maxHeartbeats 16000000 in
theorem awake4_calls (w : World) (ht : Tab w) :
    Calls Tryd.prog 11 #[] w fun e w' => e = .returned (.bool true) ∧ Below w.heap.size w w' := by
  have h1 := fun (u : World) (hu : Tab u) => parse_calls aw41 (by decide) u hu
  have h2 := fun (u : World) (hu : Tab u) => parse_calls aw42 (by decide) u hu
  have h3 := fun (u : World) (hu : Tab u) => parse_calls aw43 (by decide) u hu
  rw [aw41_p] at h1
  rw [aw42_p] at h2
  rw [aw43_p] at h3
  simp only at h1 h2 h3
  have H1 := Lib.hid h1
  have H2 := Lib.hid h2
  have H3 := Lib.hid h3
  have HT := Lib.hid ht
  clear h1 h2 h3 ht
  go_enter Tryd.func11, Tryd.ntmps11
  go_wp2_with fail
  refine (H1.out _ HT.out).mono ?_
  rintro e w1 ⟨vd, vs, vl, rfl, hp1, hb1⟩
  have HP1 := Lib.hid hp1
  have HB1 := Lib.hid hb1
  obtain ⟨ad, cd, rfl, a1, a2⟩ := reads_shape hp1.d (m := 2) rfl
  obtain ⟨as', cs, rfl, a3, a4⟩ := reads_shape hp1.s (m := 2) rfl
  obtain ⟨al, cl, rfl, a5, a6⟩ := reads_shape hp1.k (m := 1) rfl
  obtain ⟨bs, os, rfl, hcs⟩ := cells_at hp1.s (by decide)
  obtain ⟨bl, ol, rfl, hcl⟩ := cells_at hp1.k (by decide)
  have HCS := Lib.hid (show w1.cell? ⟨bs, os, none⟩ = some (.int .i64 1) ∧ w1.cell? ⟨bs, os + 1, none⟩ = some (.int .i64 2) from ⟨hcs 0 _ rfl, hcs 1 _ rfl⟩)
  have HCL := Lib.hid (show w1.cell? ⟨bl, ol, none⟩ = some (.int .i64 2) ∧ w1.cell? ⟨bl, ol + 1, none⟩ = some (.int .i64 0) ∧ w1.cell? ⟨bl, ol + 2, none⟩ = some (.int .i64 1) ∧ w1.cell? ⟨bl, ol + 3, none⟩ = some (.int .i64 3) from ⟨hcl 0 _ rfl, hcl 1 _ rfl, hcl 2 _ rfl, hcl 3 _ rfl⟩)
  clear hcs hcl
  have HT1 := Lib.hid (HT.out.below hb1)
  obtain ⟨pb, hpb⟩ : ∃ pb, pb = w1.heap.size := ⟨_, rfl⟩
  have HC1 := Lib.hid (show (w1.alloc (.cells #[.slice ad 2 cd, .slice (some ⟨bs, os, none⟩) 2 cs, .slice (some ⟨bl, ol, none⟩) 1 cl] 26)).heap[pb]? = some (.cells #[.slice ad 2 cd, .slice (some ⟨bs, os, none⟩) 2 cs, .slice (some ⟨bl, ol, none⟩) 1 cl] 26 (0, 0)) by rw [hpb]; exact heap_alloc_new w1 _)
  have HB2 := Lib.hid (plus_one1 w1 (.cells #[.slice ad 2 cd, .slice (some ⟨bs, os, none⟩) 2 cs, .slice (some ⟨bl, ol, none⟩) 1 cl] 26))
  clear hp1 hb1
  go_upto_region 2 with (fail)
  rw [← hpb]
  generalize w1.alloc (.cells #[.slice ad 2 cd, .slice (some ⟨bs, os, none⟩) 2 cs, .slice (some ⟨bl, ol, none⟩) 1 cl] 26) = w2 at HC1 HB2 ⊢
  clear hpb
  have HT2 := Lib.hid (HT1.out.below HB2.out)
  go_wp2_with fail
  refine (H2.out _ HT2.out).mono ?_
  rintro e w3 ⟨vd2, vs2, vl2, rfl, hp3, hb3⟩
  have HT3 := Lib.hid (HT2.out.below hb3)
  have HB3 := Lib.hid hb3
  obtain ⟨x1, x2, rfl, _, _⟩ := reads_shape hp3.d (m := 0) rfl
  obtain ⟨x3, x4, rfl, _, _⟩ := reads_shape hp3.s (m := 0) rfl
  obtain ⟨x5, x6, rfl, _, _⟩ := reads_shape hp3.k (m := 0) rfl
  have HB4 := Lib.hid (plus_one1 w3 (.cells #[.slice x1 0 x2, .slice x3 0 x4, .slice x5 0 x6] 26))
  clear hp3 hb3
  go_upto_region 3 with (fail)
  generalize w3.alloc (.cells #[.slice x1 0 x2, .slice x3 0 x4, .slice x5 0 x6] 26) = w4 at HB4 ⊢
  have HT4 := Lib.hid (HT3.out.below HB4.out)
  go_wp2_with fail
  refine (H3.out _ HT4.out).mono ?_
  rintro e w5 ⟨vd3, vs3, vl3, rfl, hp5, hb5⟩
  have HB5 := Lib.hid hb5
  obtain ⟨y1, y2, rfl, _, _⟩ := reads_shape hp5.d (m := 0) rfl
  obtain ⟨y3, y4, rfl, _, _⟩ := reads_shape hp5.s (m := 0) rfl
  obtain ⟨y5, y6, rfl, _, _⟩ := reads_shape hp5.k (m := 0) rfl
  have HB6 := Lib.hid (plus_one1 w5 (.cells #[.slice y1 0 y2, .slice y3 0 y4, .slice y5 0 y6] 26))
  clear hp5 hb5
  go_upto_region 4 with (fail)
  generalize w5.alloc (.cells #[.slice y1 0 y2, .slice y3 0 y4, .slice y5 0 y6] 26) = w6 at HB6 ⊢
  have HB26 := Lib.hid (HB3.out.trans ((HB4.out.trans ((HB5.out.trans (HB6.out.mono HB5.out.size)).mono HB4.out.size)).mono HB3.out.size))
  have HB16 := Lib.hid (HB2.out.trans (HB26.out.mono HB2.out.size))
  have HBX := Lib.hid (HB1.out.trans (HB16.out.mono HB1.out.size))
  have hc6 := (HB26.out.block pb (lt_of_block HC1.out)).trans HC1.out
  have q0 : w6.cell? ⟨pb, 0, none⟩ = some (.slice ad 2 cd) := blk_cell hc6 0
  have q1 : w6.cell? ⟨pb, 1, none⟩ = some (.slice (some ⟨bs, os, none⟩) 2 cs) := blk_cell hc6 1
  have q2 : w6.cell? ⟨pb, 2, none⟩ = some (.slice (some ⟨bl, ol, none⟩) 1 cl) := blk_cell hc6 2
  have s0 := below_cell1 HB16.out (block_lt_of_cell HCS.out.1) HCS.out.1
  have s1 := below_cell1 HB16.out (block_lt_of_cell HCS.out.2) HCS.out.2
  have l0 := below_cell1 HB16.out (block_lt_of_cell HCL.out.1) HCL.out.1
  have l1 := below_cell1 HB16.out (block_lt_of_cell HCL.out.2.1) HCL.out.2.1
  have l2 := below_cell1 HB16.out (block_lt_of_cell HCL.out.2.2.1) HCL.out.2.2.1
  have l3 := below_cell1 HB16.out (block_lt_of_cell HCL.out.2.2.2) HCL.out.2.2.2
  have hpr := HP1.out.below HB16.out
  have hk := check_calls hpr.d hpr.s hpr.k (by intro x hx; simp only [aw4P, List.mem_cons, List.not_mem_nil, or_false] at hx; rcases hx with rfl | rfl <;> decide)
  rw [aw4_check] at hk
  have HK := Lib.hid hk
  clear hpr hk hc6
  go_wp2_with fail
  refine HK.out.mono ?_
  rintro e w7 ⟨rfl, hb7⟩
  have hk2 := check_calls (w := w7) (D := []) (S := []) (K := []) (Reads.nil _ _) (Reads.nil _ _) (Reads.nil _ _) (by intro x hx; cases hx)
  rw [no_check] at hk2
  have HB7 := Lib.hid (HBX.out.trans (hb7.mono HBX.out.size))
  have HK2 := Lib.hid hk2
  clear hb7 hk2
  go_wp2_with fail
  refine HK2.out.mono ?_
  rintro e w8 ⟨rfl, hb8⟩
  have HB8 := Lib.hid (HB7.out.trans (hb8.mono HB7.out.size))
  clear hb8
  go_wp2_with fail
  go_ret
  exact ⟨rfl, HB8.out⟩
end Go.Proofs.YtkjhgfjlknbdkaaDoor
