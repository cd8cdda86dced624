/- The fixed fact of layer 6 is true, in whatever memory. No condition. -/
import Derived.Test.YtbmkioaomjnggaaArena2
namespace Go.Proofs.Ytbmkioaomjnggaa
open Go.RowKit

def aw0 : Ar := Ar.new 2
def aw1 : Ar := aw0.take.2.2
def aw2 : Ar := aw1.take.2.2
def aw3 : Ar := aw2.take.2.2
def aw4 : Ar := (aw3.giveBack 1).2
def aw5 : Ar := aw4.take.2.2
theorem aw_take0 : aw0.take = (1, true, aw1) := by decide +kernel
theorem aw_take1 : aw1.take = (2, true, aw2) := by decide +kernel
theorem aw_take2 : aw2.take = (0, false, aw3) := by decide +kernel
theorem aw_free3 : aw3.giveBack 1 = (true, aw4) := by decide +kernel
theorem aw_take4 : aw4.take = (17, true, aw5) := by decide +kernel
theorem aw_is5 : aw5.place 1 = -1 := by decide +kernel
theorem aw_place5 : aw5.place 17 = 0 := by decide +kernel
theorem aw_free5 : aw5.giveBack 1 = (false, aw5) := by decide +kernel

set_option maxHeartbeats 4000000 in
theorem awake6_calls (w : World) : Calls Try.prog 25 #[] w fun e w' => e = .returned (.bool true) ∧ Below w.heap.size w w' := by
  go_enter Try.func25, Try.ntmps25
  go_wp2_with fail
  refine (anew_calls 2 w (by omega) (by omega)).mono ?_
  rintro e w1 ⟨g, F, rfl, hA, hF, hb⟩
  have hx1 := Ext.of_below (F := F) hb
  go_wp2_with fail
  refine (take_calls (A := aw0) hA).mono ?_
  rw [aw_take0]
  rintro e w2 ⟨rfl, hA, hx⟩
  have hx1 := hx1.then hx
  go_wp2_with fail
  refine (take_calls hA).mono ?_
  rw [aw_take1]
  rintro e w3 ⟨rfl, hA, hx⟩
  have hx1 := hx1.then hx
  go_wp2_with fail
  refine (take_calls hA).mono ?_
  rw [aw_take2]
  rintro e w4 ⟨rfl, hA, hx⟩
  have hx1 := hx1.then hx
  go_wp2_with fail
  refine (free_calls hA 1 (by omega)).mono ?_
  rw [aw_free3]
  rintro e w5 ⟨rfl, hA, hx⟩
  have hx1 := hx1.then hx
  go_wp2_with fail
  refine (take_calls hA).mono ?_
  rw [aw_take4]
  rintro e w6 ⟨rfl, hA, hx⟩
  have hx1 := hx1.then hx
  go_wp2_with fail
  refine (is_calls hA 1 (by omega)).mono ?_
  rw [aw_is5]
  rintro e w7 ⟨rfl, rfl⟩
  go_wp2_with fail
  refine (place_calls hA 17 (by omega)).mono ?_
  rw [aw_place5]
  rintro e w7 ⟨rfl, rfl⟩
  go_wp2_with fail
  refine (free_calls hA 1 (by omega)).mono ?_
  rw [aw_free5]
  rintro e w7 ⟨rfl, hA, hx⟩
  have hx1 := hx1.then hx
  go_wp2
  go_ret
  exact ⟨rfl, hx1.below (fun k hk h => by have := hF k h; omega)⟩
end Go.Proofs.Ytbmkioaomjnggaa
