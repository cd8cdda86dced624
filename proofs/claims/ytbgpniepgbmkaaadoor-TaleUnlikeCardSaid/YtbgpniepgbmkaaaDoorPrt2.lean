/- The document's Num (parcloseref04.Num): the decimal digits of a number. Condition: from 0 to 9999. -/
import Derived.Test.YtbgpniepgbmkaaaDoorPrt1
import Derived.Test.YtbgpniepgbmkaaaDoorOrd
import Derived.Lib.ItoaLen
namespace Go.Proofs.YtbgpniepgbmkaaaDoor
open Go.RowKit BigFrame Go.BigFrame

theorem itoa_small {n : Nat} (h : n < 10) : Lib.itoa (n : Int) = [UInt8.ofNat (48 + n)] := by
  unfold Lib.itoa
  rw [if_neg (by omega), Int.toNat_natCast, Lib.decDigits, dif_pos h]
theorem itoa_big {n : Nat} (h : ¬ n < 10) : Lib.itoa (n : Int) = Lib.itoa ((n / 10 : Nat) : Int) ++ [UInt8.ofNat (48 + n % 10)] := by
  unfold Lib.itoa
  rw [if_neg (by omega), if_neg (by omega), Int.toNat_natCast, Int.toNat_natCast, Lib.decDigits, dif_neg h]
theorem conv_one {w : World} {g m : Nat} (hm : m < 10) (h : w.cell? ⟨g, 0, none⟩ = some (.int .u8 (48 + (m : Int)))) :
    (convert 76 9 (.slice (some ⟨g, 0, none⟩) 1 1)).run Tryd.prog w = .ok (.string ⟨#[UInt8.ofNat (48 + m)]⟩) w := by
  have hx : ((UInt8.ofNat (48 + m)).toNat : Int) = 48 + (m : Int) := by
    have : (UInt8.ofNat (48 + m)).toNat = 48 + m := by simp; omega
    rw [this]; omega
  exact run_convert_bytes_back (P := Tryd.prog) w 76 9 5 ⟨g, 0, none⟩ 1 [UInt8.ofNat (48 + m)] Tryd.underlying76 Tryd.underlying5 Tryd.underlying9 (fun j hj => by
    have : j = 0 := by simp at hj; omega
    subst this
    show w.cell? ⟨g, 0, none⟩ = some (.int .u8 ((UInt8.ofNat (48 + m)).toNat : Int))
    rw [hx, h])
theorem wrap_small (n : Nat) (h : n < 9223372036854775808) : IntKind.i64.wrap (n : Int) = (n : Int) := by rw [IntKind.wrap_i64]; omega
end Go.Proofs.YtbgpniepgbmkaaaDoor
