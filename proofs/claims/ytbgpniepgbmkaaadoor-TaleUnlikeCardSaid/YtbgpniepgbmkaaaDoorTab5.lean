/- The library's table and its two errors at the listed rows (seat r5: tale). No condition. -/
import Derived.Test.YtbgpniepgbmkaaaDoorTalB
import Derived.Test.YtbgpniepgbmkaaaDoorRows
import Derived.Lib.LaidTab
import Derived.LaidMore
import Derived.MakeChecks
import Derived.Stop.LaidErr
namespace Go.Proofs.YtbgpniepgbmkaaaDoor
open Go.ChangeShapes Go.WideShapes Go.Deep Go.RowKit Go
theorem err_star : "*" ++ "errors.errorString" = "*errors.errorString" := by decide
theorem row_err (u : TypeId) (h : Tryd.prog.typeName? 3 u = some "*errors.errorString") : u = 151 :=
  typeName_ptr_named (nm := "errors.errorString") (by rw [err_star]; kernel_rfl) (by kernel_rfl) (by decide) u (by rw [err_star]; exact h)
set_option maxRecDepth 100000 in
/-- The library's variables at a listed row. -/
theorem tab_of_laid {W : World} (h : laidMetH Tryd.prog [("math/bits.deBruijn32tab", Rows.laid_math_bits_deBruijn32tab), ("math/bits.deBruijn64tab", Rows.laid_math_bits_deBruijn64tab), ("internal/strconv.uint64pow10", Rows.laid_internal_strconv_uint64pow10), ("strconv.ErrRange", Rows.laid_strconv_ErrRange), ("strconv.ErrSyntax", Rows.laid_strconv_ErrSyntax)] W) : TabT W := by
  rw [MakeChecks.laidMetH_plain _ _ _ (by kernel_rfl)] at h
  have h2 := h.tail.tail
  obtain ⟨a0, s0, hv0, -, -, -⟩ := laid_sentinel (ti := 81) (tp := 151) (te := 153) (ts := 9) h2.tail (g := 5) (by kernel_rfl) (by kernel_rfl) Tryd.underlying81 row_err Tryd.underlying151 Tryd.underlying153 rfl rfl Tryd.underlying9 (by kernel_rfl) (by kernel_rfl)
  obtain ⟨a1, s1, hv1, -, -, -⟩ := laid_sentinel (ti := 81) (tp := 151) (te := 153) (ts := 9) h2.tail.tail (g := 4) (by kernel_rfl) (by kernel_rfl) Tryd.underlying81 row_err Tryd.underlying151 Tryd.underlying153 rfl rfl Tryd.underlying9 (by kernel_rfl) (by kernel_rfl)
  have h3 : laidMet Tryd.prog [("internal/strconv.uint64pow10", Lib.tabData .u64 Lib.pow10Tab), ("strconv.ErrRange", Rows.laid_strconv_ErrRange), ("strconv.ErrSyntax", Rows.laid_strconv_ErrSyntax)] W := h2
  obtain ⟨g, hg⟩ := tab_global
  have e : some g = some 0 := hg.symm.trans (by kernel_rfl)
  obtain rfl := Option.some.inj e
  exact ⟨Lib.tabIs_of_head (t := 129) (e := 91) (n := 20) hg (by kernel_rfl) Tryd.underlying129 Tryd.underlying91 (by kernel_rfl) (by kernel_rfl) h3, ⟨_, _, hv1⟩, ⟨_, _, hv0⟩⟩
end Go.Proofs.YtbgpniepgbmkaaaDoor
