/- The table of powers of ten, out of the condition on the laid variables. -/
import Derived.Test.YtnejkfccdnadcaaDoorLaid
import Derived.Test.YtnejkfccdnadcaaDoorLexJa
import Derived.Lib.LaidU8
import Derived.Lib.LaidTab
namespace Go.Proofs.YtnejkfccdnadcaaDoor
open Go.RowKit

theorem tab_of_laid {W : World} (h : laidMetH Tryd.prog Rows.runReadsRow.laid W) : Lib.TabIs Tryd.prog W "internal/strconv.uint64pow10" .u64 Lib.pow10Tab := by
  rw [MakeChecks.laidMetH_plain _ _ _ (by kernel_rfl)] at h
  have hm : ("internal/strconv.uint64pow10", Rows.laid_internal_strconv_uint64pow10) ∈ Rows.runReadsRow.laid := by
    unfold Rows.runReadsRow
    simp
  obtain ⟨g, t, cs, fuel, p, hg, ht, hv, hd⟩ := Lib.laidMet.reads h hm
  have hg0 : Tryd.prog.globalNamed "internal/strconv.uint64pow10" = some 0 := by kernel_rfl
  obtain rfl := Option.some.inj (hg0.symm.trans hg)
  have e : (Rows.laid_internal_strconv_uint64pow10 : DataW Unit) = Lib.tabData .u64 Lib.pow10Tab := by kernel_rfl
  rw [e] at hd
  have hty : (Tryd.prog.globals[0]?).map (·.type) = some 139 := by kernel_rfl
  obtain rfl := Option.some.inj (hty.symm.trans ht)
  unfold Lib.TabIs
  rw [hv, ← Lib.cells_of_tab Tryd.underlying139 Tryd.underlying100 (by kernel_rfl) (by kernel_rfl) hd]

end Go.Proofs.YtnejkfccdnadcaaDoor
