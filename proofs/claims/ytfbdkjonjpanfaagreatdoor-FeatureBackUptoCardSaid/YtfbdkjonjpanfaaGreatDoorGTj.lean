/- What a row that lists the powers of ten gives the walks. -/
import Derived.Test.YtfbdkjonjpanfaaGreatDoorGTi

set_option linter.unusedVariables false
set_option linter.unusedSimpArgs false
namespace Go.Proofs.YtfbdkjonjpanfaaGreatDoor
open Go.RowKit
theorem pow10_data : (Rows.laid_internal_strconv_uint64pow10 : DataW Unit) = Lib.tabData .u64 Lib.pow10Tab := by kernel_rfl
/-- what the row's list and the world's shape give the walks -/
theorem tabi_of {W : World} {l : List (String × DataW Unit)} (hp : ∀ W, laidMetH Tryz.prog l W = laidMet Tryz.prog l W) (hm : ("internal/strconv.uint64pow10", (Rows.laid_internal_strconv_uint64pow10 : DataW Unit)) ∈ l) (h : laidMetH Tryz.prog l W) : TabI W := by
  rw [hp] at h
  obtain ⟨g, t, cs, fuel, p, hg, hty, hvar, hd⟩ := Lib.laidMet.reads h hm
  rw [pow10_data] at hd
  obtain rfl := Option.some.inj ((show Tryz.prog.globalNamed "internal/strconv.uint64pow10" = some 3 by kernel_rfl).symm.trans hg)
  obtain rfl := Option.some.inj ((show (Tryz.prog.globals[3]?).map (·.type) = some 186 by kernel_rfl).symm.trans hty)
  have := Lib.cells_of_tab Tryz.underlying186 Tryz.underlying159 (by kernel_rfl) (by kernel_rfl) hd
  unfold TabI Lib.TabIs
  rw [hvar, ← this]
end Go.Proofs.YtfbdkjonjpanfaaGreatDoor
