/- Bytes in great letters, as cells, as many walks ask for them. No program in sight but its types. -/
import Derived.Test.YtfbdkjonjpanfaaGreatDoorApp
import Derived.Test.YtfbdkjonjpanfaaGreatDoorLexB
import Derived.Test.YtfbdkjonjpanfaaGreatDoorPureR
set_option linter.unusedVariables false
set_option linter.unusedSimpArgs false
namespace Go.Proofs.YtfbdkjonjpanfaaGreatDoor
open Go.RowKit Go.Rg

theorem info_u8 : (Tryz.prog.info? 5).map (fun i => (i.zero, i.size, i.bytes)) = some (some (.int .u8 0), 1, 1) := by kernel_rfl

theorem up_sub (c : UInt8) (h : Lx.small c = true) : ((Lx.up c).toNat : Int) = (c.toNat : Int) - 32 := by
  unfold Lx.up
  rw [if_pos h]
  unfold Lx.small at h
  simp at h
  rw [UInt8.toNat_sub_of_le]
  · simp; omega
  · rw [UInt8.le_iff_toNat_le]; simp; omega
theorem up_same (c : UInt8) (h : Lx.small c = false) : Lx.up c = c := by unfold Lx.up; rw [if_neg (by rw [h]; simp)]

theorem u8s_snoc (s : ByteArray) (k : Nat) (h : k < s.size) : u8s ((Lx.upper s.data.toList).take (k + 1)) = u8s ((Lx.upper s.data.toList).take k) ++ [.int .u8 ((Lx.up s[k]).toNat : Int)] := by
  unfold u8s Lx.upper
  rw [List.take_succ_eq_append_getElem (by rw [List.length_map, ← Lib.size_eq]; exact h), List.map_append]
  simp
  rfl

end Go.Proofs.YtfbdkjonjpanfaaGreatDoor
