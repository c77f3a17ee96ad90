/- The laws on decimal texts, as their rows hand in what they are told. -/
import Derived.Test.YtkhpfdgkmnifcaaDoorDlT
import Derived.DataShut
set_option linter.unusedVariables false
set_option linter.unusedSimpArgs false
namespace Go.Proofs.YtkhpfdgkmnifcaaDoor
open Go.RowKit
theorem i64_wf {n : Int} (h : (Lit.int .i64 n).wf = true) : -9223372036854775808 ≤ n ∧ n ≤ 9223372036854775807 := (Lit.wf_int_iff .i64 n).1 h
theorem lawTextsC (n : Int) (hn : (Lit.int .i64 n).wf = true) (fine : Int) (hf : (Lit.int .i64 fine).wf = true) (w : World) (ht : Tabs w) :
    Calls Tryd.prog 4 #[.int .i64 n, .int .i64 fine] w fun e w' => e = .returned (.bool true) ∧ Below w.heap.size w w' :=
  lawTextsW n fine w ht (i64_wf hn).1 (i64_wf hn).2
end Go.Proofs.YtkhpfdgkmnifcaaDoor
