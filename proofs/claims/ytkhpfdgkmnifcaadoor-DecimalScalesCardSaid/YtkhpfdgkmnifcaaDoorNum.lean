/- gromaref10.Number. Printed by wip/genum.py. -/
import Derived.Test.YtkhpfdgkmnifcaaDoorNumA
import Derived.Test.YtkhpfdgkmnifcaaDoorNumB
import Derived.Test.YtkhpfdgkmnifcaaDoorNumC
set_option linter.unusedVariables false
set_option linter.unusedSimpArgs false
namespace Go.Proofs.YtkhpfdgkmnifcaaDoor
open Go.RowKit Go.Rg Bg
attribute [local go_sem] Oper.semAt_some

theorem number_any (s : ByteArray) (w : World) (sg a dt b ex sp q : List UInt8) (hp : Dc.Parts s.data.toList sg a dt b ex sp q) (hs : s.size ≤ 200) (hq : q.length ≤ 15) :
    Calls Tryd.prog 11 #[.string s] w fun e w' => ∃ v, e = .returned (.tuple #[v, .int .i64 (Dc.numE b sp q)]) ∧ Big w' v (Dc.numV sg a b) ∧ Below w.heap.size w w' := by
  rcases hp.hsg with h | h | h
  · exact number_A s w sg a dt b ex sp q hp hs hq h
  · exact number_B s w sg a dt b ex sp q hp hs hq h
  · exact number_C s w sg a dt b ex sp q hp hs hq h
end Go.Proofs.YtkhpfdgkmnifcaaDoor
